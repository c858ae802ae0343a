/- KeydirFree's walk. -/
import Derived.Test.YtbhnfohoclcjdaaKdV
set_option linter.unusedVariables false
set_option linter.unusedSimpArgs false
namespace Go.Proofs.Ytbhnfohoclcjdaa
open Go.RowKit Go.Dr Go.Kd
theorem one36 {a : List Int} (ha : a.length = 32) : spl Try.zeroCells36 0 (a.map (Value.int .u8)) = ints .u8 (a ++ zs 96) := by
  have h : Try.zeroCells36 = ints .u8 (zs 128) := by kernel_rfl
  rw [h, spl_ints]
  congr 1
  unfold lay
  rw [List.take_zero, List.nil_append, Nat.zero_add, ha]
  rfl
set_option maxRecDepth 10000 in
theorem one39 {a : List Int} (ha : a.length = 32) : spl Try.zeroCells39 0 ((a ++ zs 96).map (Value.int .u8)) = ints .u8 (twoC a (Kd.zeros 32)) := by
  have h : Try.zeroCells39 = ints .u8 (zs 133) := by kernel_rfl
  rw [h, spl_ints]
  congr 1
  unfold lay twoC
  rw [List.take_zero, List.nil_append, Nat.zero_add, List.length_append, ha, List.append_assoc]
  rfl
theorem checkF_key {T : List Tm} {first : List Bs} {high : List Int} {need : Nat} {y : Ob} {now : Int} (h : y.key.length = 32) : (checkF T first high need 0 [y] now).1.length = 32 := by
  unfold checkF
  split
  · rfl
  · have hk : ∀ (K : Option Bs), K = chainF T first need 0 [y] 0 (first.getD (0 : Int).toNat []) → K = none ∨ K = some y.key := fun K hK => by
      rw [hK, chainF]
      split
      · exact .inl rfl
      · exact .inr rfl
    rcases hk _ rfl with h1 | h1
    · rw [h1]; rfl
    · rw [h1]
      simp only [List.getLast?_singleton]
      split
      · rfl
      · split
        · rfl
        · exact h
@[go_sem] theorem eq22 (a b : List Int) (ha : a.length = 32) (hb : b.length = 32) (w : World) : (Op.equalIn 10000 22 (.agg (ints .u8 a)) (.agg (ints .u8 b))).run Try.prog w = .ok (decide (a = b)) w :=
  let ⟨_, hi⟩ := exInfo5
  run_eq_ints 9998 .u8 .u8 Try.underlying22 hi (by kernel_rfl) Try.underlying5 (fun w => by kernel_rfl) a b ha hb w
@[go_sem] theorem eq22_lit (a : List Int) (L : List Value) (hL : L = (litsOf L).map (Value.int .u8)) (ha : a.length = 32) (hl : L.length = 32) (w : World) :
    (Op.equalIn 10000 22 (.agg (ints .u8 a)) (.agg L.toArray)).run Try.prog w = .ok (a == litsOf L) w := by
  have h : L.toArray = ints .u8 (litsOf L) := by
    conv => lhs; rw [hL]
    rfl
  rw [h, eq22 a _ ha (by rw [hL] at hl; simpa using hl), beq_dec]
section
variable {w : World}
set_option maxRecDepth 100000 in
set_option maxHeartbeats 4000000 in
theorem keydirFree_walk {s0 n0 now : Int} {key sig by_ : List Int} {frm til : Int} {vp : Option Addr} {vm vc : Nat} (hk : key.length = 32) (hs : sig.length = 64) (hkb : isBytes key) (hsb : isBytes sig) (hf0 : 0 ≤ frm) (hf1 : frm < 4294967296) (ht0 : 0 ≤ til) (ht1 : til < 4294967296) (hby : by_.length = 32) (hbb : isBytes by_) (hn0 : 0 ≤ now) (hn1 : now < 4294967296) :
    Calls Try.prog 3 #[.agg (cObject (.int .u8 s0) (.int .u8 n0) key (.int .u32 frm) (.int .u32 til) sig (.slice vp vm vc)).toArray, .agg (ints .u8 by_), .int .u32 now] w fun e w' => e = .returned (.bool true) ∧ Fr [] w w' := by
  obtain ⟨X0, hX0⟩ : ∃ X, X = (cObject (.int .u8 s0) (.int .u8 n0) key (.int .u32 frm) (.int .u32 til) sig (.slice vp vm vc)).toArray := ⟨_, rfl⟩
  rw [← hX0]
  obtain ⟨x, hx⟩ : ∃ x : Ob, x = ⟨0, 1, key, frm, til, sig, []⟩ := ⟨_, rfl⟩
  have okx : ObOk x := by rw [hx]; exact ⟨Int.le_refl 0, (by show (0 : Int) < 256; omega), (by show (0 : Int) ≤ 1; omega), (by show (1 : Int) < 256; omega), hf0, hf1, ht0, ht1, hk, hs, hkb, hsb, rfl⟩
  obtain ⟨X1, hX1⟩ : ∃ X, X = (cObject (.int .u8 0) (.int .u8 n0) key (.int .u32 frm) (.int .u32 til) sig (.slice vp vm vc)).toArray := ⟨_, rfl⟩
  obtain ⟨X2, hX2⟩ : ∃ X, X = (cObject (.int .u8 0) (.int .u8 1) key (.int .u32 frm) (.int .u32 til) sig (.slice vp vm vc)).toArray := ⟨_, rfl⟩
  obtain ⟨X, hX⟩ : ∃ X, X = obC x := ⟨_, rfl⟩
  have e1 : X0.setIfInBounds 0 (.int .u8 0) = X1 := by rw [hX0, hX1]; exact cObject_set_server _ _ _ _ _ _ _ _ hk hs
  have e2 : X1.setIfInBounds 1 (.int .u8 1) = X2 := by rw [hX1, hX2]; exact cObject_set_n _ _ _ _ _ _ _ _ hk hs
  have e3 : X2.setIfInBounds 100 (.slice none 0 0) = X := by rw [hX2, hX, hx]; exact cObject_set_vs _ _ _ _ _ _ _ _ hk hs
  have z0 : X0.size = 101 := by rw [hX0, List.size_toArray, cObject_length _ _ _ _ _ _ _ hk hs]
  have z1 : X1.size = 101 := by rw [hX1, List.size_toArray, cObject_length _ _ _ _ _ _ _ hk hs]
  have z2 : X2.size = 101 := by rw [hX2, List.size_toArray, cObject_length _ _ _ _ _ _ _ hk hs]
  have z3 : X.size = 101 := by rw [hX, List.size_toArray, cObject_length _ _ _ _ _ _ _ okx.kl okx.sl]
  have xall : X.extract 0 101 = X := by rw [← z3]; exact Array.extract_size
  have g3 : X[34]? = some (.int .u32 frm) := by rw [hX, hx]; exact cObject_get_frm _ _ _ _ _ _ _ hk hs
  have g4 : X[35]? = some (.int .u32 til) := by rw [hX, hx]; exact cObject_get_til _ _ _ _ _ _ _ hk hs
  obtain ⟨o1, ho1⟩ : ∃ o, o = free1.2.1 := ⟨_, rfl⟩
  obtain ⟨T1, hT1⟩ : ∃ T, T = free1.1 := ⟨_, rfl⟩
  obtain ⟨o2, ho2⟩ : ∃ o, o = (free2 by_).2.1 := ⟨_, rfl⟩
  obtain ⟨T2, hT2⟩ : ∃ T, T = (free2 by_).1 := ⟨_, rfl⟩
  obtain ⟨a1, ha1⟩ : ∃ o, o = (free3 by_).2.1 := ⟨_, rfl⟩
  obtain ⟨T3, hT3⟩ : ∃ T, T = (free3 by_).1 := ⟨_, rfl⟩
  obtain ⟨T4, hT4⟩ : ∃ T, T = (free4 by_ x).1 := ⟨_, rfl⟩
  obtain ⟨sg, hsg⟩ : ∃ s, s = (free4 by_ x).2 := ⟨_, rfl⟩
  have lo1 : o1.length = 32 := by rw [ho1]; exact makeT_len _ _
  have lo2 : o2.length = 32 := by rw [ho2]; exact makeT_len _ _
  have la1 : a1.length = 32 := by rw [ha1]; exact makeT_len _ _
  have bo1 : isBytes o1 := by rw [ho1]; exact byt_makeT
  have bo2 : isBytes o2 := by rw [ho2]; exact byt_makeT
  have ba1 : isBytes a1 := by rw [ha1]; exact byt_makeT
  have lsg : sg.length = 64 := by rw [hsg]; exact signF_len _ _ _
  have bsg : isBytes sg := by rw [hsg]; exact byt_signF
  obtain ⟨y, hy⟩ : ∃ y : Ob, y = { x with sig := sg } := ⟨_, rfl⟩
  have oky : ObOk y := by rw [hy]; exact ob_sig okx lsg bsg
  obtain ⟨Y, hY⟩ : ∃ Y, Y = obC y := ⟨_, rfl⟩
  have szY : Y.size = 101 := by rw [hY, List.size_toArray, cObject_length _ _ _ _ _ _ _ oky.kl oky.sl]
  have b200 : isBytes (key1 200) := fun v hv => by
    simp only [key1, List.mem_cons, Kd.zeros, List.mem_replicate] at hv
    omega
  obtain ⟨c128, hc128⟩ : ∃ c, c = a1 ++ zs 96 := ⟨_, rfl⟩
  obtain ⟨C, hC⟩ : ∃ C, C = twoC a1 (Kd.zeros 32) := ⟨_, rfl⟩
  have e36 : spl Try.zeroCells36 0 (a1.map (Value.int .u8)) = ints .u8 c128 := by rw [hc128]; exact one36 la1
  have e39 : spl Try.zeroCells39 0 (c128.map (Value.int .u8)) = ints .u8 C := by rw [hc128, hC]; exact one39 la1
  have l128 : c128.length = 128 := by rw [hc128, List.length_append, la1]; rfl
  have z39 : Try.zeroCells39.size = 133 := by kernel_rfl
  have z36 : Try.zeroCells36.size = 128 := by kernel_rfl
  have lC : C.length = 133 := by rw [hC]; exact twoC_length la1 rfl
  have ct : List.take 133 C = C := List.take_of_length_le (by omega)
  have bz : isBytes (Kd.zeros 32) := fun v hv => by
    simp only [Kd.zeros, List.mem_replicate] at hv
    omega
  have bC : isBytes C := by rw [hC]; exact twoC_bytes ba1 bz
  have fC : firstC C = freeC by_ := by rw [hC, firstC_two la1 rfl, ha1]; rfl
  have hgC : highC C = [0, 0, 0, 0] := by rw [hC, highC_two la1 rfl]
  have nC : needC C = 0 := by rw [hC, needC_two la1 rfl]
  obtain ⟨nw, hnw⟩ := Int.eq_ofNat_of_zero_le hn0
  obtain ⟨kR, hkR⟩ : ∃ k, k = (checkF T4 (freeC by_) [0, 0, 0, 0] 0 0 [y] now).1 := ⟨_, rfl⟩
  obtain ⟨nR, hnR⟩ : ∃ k, k = (checkF T4 (freeC by_) [0, 0, 0, 0] 0 0 [y] now).2.1 := ⟨_, rfl⟩
  obtain ⟨eR, heR⟩ : ∃ k, k = (checkF T4 (freeC by_) [0, 0, 0, 0] 0 0 [y] now).2.2 := ⟨_, rfl⟩
  have lkR : kR.length = 32 := by rw [hkR]; exact checkF_key oky.kl
  have law : eR = if by_ = key1 200 then (if now < frm ∨ til ≤ now then 201 else 0) else 200 := by
    have h := free_law (by_ := by_) (x := x) (now := now) (by rw [hx]) (by rw [hx]) (by rw [hx]) okx.kl hby
    rw [heR, hT4, hy, hsg]
    rw [show x.frm = frm by rw [hx], show x.til = til by rw [hx]] at h
    exact h
  have HLAW := Lib.hid law
  clear law
  have ca : ∀ W : World, Calls Try.prog 5 #[] W fun e w' => e = .returned (.bool true) ∧ Fr [] W w' := fun _ => alive_f
  have c1 : ∀ (lo tb : Nat) (W : World), TabP lo tb W [] → Calls Try.prog 7 #[SU tb, .agg (ints .u8 (key1 200))] W fun e w' => e = .returned (.agg (ints .u8 o1)) ∧ TabP lo tb w' T1 ∧ FrP lo W w' := fun lo tb W h => by rw [ho1, hT1]; exact fresh_f h rfl b200
  have c2 : ∀ (lo tb : Nat) (W : World), TabP lo tb W T1 → Calls Try.prog 7 #[SU tb, .agg (ints .u8 by_)] W fun e w' => e = .returned (.agg (ints .u8 o2)) ∧ TabP lo tb w' T2 ∧ FrP lo W w' := fun lo tb W h => by rw [ho2, hT2]; rw [hT1] at h; exact fresh_f h hby hbb
  have c3 : ∀ (lo tb : Nat) (W : World), TabP lo tb W T2 → Calls Try.prog 8 #[SU tb, .agg (ints .u8 o1)] W fun e w' => e = .returned (.agg (ints .u8 a1)) ∧ TabP lo tb w' T3 ∧ FrP lo W w' := fun lo tb W h => by
    rw [ha1, hT3]; rw [hT2] at h
    have := signer_f h lo1 bo1
    rw [ho1] at this ⊢
    exact this
  have c4 : ∀ (lo tb : Nat) (W : World), TabP lo tb W T3 → Calls Try.prog 10 #[SU tb, .agg (ints .u8 o2), .agg X] W fun e w' => e = .returned (.agg Y) ∧ TabP lo tb w' T4 ∧ FrP lo W w' := fun lo tb W h => by
    rw [hY, hy, hsg, hT4, hX]; rw [hT3] at h
    have := ksign_f h lo2 bo2 okx
    rw [ho2] at this ⊢
    exact this
  have c5 : ∀ (lo tb : Nat) (W : World) (g : Nat), W.blk g = some (.cells Y 29) → TabP lo tb W T4 → Calls Try.prog 9 #[SU tb, .agg (ints .u8 C), .int .u8 0, .slice (some ⟨g, 0, none⟩) 1 1, .int .u32 now] W fun e w' => e = .returned (.tuple #[.agg (ints .u8 kR), .int .u8 nR, .int .i64 eR]) ∧ Fr [] W w' := fun lo tb W g hg h => by
    have := check_f (server := 0) (now := nw) (xs := [y]) h lC bC (by omega) (by omega) (by rw [List.flatMap_cons, List.flatMap_nil, List.append_nil, ← hY]; exact sv_one hg szY) rfl (by intro z hz; rw [List.mem_singleton] at hz; rw [hz]; exact oky) (by simp)
    rw [fC, hgC, nC, show (((0 : Nat) : Int)) = 0 from rfl, ← hnw, ← hkR, ← hnR, ← heR] at this
    exact this
  have CA := Lib.hid ca
  have C1 := Lib.hid c1
  have C2 := Lib.hid c2
  have C3 := Lib.hid c3
  have C4 := Lib.hid c4
  have C5 := Lib.hid c5
  clear ca c1 c2 c3 c4 c5 fC hgC nC hkR hnR heR hnw hC hc128 hY hy hsg hT4 hT3 ha1 hT2 ho2 hT1 ho1 hX hX2 hX1 hX0 hx okx oky bo1 bo2 ba1 bsg b200 bz bC hf0 hf1 ht0 ht1 hn0 hn1 hkb hsb hbb
  go_enter Try.func3, Try.ntmps3
  have x34 := (Array.getElem?_eq_some_iff.1 g3).2
  have x35 := (Array.getElem?_eq_some_iff.1 g4).2
  go_wp2_with fail
  refine named_world (A := fun X => OwB w [(w.heap.size + 1, .cells (ints .u8 by_) 22), (w.heap.size, .cells X0 29)] X) (Q := fun X => Calls _ _ _ X _) (((OwB.start w).allocN _ w.heap.size rfl).allocN _ (w.heap.size + 1) (by simp)) ?_
  intro V hV
  generalize w.heap.size + 1 = b4 at hV ⊢
  generalize w.heap.size = b3 at hV ⊢
  refine (CA.out V).mono ?_
  rintro e V1 ⟨rfl, F⟩
  have HV1 := Lib.hid (hV.call F)
  clear hV F
  go_wp2_with fail
  refine (suite_f).mono ?_
  rintro e V2 ⟨tb, rfl, hT, F⟩
  have HV2 := Lib.hid (HV1.out.call F)
  obtain ⟨lo, hlo⟩ : ∃ lo, lo = V1.heap.size := ⟨_, rfl⟩
  rw [← hlo] at hT
  have hlw : w.heap.size ≤ lo := by rw [hlo]; exact HV1.out.fr.size
  have l4 : b4 < lo := by rw [hlo]; exact HV1.out.lt 0 rfl
  have l3 : b3 < lo := by rw [hlo]; exact HV1.out.lt 1 rfl
  have HT2 := Lib.hid hT
  clear hT F hlo
  go_wp2_with fail
  refine named_world (A := fun X => OwB w [(V2.heap.size, .cells #[.pointer (some ⟨tb, 0, none⟩)] 33), (b4, .cells (ints .u8 by_) 22), (b3, .cells X0 29)] X ∧ TabP lo tb X []) (Q := fun X => Calls _ _ _ X _) ⟨HV2.out.allocN _ V2.heap.size rfl, HT2.out.fr0 ((Fr.refl [] V2).alloc _)⟩ ?_
  rintro U1 ⟨hU, hT⟩
  generalize V2.heap.size = b7 at hU ⊢
  change Calls Try.prog 7 #[SU tb, .agg (ints .u8 (key1 200))] _ _
  refine (C1.out lo tb U1 hT).mono ?_
  rintro e V3 ⟨rfl, hT3, F⟩
  have hV3 := hU.callT F (by simp [other, TT]) hlw
  have HV3 := Lib.hid hV3
  have HT3 := Lib.hid hT3
  clear hU hT F hT3
  have f7 := hV3.nth 0 rfl
  have f4 := hV3.nth 1 rfl
  have t7 := World.at_lt f7
  have t4 := World.at_lt f4
  clear hV3
  go_wp2_with fail
  refine named_world (A := fun X => OwB w [(V3.heap.size, .cells (ints .u8 o1) 23), (b7, .cells #[.pointer (some ⟨tb, 0, none⟩)] 33), (b4, .cells (ints .u8 by_) 22), (b3, .cells X0 29)] X ∧ TabP lo tb X T1) (Q := fun X => Calls _ _ _ X _) ⟨HV3.out.allocN _ V3.heap.size rfl, HT3.out.fr0 ((Fr.refl [] V3).alloc _)⟩ ?_
  rintro U2 ⟨hU, hT⟩
  clear f7 f4 t7 t4
  generalize V3.heap.size = b8 at hU ⊢
  refine (C2.out lo tb U2 hT).mono ?_
  rintro e V4 ⟨rfl, hT3, F⟩
  have hV4 := hU.callT F (by simp [other, TT]) hlw
  have HV4 := Lib.hid hV4
  have HT4 := Lib.hid hT3
  clear hU hT F hT3
  have f8 := hV4.nth 0 rfl
  have f7 := hV4.nth 1 rfl
  have t7 := World.at_lt f7
  have t8 := World.at_lt f8
  clear hV4
  go_wp2_with fail
  refine named_world (A := fun X => OwB w [(V4.heap.size, .cells (ints .u8 o2) 23), (b8, .cells (ints .u8 o1) 23), (b7, .cells #[.pointer (some ⟨tb, 0, none⟩)] 33), (b4, .cells (ints .u8 by_) 22), (b3, .cells X0 29)] X ∧ TabP lo tb X T2) (Q := fun X => Calls _ _ _ X _) ⟨HV4.out.allocN _ V4.heap.size rfl, HT4.out.fr0 ((Fr.refl [] V4).alloc _)⟩ ?_
  rintro U3 ⟨hU, hT⟩
  clear f7 f8 t7 t8
  generalize V4.heap.size = b9 at hU ⊢
  refine (C3.out lo tb U3 hT).mono ?_
  rintro e V5 ⟨rfl, hT3, F⟩
  have hV5 := hU.callT F (by simp [other, TT]) hlw
  have HV5 := Lib.hid hV5
  have HT5 := Lib.hid hT3
  clear hU hT F hT3
  have f3 := hV5.nth 4 rfl
  have t3 := World.at_lt f3
  clear hV5
  go_upto_region 10 with (fail)
  refine named_world (A := fun Wz => OwB w [(V5.heap.size, .cells (ints .u8 C) 39), (b9, .cells (ints .u8 o2) 23), (b8, .cells (ints .u8 o1) 23), (b7, .cells #[.pointer (some ⟨tb, 0, none⟩)] 33), (b4, .cells (ints .u8 by_) 22), (b3, .cells X 29)] Wz ∧ TabP lo tb Wz T3) (Q := fun X => Code.wp _ _ _ _ X) ⟨(HV5.out.set 4 _ rfl).allocN _ V5.heap.size (by simp), (HT5.out.put f3 (by decide) _).fr0 ((Fr.refl [] _).alloc _)⟩ ?_
  rintro V6 ⟨hO, hT⟩
  clear f3 t3
  generalize V5.heap.size = b10 at hO ⊢
  have f7 := hO.nth 3 rfl
  have f10 := hO.nth 0 rfl
  have f9 := hO.nth 1 rfl
  have f3 := hO.nth 5 rfl
  have t7 := World.at_lt f7
  have t10 := World.at_lt f10
  have t9 := World.at_lt f9
  have t3 := World.at_lt f3
  have HOV6 := Lib.hid hO
  have HTbV6 := Lib.hid hT
  clear hO hT
  go_cut [11, 12, 13, 31, 32, 33, 34, 35, 36, 37, 38, 39, 40, 41, 42, 43] (fun _ _ v _ _ _ _ _ _ _ _ _ _ _ _ _ wy => v = .int .i64 eR ∧ Hid (OwB w [(b10, .cells (ints .u8 C) 39), (b9, .cells (ints .u8 o2) 23), (b8, .cells (ints .u8 o1) 23), (b7, .cells #[.pointer (some ⟨tb, 0, none⟩)] 33), (b4, .cells (ints .u8 by_) 22), (b3, .cells X 29)] wy))
  case first =>
    refine drawn_begin 16 (fun w' => w'.blk b7 = some (.cells #[.pointer (some ⟨tb, 0, none⟩)] 33) ∧ w'.blk b10 = some (.cells (ints .u8 C) 39) ∧ w'.blk b9 = some (.cells (ints .u8 o2) 23) ∧ w'.blk b3 = some (.cells X 29)) (by kernel_rfl) ?_
    refine drawn_reads (fuel := 11) [0, 1, 2, 3, 4, 7] rfl (by kernel_rfl) ⟨f7, f10, f9, f3⟩ ?_
    repeat (first | (refine rowK_step2 rfl rfl (fun K hK => ?_); go_wp2) | (refine rowK_step rfl (fun K hK => ?_); go_simp; refine hK _ ?_; clear hK K))
    refine rowK_nil ⟨fun w' e1 => ?_, ?_⟩
    · obtain ⟨e1, e2, e3, e4⟩ := e1
      clear f7 f10 f9 f3
      repeat (first | (refine rowWp_step2 rfl rfl (fun K hK => ?_); go_wp2) | (refine rowWp_step rfl (fun K hK => ?_); go_simp; refine hK _ ?_; clear hK K))
      exact rowWp_nil rfl
    refine drawn_next2 5 13 (fuel := 10) rfl rfl (by kernel_rfl) ?_ ?_
    · intro K hK
      go_wp2_with fail
      refine (C4.out lo tb _ (by first | exact HTbV6.out | exact HTbV6.out.fr0 (Fr.refl [] V6).drew)).mono ?_
      rintro e Z6 ⟨rfl, hT, F⟩
      have hO := OwB.callT (by first | exact HOV6.out | exact HOV6.out.drew) F (by simp [other, TT]) hlw
      clear f7 f10 f9 f3 t7 t10 t9 t3
      have f7 := hO.nth 3 rfl
      have f10 := hO.nth 0 rfl
      have f9 := hO.nth 1 rfl
      have f3 := hO.nth 5 rfl
      have t7 := World.at_lt f7
      have t10 := World.at_lt f10
      have t9 := World.at_lt f9
      have t3 := World.at_lt f3
      have HOZ6 := Lib.hid hO
      have HTbZ6 := Lib.hid hT
      clear hO hT F
      go_wp2_with fail
      refine ⟨⟨f7, f10, f9, f3⟩, ?_⟩
      refine drawn_next2 6 13 (fuel := 9) rfl rfl (by kernel_rfl) ?_ ?_
      · intro K hK
        go_wp2_with fail
        refine ⟨⟨by go_simp, by go_simp, by go_simp, by go_simp⟩, ?_⟩
        refine named_world (A := fun Wz => OwB w [(Z6.heap.size, .cells Y 29), (b10, .cells (ints .u8 C) 39), (b9, .cells (ints .u8 o2) 23), (b8, .cells (ints .u8 o1) 23), (b7, .cells #[.pointer (some ⟨tb, 0, none⟩)] 33), (b4, .cells (ints .u8 by_) 22), (b3, .cells X 29)] Wz ∧ TabP lo tb Wz T4) (Q := fun X => Go.Dr.wpAnyS Try.prog .any _ _ _ _ _ _ _ X) (by first | exact ⟨(HOZ6.out.allocN _ Z6.heap.size rfl).drew, HTbZ6.out.fr0 (((Fr.refl [] Z6).alloc _).drew)⟩ | exact ⟨HOZ6.out.allocN _ Z6.heap.size rfl, HTbZ6.out.fr0 ((Fr.refl [] Z6).alloc _)⟩) ?_
        rintro Z11 ⟨hO, hT⟩
        generalize Z6.heap.size = g at hO ⊢
        clear f7 f10 f9 f3 t7 t10 t9 t3
        have f7 := hO.nth 4 rfl
        have f10 := hO.nth 1 rfl
        have f9 := hO.nth 2 rfl
        have f3 := hO.nth 6 rfl
        have t7 := World.at_lt f7
        have t10 := World.at_lt f10
        have t9 := World.at_lt f9
        have t3 := World.at_lt f3
        have HOZ11 := Lib.hid hO
        have HTbZ11 := Lib.hid hT
        clear hO hT
        refine drawn_next2 8 13 (fuel := 8) rfl rfl (by kernel_rfl) ?_ ?_
        · intro K hK
          go_wp2_with fail
          refine (C5.out lo tb Z11 g (HOZ11.out.nth 0 rfl) HTbZ11.out).mono ?_
          rintro e Z15 ⟨rfl, F⟩
          have hO := HOZ11.out.call F
          clear f7 f10 f9 f3 t7 t10 t9 t3
          have f7 := hO.nth 4 rfl
          have f10 := hO.nth 1 rfl
          have f9 := hO.nth 2 rfl
          have f3 := hO.nth 6 rfl
          have t7 := World.at_lt f7
          have t10 := World.at_lt f10
          have t9 := World.at_lt f9
          have t3 := World.at_lt f3
          have HOZ15 := Lib.hid hO
          have HTbZ15 := Lib.hid (HTbZ11.out.fr0 F)
          clear hO F
          go_wp2_with fail
          refine ⟨⟨f7, f10, f9, f3⟩, ?_⟩
          refine drawn_reads (fuel := 4) [9, 10, 11, 12] rfl (by kernel_rfl) ⟨f7, f10, f9, f3⟩ ?_
          repeat (first | (refine rowK_step2 rfl rfl (fun K hK => ?_); go_wp2) | (refine rowK_step rfl (fun K hK => ?_); go_simp; refine hK _ ?_; clear hK K))
          refine rowK_nil ⟨fun w' e1 => ?_, ?_⟩
          · repeat (first | (refine rowWp_step2 rfl rfl (fun K hK => ?_); go_wp2) | (refine rowWp_step rfl (fun K hK => ?_); go_simp; refine hK _ ?_; clear hK K))
            exact rowWp_nil rfl
          refine drawn_next 13 (fuel := 3) rfl (by kernel_rfl) ?_
          intro K hK
          go_wp2_with fail
          refine ⟨⟨by go_simp, by go_simp, by go_simp, by go_simp⟩, ?_⟩
          refine named_world (A := fun Wz => OwB w [(Z15.heap.size, .cells (ints .u8 (zs 32)) 23), (g, .cells Y 29), (b10, .cells (ints .u8 C) 39), (b9, .cells (ints .u8 o2) 23), (b8, .cells (ints .u8 o1) 23), (b7, .cells #[.pointer (some ⟨tb, 0, none⟩)] 33), (b4, .cells (ints .u8 by_) 22), (b3, .cells X 29)] Wz ∧ TabP lo tb Wz T4) (Q := fun X => Go.Dr.wpAnyS Try.prog .any _ _ _ _ _ _ _ X) (by first | exact ⟨(HOZ15.out.allocN _ Z15.heap.size rfl).drew, HTbZ15.out.fr0 (((Fr.refl [] Z15).alloc _).drew)⟩ | exact ⟨HOZ15.out.allocN _ Z15.heap.size rfl, HTbZ15.out.fr0 ((Fr.refl [] Z15).alloc _)⟩) ?_
          rintro Z16 ⟨hO, hT⟩
          generalize Z15.heap.size = b11 at hO ⊢
          clear f7 f10 f9 f3 t7 t10 t9 t3
          have f7 := hO.nth 5 rfl
          have f10 := hO.nth 2 rfl
          have f9 := hO.nth 3 rfl
          have f3 := hO.nth 7 rfl
          have t7 := World.at_lt f7
          have t10 := World.at_lt f10
          have t9 := World.at_lt f9
          have t3 := World.at_lt f3
          have HOZ16 := Lib.hid hO
          have HTbZ16 := Lib.hid hT
          clear hO hT
          have f11 := HOZ16.out.nth 0 rfl
          have t11 := World.at_lt f11
          have n7 := HOZ16.out.ne 0 5 rfl rfl (by decide)
          have n10 := HOZ16.out.ne 0 2 rfl rfl (by decide)
          have n9 := HOZ16.out.ne 0 3 rfl rfl (by decide)
          have n3 := HOZ16.out.ne 0 7 rfl rfl (by decide)
          refine drawn_next 14 (fuel := 2) rfl (by kernel_rfl) ?_
          intro K hK
          go_wp2_with fail
          refine ⟨⟨by go_simp, by go_simp, by go_simp, by go_simp⟩, ?_⟩
          have hO := HOZ16.out.set 0 (.cells (ints .u8 kR) 23) rfl
          refine named_world (A := fun X => OwB w _ X) (Q := fun X => Go.Dr.wpAnyS Try.prog .any _ _ _ _ _ _ _ X) hO ?_
          intro Z17 hZ
          have HZ := Lib.hid hZ.take.take
          clear f11 t11 n7 n10 n9 n3 hO
          clear f7 f10 f9 f3 t7 t10 t9 t3
          have f7 := hZ.nth 5 rfl
          have f10 := hZ.nth 2 rfl
          have f9 := hZ.nth 3 rfl
          have f3 := hZ.nth 7 rfl
          have t7 := World.at_lt f7
          have t10 := World.at_lt f10
          have t9 := World.at_lt f9
          have t3 := World.at_lt f3
          clear hZ
          refine drawn_next 15 (fuel := 1) rfl (by kernel_rfl) ?_
          intro K hK
          go_wp2_with fail
          refine ⟨⟨f7, f10, f9, f3⟩, ?_⟩
          refine drawn_end rfl (by kernel_rfl) ?_
          intro K hK
          go_wp2_with fail
          go_meet
          case rel => exact ⟨rfl, HZ⟩
        · intro K hK
          go_wp2_with fail
          refine ⟨⟨by go_simp, by go_simp, by go_simp, by go_simp⟩, ?_⟩
          refine named_world (A := fun Wz => OwB w [(Z11.heap.size, .cells (ints .u8 (zs 32)) 23), (g, .cells Y 29), (b10, .cells (ints .u8 C) 39), (b9, .cells (ints .u8 o2) 23), (b8, .cells (ints .u8 o1) 23), (b7, .cells #[.pointer (some ⟨tb, 0, none⟩)] 33), (b4, .cells (ints .u8 by_) 22), (b3, .cells X 29)] Wz ∧ TabP lo tb Wz T4) (Q := fun X => Go.Dr.wpAnyS Try.prog .any _ _ _ _ _ _ _ X) (by first | exact ⟨(HOZ11.out.allocN _ Z11.heap.size rfl).drew, HTbZ11.out.fr0 (((Fr.refl [] Z11).alloc _).drew)⟩ | exact ⟨HOZ11.out.allocN _ Z11.heap.size rfl, HTbZ11.out.fr0 ((Fr.refl [] Z11).alloc _)⟩) ?_
          rintro Z12 ⟨hO, hT⟩
          generalize Z11.heap.size = b11 at hO ⊢
          clear f7 f10 f9 f3 t7 t10 t9 t3
          have f7 := hO.nth 5 rfl
          have f10 := hO.nth 2 rfl
          have f9 := hO.nth 3 rfl
          have f3 := hO.nth 7 rfl
          have t7 := World.at_lt f7
          have t10 := World.at_lt f10
          have t9 := World.at_lt f9
          have t3 := World.at_lt f3
          have HOZ12 := Lib.hid hO
          have HTbZ12 := Lib.hid hT
          clear hO hT
          refine drawn_next 8 (fuel := 7) rfl (by kernel_rfl) ?_
          intro K hK
          go_wp2_with fail
          refine (C5.out lo tb Z12 g (HOZ12.out.nth 1 rfl) HTbZ12.out).mono ?_
          rintro e Z13 ⟨rfl, F⟩
          have hO := HOZ12.out.call F
          clear f7 f10 f9 f3 t7 t10 t9 t3
          have f7 := hO.nth 5 rfl
          have f10 := hO.nth 2 rfl
          have f9 := hO.nth 3 rfl
          have f3 := hO.nth 7 rfl
          have t7 := World.at_lt f7
          have t10 := World.at_lt f10
          have t9 := World.at_lt f9
          have t3 := World.at_lt f3
          have HOZ13 := Lib.hid hO
          have HTbZ13 := Lib.hid (HTbZ12.out.fr0 F)
          clear hO F
          go_wp2_with fail
          refine ⟨⟨f7, f10, f9, f3⟩, ?_⟩
          refine drawn_reads (fuel := 3) [9, 10, 11, 12] rfl (by kernel_rfl) ⟨f7, f10, f9, f3⟩ ?_
          repeat (first | (refine rowK_step2 rfl rfl (fun K hK => ?_); go_wp2) | (refine rowK_step rfl (fun K hK => ?_); go_simp; refine hK _ ?_; clear hK K))
          refine rowK_nil ⟨fun w' e1 => ?_, ?_⟩
          · repeat (first | (refine rowWp_step2 rfl rfl (fun K hK => ?_); go_wp2) | (refine rowWp_step rfl (fun K hK => ?_); go_simp; refine hK _ ?_; clear hK K))
            exact rowWp_nil rfl
          have f11 := HOZ13.out.nth 0 rfl
          have t11 := World.at_lt f11
          have n7 := HOZ13.out.ne 0 5 rfl rfl (by decide)
          have n10 := HOZ13.out.ne 0 2 rfl rfl (by decide)
          have n9 := HOZ13.out.ne 0 3 rfl rfl (by decide)
          have n3 := HOZ13.out.ne 0 7 rfl rfl (by decide)
          refine drawn_next 14 (fuel := 2) rfl (by kernel_rfl) ?_
          intro K hK
          go_wp2_with fail
          refine ⟨⟨by go_simp, by go_simp, by go_simp, by go_simp⟩, ?_⟩
          have hO := HOZ13.out.set 0 (.cells (ints .u8 kR) 23) rfl
          refine named_world (A := fun X => OwB w _ X) (Q := fun X => Go.Dr.wpAnyS Try.prog .any _ _ _ _ _ _ _ X) hO ?_
          intro Z14 hZ
          have HZ := Lib.hid hZ.take.take
          clear f11 t11 n7 n10 n9 n3 hO
          clear f7 f10 f9 f3 t7 t10 t9 t3
          have f7 := hZ.nth 5 rfl
          have f10 := hZ.nth 2 rfl
          have f9 := hZ.nth 3 rfl
          have f3 := hZ.nth 7 rfl
          have t7 := World.at_lt f7
          have t10 := World.at_lt f10
          have t9 := World.at_lt f9
          have t3 := World.at_lt f3
          clear hZ
          refine drawn_next 15 (fuel := 1) rfl (by kernel_rfl) ?_
          intro K hK
          go_wp2_with fail
          refine ⟨⟨f7, f10, f9, f3⟩, ?_⟩
          refine drawn_end rfl (by kernel_rfl) ?_
          intro K hK
          go_wp2_with fail
          go_meet
          case rel => exact ⟨rfl, HZ⟩
      · intro K hK
        go_wp2_with fail
        refine ⟨⟨by go_simp, by go_simp, by go_simp, by go_simp⟩, ?_⟩
        refine named_world (A := fun Wz => OwB w [(Z6.heap.size, .cells (ints .u8 (zs 32)) 23), (b10, .cells (ints .u8 C) 39), (b9, .cells (ints .u8 o2) 23), (b8, .cells (ints .u8 o1) 23), (b7, .cells #[.pointer (some ⟨tb, 0, none⟩)] 33), (b4, .cells (ints .u8 by_) 22), (b3, .cells X 29)] Wz ∧ TabP lo tb Wz T4) (Q := fun X => Go.Dr.wpAnyS Try.prog .any _ _ _ _ _ _ _ X) (by first | exact ⟨(HOZ6.out.allocN _ Z6.heap.size rfl).drew, HTbZ6.out.fr0 (((Fr.refl [] Z6).alloc _).drew)⟩ | exact ⟨HOZ6.out.allocN _ Z6.heap.size rfl, HTbZ6.out.fr0 ((Fr.refl [] Z6).alloc _)⟩) ?_
        rintro Z7 ⟨hO, hT⟩
        generalize Z6.heap.size = b11 at hO ⊢
        clear f7 f10 f9 f3 t7 t10 t9 t3
        have f7 := hO.nth 4 rfl
        have f10 := hO.nth 1 rfl
        have f9 := hO.nth 2 rfl
        have f3 := hO.nth 6 rfl
        have t7 := World.at_lt f7
        have t10 := World.at_lt f10
        have t9 := World.at_lt f9
        have t3 := World.at_lt f3
        have HOZ7 := Lib.hid hO
        have HTbZ7 := Lib.hid hT
        clear hO hT
        refine drawn_next 6 (fuel := 8) rfl (by kernel_rfl) ?_
        intro K hK
        go_wp2_with fail
        refine ⟨⟨by go_simp, by go_simp, by go_simp, by go_simp⟩, ?_⟩
        refine named_world (A := fun Wz => OwB w [(Z7.heap.size, .cells Y 29), (b11, .cells (ints .u8 (zs 32)) 23), (b10, .cells (ints .u8 C) 39), (b9, .cells (ints .u8 o2) 23), (b8, .cells (ints .u8 o1) 23), (b7, .cells #[.pointer (some ⟨tb, 0, none⟩)] 33), (b4, .cells (ints .u8 by_) 22), (b3, .cells X 29)] Wz ∧ TabP lo tb Wz T4) (Q := fun X => Go.Dr.wpAnyS Try.prog .any _ _ _ _ _ _ _ X) (by first | exact ⟨(HOZ7.out.allocN _ Z7.heap.size rfl).drew, HTbZ7.out.fr0 (((Fr.refl [] Z7).alloc _).drew)⟩ | exact ⟨HOZ7.out.allocN _ Z7.heap.size rfl, HTbZ7.out.fr0 ((Fr.refl [] Z7).alloc _)⟩) ?_
        rintro Z8 ⟨hO, hT⟩
        generalize Z7.heap.size = g at hO ⊢
        clear f7 f10 f9 f3 t7 t10 t9 t3
        have f7 := hO.nth 5 rfl
        have f10 := hO.nth 2 rfl
        have f9 := hO.nth 3 rfl
        have f3 := hO.nth 7 rfl
        have t7 := World.at_lt f7
        have t10 := World.at_lt f10
        have t9 := World.at_lt f9
        have t3 := World.at_lt f3
        have HOZ8 := Lib.hid hO
        have HTbZ8 := Lib.hid hT
        clear hO hT
        refine drawn_next 8 (fuel := 7) rfl (by kernel_rfl) ?_
        intro K hK
        go_wp2_with fail
        refine (C5.out lo tb Z8 g (HOZ8.out.nth 0 rfl) HTbZ8.out).mono ?_
        rintro e Z9 ⟨rfl, F⟩
        have hO := HOZ8.out.call F
        clear f7 f10 f9 f3 t7 t10 t9 t3
        have f7 := hO.nth 5 rfl
        have f10 := hO.nth 2 rfl
        have f9 := hO.nth 3 rfl
        have f3 := hO.nth 7 rfl
        have t7 := World.at_lt f7
        have t10 := World.at_lt f10
        have t9 := World.at_lt f9
        have t3 := World.at_lt f3
        have HOZ9 := Lib.hid hO
        have HTbZ9 := Lib.hid (HTbZ8.out.fr0 F)
        clear hO F
        go_wp2_with fail
        refine ⟨⟨f7, f10, f9, f3⟩, ?_⟩
        refine drawn_reads (fuel := 3) [9, 10, 11, 12] rfl (by kernel_rfl) ⟨f7, f10, f9, f3⟩ ?_
        repeat (first | (refine rowK_step2 rfl rfl (fun K hK => ?_); go_wp2) | (refine rowK_step rfl (fun K hK => ?_); go_simp; refine hK _ ?_; clear hK K))
        refine rowK_nil ⟨fun w' e1 => ?_, ?_⟩
        · repeat (first | (refine rowWp_step2 rfl rfl (fun K hK => ?_); go_wp2) | (refine rowWp_step rfl (fun K hK => ?_); go_simp; refine hK _ ?_; clear hK K))
          exact rowWp_nil rfl
        have f11 := HOZ9.out.nth 1 rfl
        have t11 := World.at_lt f11
        have n7 := HOZ9.out.ne 1 5 rfl rfl (by decide)
        have n10 := HOZ9.out.ne 1 2 rfl rfl (by decide)
        have n9 := HOZ9.out.ne 1 3 rfl rfl (by decide)
        have n3 := HOZ9.out.ne 1 7 rfl rfl (by decide)
        refine drawn_next 14 (fuel := 2) rfl (by kernel_rfl) ?_
        intro K hK
        go_wp2_with fail
        refine ⟨⟨by go_simp, by go_simp, by go_simp, by go_simp⟩, ?_⟩
        have hO := HOZ9.out.set 1 (.cells (ints .u8 kR) 23) rfl
        refine named_world (A := fun X => OwB w _ X) (Q := fun X => Go.Dr.wpAnyS Try.prog .any _ _ _ _ _ _ _ X) hO ?_
        intro Z10 hZ
        have HZ := Lib.hid hZ.take.take
        clear f11 t11 n7 n10 n9 n3 hO
        clear f7 f10 f9 f3 t7 t10 t9 t3
        have f7 := hZ.nth 5 rfl
        have f10 := hZ.nth 2 rfl
        have f9 := hZ.nth 3 rfl
        have f3 := hZ.nth 7 rfl
        have t7 := World.at_lt f7
        have t10 := World.at_lt f10
        have t9 := World.at_lt f9
        have t3 := World.at_lt f3
        clear hZ
        refine drawn_next 15 (fuel := 1) rfl (by kernel_rfl) ?_
        intro K hK
        go_wp2_with fail
        refine ⟨⟨f7, f10, f9, f3⟩, ?_⟩
        refine drawn_end rfl (by kernel_rfl) ?_
        intro K hK
        go_wp2_with fail
        go_meet
        case rel => exact ⟨rfl, HZ⟩
    · intro K hK
      go_wp2_with fail
      refine ⟨⟨by go_simp, by go_simp, by go_simp, by go_simp⟩, ?_⟩
      refine named_world (A := fun Wz => OwB w [(V6.heap.size, .cells (ints .u8 (zs 32)) 23), (b10, .cells (ints .u8 C) 39), (b9, .cells (ints .u8 o2) 23), (b8, .cells (ints .u8 o1) 23), (b7, .cells #[.pointer (some ⟨tb, 0, none⟩)] 33), (b4, .cells (ints .u8 by_) 22), (b3, .cells X 29)] Wz ∧ TabP lo tb Wz T3) (Q := fun X => Go.Dr.wpAnyS Try.prog .any _ _ _ _ _ _ _ X) (by first | exact ⟨(HOV6.out.allocN _ V6.heap.size rfl).drew, HTbV6.out.fr0 (((Fr.refl [] V6).alloc _).drew)⟩ | exact ⟨HOV6.out.allocN _ V6.heap.size rfl, HTbV6.out.fr0 ((Fr.refl [] V6).alloc _)⟩) ?_
      rintro Z1 ⟨hO, hT⟩
      generalize V6.heap.size = b11 at hO ⊢
      clear f7 f10 f9 f3 t7 t10 t9 t3
      have f7 := hO.nth 4 rfl
      have f10 := hO.nth 1 rfl
      have f9 := hO.nth 2 rfl
      have f3 := hO.nth 6 rfl
      have t7 := World.at_lt f7
      have t10 := World.at_lt f10
      have t9 := World.at_lt f9
      have t3 := World.at_lt f3
      have HOZ1 := Lib.hid hO
      have HTbZ1 := Lib.hid hT
      clear hO hT
      refine drawn_next 5 (fuel := 9) rfl (by kernel_rfl) ?_
      intro K hK
      go_wp2_with fail
      refine (C4.out lo tb _ (by first | exact HTbZ1.out | exact HTbZ1.out.fr0 (Fr.refl [] Z1).drew)).mono ?_
      rintro e Z2 ⟨rfl, hT, F⟩
      have hO := OwB.callT (by first | exact HOZ1.out | exact HOZ1.out.drew) F (by simp [other, TT]) hlw
      clear f7 f10 f9 f3 t7 t10 t9 t3
      have f7 := hO.nth 4 rfl
      have f10 := hO.nth 1 rfl
      have f9 := hO.nth 2 rfl
      have f3 := hO.nth 6 rfl
      have t7 := World.at_lt f7
      have t10 := World.at_lt f10
      have t9 := World.at_lt f9
      have t3 := World.at_lt f3
      have HOZ2 := Lib.hid hO
      have HTbZ2 := Lib.hid hT
      clear hO hT F
      go_wp2_with fail
      refine ⟨⟨f7, f10, f9, f3⟩, ?_⟩
      refine drawn_next 6 (fuel := 8) rfl (by kernel_rfl) ?_
      intro K hK
      go_wp2_with fail
      refine ⟨⟨by go_simp, by go_simp, by go_simp, by go_simp⟩, ?_⟩
      refine named_world (A := fun Wz => OwB w [(Z2.heap.size, .cells Y 29), (b11, .cells (ints .u8 (zs 32)) 23), (b10, .cells (ints .u8 C) 39), (b9, .cells (ints .u8 o2) 23), (b8, .cells (ints .u8 o1) 23), (b7, .cells #[.pointer (some ⟨tb, 0, none⟩)] 33), (b4, .cells (ints .u8 by_) 22), (b3, .cells X 29)] Wz ∧ TabP lo tb Wz T4) (Q := fun X => Go.Dr.wpAnyS Try.prog .any _ _ _ _ _ _ _ X) (by first | exact ⟨(HOZ2.out.allocN _ Z2.heap.size rfl).drew, HTbZ2.out.fr0 (((Fr.refl [] Z2).alloc _).drew)⟩ | exact ⟨HOZ2.out.allocN _ Z2.heap.size rfl, HTbZ2.out.fr0 ((Fr.refl [] Z2).alloc _)⟩) ?_
      rintro Z3 ⟨hO, hT⟩
      generalize Z2.heap.size = g at hO ⊢
      clear f7 f10 f9 f3 t7 t10 t9 t3
      have f7 := hO.nth 5 rfl
      have f10 := hO.nth 2 rfl
      have f9 := hO.nth 3 rfl
      have f3 := hO.nth 7 rfl
      have t7 := World.at_lt f7
      have t10 := World.at_lt f10
      have t9 := World.at_lt f9
      have t3 := World.at_lt f3
      have HOZ3 := Lib.hid hO
      have HTbZ3 := Lib.hid hT
      clear hO hT
      refine drawn_next 8 (fuel := 7) rfl (by kernel_rfl) ?_
      intro K hK
      go_wp2_with fail
      refine (C5.out lo tb Z3 g (HOZ3.out.nth 0 rfl) HTbZ3.out).mono ?_
      rintro e Z4 ⟨rfl, F⟩
      have hO := HOZ3.out.call F
      clear f7 f10 f9 f3 t7 t10 t9 t3
      have f7 := hO.nth 5 rfl
      have f10 := hO.nth 2 rfl
      have f9 := hO.nth 3 rfl
      have f3 := hO.nth 7 rfl
      have t7 := World.at_lt f7
      have t10 := World.at_lt f10
      have t9 := World.at_lt f9
      have t3 := World.at_lt f3
      have HOZ4 := Lib.hid hO
      have HTbZ4 := Lib.hid (HTbZ3.out.fr0 F)
      clear hO F
      go_wp2_with fail
      refine ⟨⟨f7, f10, f9, f3⟩, ?_⟩
      refine drawn_reads (fuel := 3) [9, 10, 11, 12] rfl (by kernel_rfl) ⟨f7, f10, f9, f3⟩ ?_
      repeat (first | (refine rowK_step2 rfl rfl (fun K hK => ?_); go_wp2) | (refine rowK_step rfl (fun K hK => ?_); go_simp; refine hK _ ?_; clear hK K))
      refine rowK_nil ⟨fun w' e1 => ?_, ?_⟩
      · repeat (first | (refine rowWp_step2 rfl rfl (fun K hK => ?_); go_wp2) | (refine rowWp_step rfl (fun K hK => ?_); go_simp; refine hK _ ?_; clear hK K))
        exact rowWp_nil rfl
      have f11 := HOZ4.out.nth 1 rfl
      have t11 := World.at_lt f11
      have n7 := HOZ4.out.ne 1 5 rfl rfl (by decide)
      have n10 := HOZ4.out.ne 1 2 rfl rfl (by decide)
      have n9 := HOZ4.out.ne 1 3 rfl rfl (by decide)
      have n3 := HOZ4.out.ne 1 7 rfl rfl (by decide)
      refine drawn_next 14 (fuel := 2) rfl (by kernel_rfl) ?_
      intro K hK
      go_wp2_with fail
      refine ⟨⟨by go_simp, by go_simp, by go_simp, by go_simp⟩, ?_⟩
      have hO := HOZ4.out.set 1 (.cells (ints .u8 kR) 23) rfl
      refine named_world (A := fun X => OwB w _ X) (Q := fun X => Go.Dr.wpAnyS Try.prog .any _ _ _ _ _ _ _ X) hO ?_
      intro Z5 hZ
      have HZ := Lib.hid hZ.take.take
      clear f11 t11 n7 n10 n9 n3 hO
      clear f7 f10 f9 f3 t7 t10 t9 t3
      have f7 := hZ.nth 5 rfl
      have f10 := hZ.nth 2 rfl
      have f9 := hZ.nth 3 rfl
      have f3 := hZ.nth 7 rfl
      have t7 := World.at_lt f7
      have t10 := World.at_lt f10
      have t9 := World.at_lt f9
      have t3 := World.at_lt f3
      clear hZ
      refine drawn_next 15 (fuel := 1) rfl (by kernel_rfl) ?_
      intro K hK
      go_wp2_with fail
      refine ⟨⟨f7, f10, f9, f3⟩, ?_⟩
      refine drawn_end rfl (by kernel_rfl) ?_
      intro K hK
      go_wp2_with fail
      go_meet
      case rel => exact ⟨rfl, HZ⟩
  case rest =>
    obtain ⟨rfl, hO⟩ := hcut
    have f4 := hO.out.nth 4 rfl
    have f3 := hO.out.nth 5 rfl
    have t4 := World.at_lt f4
    have t3 := World.at_lt f3
    clear e1 e2 e3 e36 e39 l128 z36 z39 z0 z1 z2 f7 f10 f9 t7 t10 t9
    obtain ⟨bb, hbb⟩ : ∃ bb, (by_ == [200, 0, 0, 0, 0, 0, 0, 0, 0, 0, 0, 0, 0, 0, 0, 0, 0, 0, 0, 0, 0, 0, 0, 0, 0, 0, 0, 0, 0, 0, 0, 0]) = bb := ⟨_, rfl⟩
    have hbd : decide (by_ = key1 200) = bb := by rw [← hbb, beq_dec]; rfl
    cases bb with
    | false =>
      have he : eR = 200 := by rw [HLAW.out, if_neg (of_decide_eq_false hbd)]
      subst he
      clear hbd
      go_wp2_with fail
      exact bodyPost_ret (results_tmp rfl _ _ _) rfl ⟨rfl, hO.out.fr⟩
    | true =>
      have hl2 : eR = if now < frm ∨ til ≤ now then 201 else 0 := by rw [HLAW.out, if_pos (of_decide_eq_true hbd)]
      by_cases h1 : now < frm
      · have he : eR = 201 := by rw [hl2, if_pos (Or.inl h1)]
        have d1 : decide (now < frm) = true := by rw [decide_eq_true_eq]; exact h1
        have d2 : decide (frm ≤ now) = false := by rw [decide_eq_false_iff_not]; omega
        clear hl2
        subst he
        clear hbd h1
        go_wp2_with fail
        exact bodyPost_ret (results_tmp rfl _ _ _) rfl ⟨rfl, hO.out.fr⟩
      · have d1 : decide (now < frm) = false := by rw [decide_eq_false_iff_not]; exact h1
        have d2 : decide (frm ≤ now) = true := by rw [decide_eq_true_eq]; omega
        by_cases h2 : til ≤ now
        · have he : eR = 201 := by rw [hl2, if_pos (Or.inr h2)]
          have d3 : decide (now < til) = false := by rw [decide_eq_false_iff_not]; omega
          have d4 : decide (now ≥ til) = true := by rw [decide_eq_true_eq]; exact h2
          have d5 : decide (til ≤ now) = true := by rw [decide_eq_true_eq]; exact h2
          clear hl2
          subst he
          clear hbd h1 h2
          go_wp2_with fail
          exact bodyPost_ret (results_tmp rfl _ _ _) rfl ⟨rfl, hO.out.fr⟩
        · have he : eR = 0 := by rw [hl2, if_neg (by omega)]
          have d3 : decide (now < til) = true := by rw [decide_eq_true_eq]; omega
          have d4 : decide (now ≥ til) = false := by rw [decide_eq_false_iff_not]; omega
          clear hl2
          subst he
          clear hbd h1 h2
          go_wp2_with fail
          exact bodyPost_ret (results_tmp rfl _ _ _) rfl ⟨rfl, hO.out.fr⟩
end
end Go.Proofs.Ytbhnfohoclcjdaa
