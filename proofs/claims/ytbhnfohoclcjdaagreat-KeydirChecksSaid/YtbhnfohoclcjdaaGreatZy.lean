/- Joined: DdK. -/
import Derived.Test.YtbhnfohoclcjdaaGreatZx
set_option linter.unusedVariables false
set_option linter.unusedSimpArgs false
namespace Go.Proofs.YtbhnfohoclcjdaaGreat
open Go.RowKit Go.Dr Go.Kd
theorem lay_len {l : List Int} {o : Nat} {m : List Int} (h : o + m.length ≤ l.length) : (lay l o m).length = l.length := by
  unfold lay
  rw [List.length_append, List.length_append, List.length_take, List.length_drop]
  omega
theorem lay_bytes {l : List Int} {o : Nat} {m : List Int} (hl : isBytes l) (hm : isBytes m) : isBytes (lay l o m) := by
  intro x hx
  unfold lay at hx
  rcases List.mem_append.1 hx with hx | hx
  · rcases List.mem_append.1 hx with hx | hx
    · exact hl x (List.mem_of_mem_take hx)
    · exact hm x hx
  · exact hl x (List.mem_of_mem_drop hx)
theorem seeF_bytes {C : List Int} {sv hi : Int} (h : isBytes C) (h0 : 0 ≤ hi) (h1 : hi < 256) : isBytes (seeF C sv hi) := by
  unfold seeF
  split
  · intro x hx
    rcases List.mem_or_eq_of_mem_set hx with hx | rfl
    · exact h x hx
    · have he : 0 ≤ el C (128 + sv.toNat) ∧ el C (128 + sv.toNat) < 256 := by
        rw [el, List.getD_eq_getElem?_getD]
        cases hc : C[128 + sv.toNat]? with
        | none => exact ⟨Int.le_refl 0, by decide⟩
        | some y => exact h y (List.mem_of_getElem? hc)
      omega
  · exact h
def D21 (i : Nat) : Nat := [0, 0, 0, 0, 0, 0, 95, 0, 0, 0, 0, 0, 101, 19].getD i 0
def D22 (i : Nat) : Nat := [0, 0, 0, 0, 0, 0, 108, 0, 0, 0, 0, 0, 114, 20].getD i 0
theorem D21_6 : D21 6 = 95 := rfl
theorem D21_12 : D21 12 = 101 := rfl
theorem D21_13 : D21 13 = 19 := rfl
theorem D22_6 : D22 6 = 108 := rfl
theorem D22_12 : D22 12 = 114 := rfl
theorem D22_13 : D22 13 = 20 := rfl
/-- What the signing, the code's, leaves. -/
def R21 (U : World) (sec : List Int) (x1 : Ob) (vn : Nat) (vl : List Value) (i : Nat) (v : Value) (W : World) : Prop := match i with
  | 6 => v = .agg (ints .u8 sec)
  | 12 => ∃ q c, v = .agg (oC x1 (.slice q vn c)) ∧ Vr W q vn c vl
  | 13 => ∃ b, v = .pointer (some ⟨b, 0, none⟩) ∧ W.blk b = some (.cells Tryz.zeroCells48 48) ∧ U.heap.size ≤ b
  | _ => True
/-- What the signing, the document's, leaves. -/
def R22 (U : World) (sec : List Int) (x1 : Ob) (sl : Value) (i : Nat) (v : Value) (W : World) : Prop := match i with
  | 6 => v = .agg (ints .u8 sec)
  | 12 => v = .agg (oC x1 sl)
  | 13 => ∃ b, v = .pointer (some ⟨b, 0, none⟩) ∧ W.blk b = some (.cells Tryz.zeroCells48 48) ∧ U.heap.size ≤ b
  | _ => True
theorem R21_keep {U : World} {sec : List Int} {x1 : Ob} {vn : Nat} {vl : List Value} {i : Nat} {v : Value} {W W' : World} {lo : Nat} (h : R21 U sec x1 vn vl i v W) (F : FrP lo W W') : R21 U sec x1 vn vl i v W' := by
  unfold R21 at *
  split at h
  · exact h
  · obtain ⟨q, c, rfl, h2⟩ := h
    exact ⟨q, c, rfl, h2.frT F (by decide) (by decide)⟩
  · obtain ⟨b, rfl, h2, h3⟩ := h
    exact ⟨b, rfl, F.get h2 (.inr ⟨by decide, by decide⟩), h3⟩
  · trivial
theorem R22_keep {U : World} {sec : List Int} {x1 : Ob} {sl : Value} {i : Nat} {v : Value} {W W' : World} {lo : Nat} (h : R22 U sec x1 sl i v W) (F : FrD lo W W') : R22 U sec x1 sl i v W' := by
  unfold R22 at *
  split at h
  · exact h
  · exact h
  · obtain ⟨b, rfl, h2, h3⟩ := h
    exact ⟨b, rfl, F.get h2 (.inr ⟨by decide, by decide⟩), h3⟩
  · trivial
theorem chainF_len {T : List Tm} {first : List Bs} {need : Nat} {server : Int} : ∀ (l : List Ob) (i : Nat) (key : Bs), key.length = 32 → (∀ x ∈ l, x.key.length = 32) → ∀ k, chainF T first need server l i key = some k → k.length = 32 := by
  intro l
  induction l with
  | nil => intro i key h _ k hk; rw [chainF] at hk; cases hk; exact h
  | cons x l ih =>
    intro i key h hx k hk
    rw [chainF] at hk
    split at hk
    · cases hk
    · exact ih (i + 1) x.key (hx x (by simp)) (fun y hy => hx y (by simp [hy])) k hk
theorem checkF_len {T : List Tm} {C : List Int} {xs : List Ob} {sv : Nat} {now : Int} {need : Nat} {hi : List Int} (hC : C.length = 133) (hx : ∀ x ∈ xs, x.key.length = 32) : (checkF T (firstC C) hi need (sv : Int) xs now).1.length = 32 := by
  unfold checkF
  split
  · rfl
  · rename_i h4
    have hk : ((firstC C).getD (sv : Int).toNat []).length = 32 := by
      rw [Int.toNat_natCast, firstC_at (by omega), List.length_drop, List.length_take]
      omega
    split
    · rfl
    · rename_i key hkey
      have := chainF_len _ _ _ hk hx _ hkey
      split
      · rfl
      · split
        · split
          · rfl
          · exact this
        · exact this
def TwoP (lo tb td : Nat) (X : World) (T : List Tm) : Prop := TabP lo tb X T ∧ DTabP lo td X T
section
variable {w : World}
set_option maxRecDepth 100000 in
set_option maxHeartbeats 8000000 in
theorem keydirChecks_walk {p : Option Addr} {n c sv nw nd hi : Nat} {ls : List Lk} (S : Lw 104 w p n c (lksL ls)) (hl : ls.length = n) (hk : ∀ k ∈ ls, LkOk w k) (hsv : sv < 256) (hnw : nw < 4294967296) (hnd : nd < 256) (hhi : hi < 256) :
    Calls Tryz.prog 3 #[.slice p n c, .int .u8 (sv : Int), .int .u32 (nw : Int), .int .u8 (nd : Int), .int .u8 (hi : Int)] w fun e w' => e = .returned (.bool true) ∧ Fr [] w w' := by
  have HS := Lib.hid S
  have HL := Lib.hid hl
  have HK := Lib.hid hk
  clear S hl hk
  go_enter Tryz.func3, Tryz.ntmps3
  go_wp2_with fail
  refine alive_f.mono ?_
  rintro e V1 ⟨rfl, F1⟩
  have HV1 := Lib.hid ((OwB.start w).call F1)
  clear F1
  go_wp2_with fail
  refine free_f.mono ?_
  rintro e V2 ⟨tb, rfl, hT, F2⟩
  obtain ⟨lo, hlo⟩ : ∃ lo, lo = V1.heap.size := ⟨_, rfl⟩
  rw [← hlo] at hT
  have hlw : w.heap.size ≤ lo := by rw [hlo]; exact HV1.out.fr.size
  have HV2 := Lib.hid (HV1.out.call F2)
  have HT2 := Lib.hid hT
  have hlo2 : lo ≤ V2.heap.size := by rw [hlo]; exact F2.size
  clear hT F2 hlo
  go_wp2_with fail
  refine dfree_f.mono ?_
  rintro e V3 ⟨td, rfl, hD, F3⟩
  have HV3 := Lib.hid (HV2.out.call F3)
  have HT3 := Lib.hid (HT2.out.fr0 F3)
  have HD3 := Lib.hid (hD.mono hlo2)
  clear hD F3 hlo2
  have z38 : Tryz.zeroCells38 = ints .u8 (zs 133) := by kernel_rfl
  go_upto_region 5 with (fail)
  refine named_world (A := fun X => OwB w (LXf V3.heap.size (V3.heap.size + 1) (V3.heap.size + 1 + 1) (V3.heap.size + 1 + 1 + 1) tb td (zs 133)) X ∧ TwoP lo tb td X []) (Q := fun X => Code.wp _ _ _ _ X) ⟨?_, ?_⟩ ?_
  · have := (((HV3.out.allocN (.cells #[.pointer (some ⟨tb, 0, none⟩)] 27) V3.heap.size rfl).allocN (.cells #[.pointer (some ⟨td, 0, none⟩)] 31) (V3.heap.size + 1) (by simp)).allocN (.cells Tryz.zeroCells38 38) (V3.heap.size + 1 + 1) (by simp)).allocN (.cells Tryz.zeroCells38 38) (V3.heap.size + 1 + 1 + 1) (by simp)
    rw [z38] at this
    first | exact this | (rw [z38]; exact this)
  · have F := ((((Fr.refl [] V3).alloc (.cells #[.pointer (some ⟨tb, 0, none⟩)] 27)).alloc (.cells #[.pointer (some ⟨td, 0, none⟩)] 31)).alloc (.cells Tryz.zeroCells38 38)).alloc (.cells Tryz.zeroCells38 38)
    exact ⟨HT3.out.fr0 F, HD3.out.fr0 F⟩
  rintro U4 ⟨hU, hT⟩
  generalize V3.heap.size + 1 + 1 + 1 = b14 at hU ⊢
  generalize V3.heap.size + 1 + 1 = b13 at hU ⊢
  generalize V3.heap.size + 1 = b12 at hU ⊢
  generalize V3.heap.size = b11 at hU ⊢
  have HU4 := Lib.hid hU
  have HT4 := Lib.hid hT
  clear hU hT HV1 HV2 HV3 HT2 HT3 HD3 z38
  go_wp2_with fail
  go_loopw [15] (fun iv wy => ∃ (i : Nat) (T : List Tm) (C : List Int), i ≤ 4 ∧ iv = .int .i64 (i : Int) ∧ C.length = 133 ∧ Hid (isBytes C) ∧ Hid (OwB w (LXf b11 b12 b13 b14 tb td C) wy) ∧ Hid (TwoP lo tb td wy T)) (fun iv _ => (4 - intOf iv).toNat)
  case atStart => exact ⟨0, [], zs 133, by omega, rfl, rfl, Lib.hid (byt_zs 133), HU4, HT4⟩
  case round =>
    clear HU4 HT4
    obtain ⟨i, T, C, hi9, rfl, hC, hCB, hO, hT⟩ := hrel
    by_cases hlt : i < 4
    · have hd : decide ((i : Int) < 4) = true := by rw [decide_eq_true_eq]; omega
      have hi4 : (i : Int) < 4 := by omega
      have w8 : IntKind.u8.wrap (i : Int) = (i : Int) := by rw [IntKind.wrap_u8]; omega
      obtain ⟨a, ha⟩ : ∃ a, a = (makeT T (5, [secB (i : Int)])).2.1 := ⟨_, rfl⟩
      have la : a.length = 32 := by rw [ha]; exact makeT_len _ _
      have ba : isBytes a := by rw [ha]; exact byt_makeT
      obtain ⟨T2, hT2⟩ : ∃ T2, T2 = (makeT T (5, [secB (i : Int)])).1 := ⟨_, rfl⟩
      have c1 : ∀ W : World, TabP lo tb W T → Calls Tryz.prog 9 #[SU tb, .agg (ints .u8 (secB (i : Int)))] W fun e w' => e = .returned (.agg (ints .u8 a)) ∧ TabP lo tb w' T2 ∧ FrP lo W w' := fun W h => by rw [ha, hT2]; exact signer_f h key_secB.len key_secB.byt
      have c2 : ∀ W : World, DTabP lo td W T → Calls Tryz.prog 11 #[SU td, .agg (ints .u8 (secB (i : Int)))] W fun e w' => e = .returned (.agg (ints .u8 a)) ∧ DTabP lo td w' T2 ∧ FrD lo W w' := fun W h => by rw [ha, hT2]; exact dsigner_f h key_secB.len key_secB.byt
      have C1 := Lib.hid c1
      have C2 := Lib.hid c2
      have HBA := Lib.hid ba
      clear c1 c2 ba ha hT2
      obtain ⟨C', hC'⟩ : ∃ C', C' = lay C (i * 32) a := ⟨_, rfl⟩
      have eC' : lay C (i * 32) a = C' := hC'.symm
      have lC' : C'.length = 133 := by rw [hC', lay_len (by omega)]; exact hC
      have bC' : Hid (isBytes C') := Lib.hid (by rw [hC']; exact lay_bytes hCB.out HBA.out)
      have m101 : i * 32 ≤ 101 := by omega
      have sC : (ints .u8 C).size = 133 := by rw [size_ints, hC]
      clear hC'
      have f11 := hO.out.nth 3 rfl
      have t11 := World.at_lt f11
      go_upto_region 8 with (fail)
      refine drawn_begin 7 (fun w' => w'.blk b11 = some (.cells #[.pointer (some ⟨tb, 0, none⟩)] 27)) (by kernel_rfl) ?_
      refine drawn_reads (fuel := 4) [0, 1, 2, 3, 6] rfl (by kernel_rfl) f11 ?_
      repeat (first | (refine rowK_step2 rfl rfl (fun K hK => ?_); go_wp2) | (refine rowK_step rfl (fun K hK => ?_); go_simp; refine hK _ ?_; clear hK K))
      refine rowK_nil ⟨fun w' e1 => ?_, ?_⟩
      · clear f11
        repeat (first | (refine rowWp_step2 rfl rfl (fun K hK => ?_); go_wp2) | (refine rowWp_step rfl (fun K hK => ?_); go_simp; refine hK _ ?_; clear hK K))
        exact rowWp_nil rfl
      refine drawn_next 4 (fuel := 3) rfl (by kernel_rfl) ?_
      intro K hK
      go_wp2_with fail
      refine (secret_f (by omega) (by omega)).mono ?_
      rintro e W1 ⟨rfl, F⟩
      have hO1 := hO.out.drew.call F
      have hT1 : TwoP lo tb td W1 T := ⟨hT.out.1.fr0 (fr_drew_any F), hT.out.2.fr0 (fr_drew_any F)⟩
      have HO1 := Lib.hid hO1
      have HT1 := Lib.hid hT1
      clear f11 t11 hO1 hT1 F
      have f11 := HO1.out.nth 3 rfl
      have t11 := World.at_lt f11
      go_wp2_with fail
      refine ⟨f11, ?_⟩
      refine drawn_next 5 (fuel := 2) rfl (by kernel_rfl) ?_
      intro K hK
      go_wp2_with fail
      refine (C1.out _ HT1.out.1).mono ?_
      rintro e W2 ⟨rfl, hTa, F⟩
      have HO2 := Lib.hid (HO1.out.callT F (by simp [LXf, other, TT]) hlw)
      have HT2 := Lib.hid (HT1.out.2.callT F apartD)
      have HTa := Lib.hid hTa
      clear f11 t11 hTa F HO1 HT1
      have f11 := HO2.out.nth 3 rfl
      have f13 := HO2.out.nth 1 rfl
      have t11 := World.at_lt f11
      have t13 := World.at_lt f13
      go_wp2_with fail
      refine ⟨f11, ?_⟩
      refine drawn_end rfl (by kernel_rfl) ?_
      intro K hK
      go_upto_region 9 with (fail)
      refine named_world (A := fun X => OwB w [(b14, .cells (ints .u8 C) 38), (b13, .cells (ints .u8 C') 38), (b12, .cells #[.pointer (some ⟨td, 0, none⟩)] 31), (b11, .cells #[.pointer (some ⟨tb, 0, none⟩)] 27)] X ∧ TabP lo tb X T2 ∧ DTabP lo td X T) (Q := fun X => Code.wp _ _ _ _ X) ⟨HO2.out.set 1 _ rfl, HTa.out.put f13 (by decide) _, HT2.out.put f13 (by decide) _⟩ ?_
      rintro U ⟨hO, hTa, hTd⟩
      clear f11 f13 t11 t13 HO2 HT2 HTa
      have HO3 := Lib.hid hO
      have HTa := Lib.hid hTa
      have HTd := Lib.hid hTd
      clear hO hTa hTd
      have f12 := HO3.out.nth 2 rfl
      have t12 := World.at_lt f12
      refine drawn_begin 7 (fun w' => w'.blk b12 = some (.cells #[.pointer (some ⟨td, 0, none⟩)] 31)) (by kernel_rfl) ?_
      refine drawn_reads (fuel := 4) [0, 1, 2, 3, 6] rfl (by kernel_rfl) f12 ?_
      repeat (first | (refine rowK_step2 rfl rfl (fun K hK => ?_); go_wp2) | (refine rowK_step rfl (fun K hK => ?_); go_simp; refine hK _ ?_; clear hK K))
      refine rowK_nil ⟨fun w' e1 => ?_, ?_⟩
      · clear f12
        repeat (first | (refine rowWp_step2 rfl rfl (fun K hK => ?_); go_wp2) | (refine rowWp_step rfl (fun K hK => ?_); go_simp; refine hK _ ?_; clear hK K))
        exact rowWp_nil rfl
      refine drawn_next 4 (fuel := 3) rfl (by kernel_rfl) ?_
      intro K hK
      go_wp2_with fail
      refine (secret_f (by omega) (by omega)).mono ?_
      rintro e W1 ⟨rfl, F⟩
      have HO4 := Lib.hid (HO3.out.drew.call F)
      have HTa1 := Lib.hid (HTa.out.fr0 (fr_drew_any F))
      have HTd1 := Lib.hid (HTd.out.fr0 (fr_drew_any F))
      clear f12 t12 F HO3 HTa HTd
      have f12 := HO4.out.nth 2 rfl
      have t12 := World.at_lt f12
      go_wp2_with fail
      refine ⟨f12, ?_⟩
      refine drawn_next 5 (fuel := 2) rfl (by kernel_rfl) ?_
      intro K hK
      go_wp2_with fail
      refine (C2.out _ HTd1.out).mono ?_
      rintro e W2 ⟨rfl, hTb, F⟩
      have HO5 := Lib.hid (HO4.out.callT F (by simp [other, DT]) hlw)
      have HTa2 := Lib.hid (HTa1.out.callD F apartT rfl)
      have HTb := Lib.hid hTb
      clear f12 t12 hTb F HO4 HTa1 HTd1
      have f12 := HO5.out.nth 2 rfl
      have f14 := HO5.out.nth 0 rfl
      have t12 := World.at_lt f12
      have t14 := World.at_lt f14
      go_wp2_with fail
      refine ⟨f12, ?_⟩
      refine drawn_end rfl (by kernel_rfl) ?_
      intro K hK
      have wi : IntKind.i64.wrap ((i : Int) + 1) = ((i + 1 : Nat) : Int) := by rw [IntKind.wrap_i64]; omega
      have hO6 : Hid (OwB w (LXf b11 b12 b13 b14 tb td C') (W2.put b14 (.cells (ints .u8 C') 38))) := Lib.hid (HO5.out.set 0 _ rfl)
      have hT6 : Hid (TwoP lo tb td (W2.put b14 (.cells (ints .u8 C') 38)) T2) := Lib.hid ⟨HTa2.out.put f14 (by decide) _, HTb.out.put f14 (by decide) _⟩
      clear HO5 HTa2 HTb
      go_wp2_with fail
      go_roundw
      case rel => exact ⟨i + 1, T2, C', by omega, by first | rfl | simp, lC', bC', hO6, hT6⟩
      case measure => simp [intOf]; omega
    · obtain rfl : i = 4 := by omega
      have sC : (ints .u8 C).size = 133 := by rw [size_ints, hC]
      have hm4 : (nd : Int).tmod 4 = (nd : Int) % 4 := Int.tmod_eq_emod_of_nonneg (by omega)
      have hm6 : (hi : Int).tmod 6 = (hi : Int) % 6 := Int.tmod_eq_emod_of_nonneg (by omega)
      have f13 := hO.out.nth 1 rfl
      have f14 := hO.out.nth 0 rfl
      have t13 := World.at_lt f13
      have t14 := World.at_lt f14
      have n34 := hO.out.ne 1 0 rfl rfl (by decide)
      have n43 := n34.symm
      obtain ⟨C5, hC5⟩ : ∃ C5, C5 = C.set 132 ((nd : Int) % 4) := ⟨_, rfl⟩
      have lC5 : C5.length = 133 := by rw [hC5, List.length_set]; exact hC
      have bC5 : Hid (isBytes C5) := Lib.hid (by
        rw [hC5]
        intro x hx
        rcases List.mem_or_eq_of_mem_set hx with hx | rfl
        · exact hCB.out x hx
        · omega)
      have e5 : C.set 132 ((nd : Int) % 4) = C5 := hC5.symm
      clear hC5
      go_upto_region 12 with (fail)
      refine named_world (A := fun X => OwB w (LXf b11 b12 b13 b14 tb td C5) X ∧ TwoP lo tb td X T) (Q := fun X => Code.wp _ _ _ _ X) ⟨(hO.out.set 1 (.cells (ints .u8 C5) 38) rfl).set 0 (.cells (ints .u8 C5) 38) rfl, (hT.out.1.put f13 (by decide) _).put (by rw [World.at_put_other _ _ _ _ n34]; exact f14) (by decide) _, (hT.out.2.put f13 (by decide) _).put (by rw [World.at_put_other _ _ _ _ n34]; exact f14) (by decide) _⟩ ?_
      rintro U5 ⟨hO5, hT5⟩
      have HO5 := Lib.hid hO5
      have HT5 := Lib.hid hT5
      clear hO5 hT5 f13 f14 t13 t14 hO hT hCB hC sC e5
      have f13 := HO5.out.nth 1 rfl
      have f14 := HO5.out.nth 0 rfl
      have t13 := World.at_lt f13
      have t14 := World.at_lt f14
      have sC5 : (ints .u8 C5).size = 133 := by rw [size_ints, lC5]
      obtain ⟨C6, hC6⟩ : ∃ C6, C6 = seeF C5 (sv : Int) ((hi : Int) % 6) := ⟨_, rfl⟩
      have lC6 : C6.length = 133 := by rw [hC6, seeF_len]; exact lC5
      have bC6 : Hid (isBytes C6) := Lib.hid (by rw [hC6]; exact seeF_bytes bC5.out (by omega) (by omega))
      have c1 : ∀ W : World, Calls Tryz.prog 12 #[.agg (ints .u8 C5), .int .u8 (sv : Int), .int .u8 ((hi : Int) % 6)] W fun e w' => e = .returned (.agg (ints .u8 C6)) ∧ Fr [] W w' := fun W => by rw [hC6]; exact see_f lC5 (by omega)
      have c2 : ∀ W : World, Calls Tryz.prog 13 #[.agg (ints .u8 C5), .int .u8 (sv : Int), .int .u8 ((hi : Int) % 6)] W fun e w' => e = .returned (.agg (ints .u8 C6)) ∧ Fr [] W w' := fun W => by rw [hC6]; exact dsee_f lC5 (by omega)
      have C1 := Lib.hid c1
      have C2 := Lib.hid c2
      have y6 : lay C5 0 C6 = C6 := by
        unfold lay
        rw [List.take_zero, List.nil_append, List.drop_of_length_le (by omega), List.append_nil]
      have t133 : List.take 133 C5 = C5 := List.take_of_length_le (by omega)
      have t136 : List.take 133 C6 = C6 := List.take_of_length_le (by omega)
      clear c1 c2 hC6 n34 n43
      refine drawn_begin 10 (fun w' => w'.blk b13 = some (.cells (ints .u8 C5) 38) ∧ w'.blk b14 = some (.cells (ints .u8 C5) 38)) (by kernel_rfl) ?_
      refine drawn_reads (fuel := 4) [0, 1, 2, 3, 5, 6, 7, 8] rfl (by kernel_rfl) ⟨f13, f14⟩ ?_
      repeat (first | (refine rowK_step2 rfl rfl (fun K hK => ?_); go_wp2) | (refine rowK_step rfl (fun K hK => ?_); go_simp; refine hK _ ?_; clear hK K))
      refine rowK_nil ⟨fun w' e1 => ?_, ?_⟩
      · first | obtain ⟨e1, e2⟩ := e1 | intro e2
        clear f13 f14
        repeat (first | (refine rowWp_step2 rfl rfl (fun K hK => ?_); go_wp2) | (refine rowWp_step rfl (fun K hK => ?_); go_simp; refine hK _ ?_; clear hK K))
        exact rowWp_nil rfl
      refine drawn_next 4 (fuel := 3) rfl (by kernel_rfl) ?_
      intro K hK
      go_wp2_with fail
      refine (C1.out _).mono ?_
      rintro e W1 ⟨rfl, F⟩
      have HO6 := Lib.hid (HO5.out.drew.call F)
      have HT6 : Hid (TwoP lo tb td W1 T) := Lib.hid ⟨HT5.out.1.fr0 (fr_drew_any F), HT5.out.2.fr0 (fr_drew_any F)⟩
      clear f13 f14 t13 t14 F HO5 HT5
      have f13 := HO6.out.nth 1 rfl
      have f14 := HO6.out.nth 0 rfl
      have t13 := World.at_lt f13
      have t14 := World.at_lt f14
      go_wp2_with fail
      refine ⟨⟨f13, f14⟩, ?_⟩
      refine drawn_next 9 (fuel := 2) rfl (by kernel_rfl) ?_
      intro K hK
      go_wp2_with fail
      refine (C2.out _).mono ?_
      rintro e W2 ⟨rfl, F⟩
      have HO7 := Lib.hid (HO6.out.call F)
      have HT7 : Hid (TwoP lo tb td W2 T) := Lib.hid ⟨HT6.out.1.fr0 F, HT6.out.2.fr0 F⟩
      clear f13 f14 t13 t14 F HO6 HT6
      have f13 := HO7.out.nth 1 rfl
      have f14 := HO7.out.nth 0 rfl
      have t13 := World.at_lt f13
      have t14 := World.at_lt f14
      have n34 := HO7.out.ne 1 0 rfl rfl (by decide)
      have n43 := n34.symm
      go_wp2_with fail
      refine ⟨⟨f13, f14⟩, ?_⟩
      refine drawn_end rfl (by kernel_rfl) ?_
      intro K hK
      go_upto_region 13 with (fail)
      refine named_world (A := fun X => OwB w (LXf b11 b12 b13 b14 tb td C6) X ∧ TwoP lo tb td X T) (Q := fun X => Code.wp _ _ _ _ X) ⟨(HO7.out.set 1 (.cells (ints .u8 C6) 38) rfl).set 0 (.cells (ints .u8 C6) 38) rfl, (HT7.out.1.put f13 (by decide) _).put (by rw [World.at_put_other _ _ _ _ n34]; exact f14) (by decide) _, (HT7.out.2.put f13 (by decide) _).put (by rw [World.at_put_other _ _ _ _ n34]; exact f14) (by decide) _⟩ ?_
      rintro U6 ⟨hO6, hT6⟩
      have HO6 := Lib.hid hO6
      have HT6 := Lib.hid hT6
      clear hO6 hT6 f13 f14 t13 t14 HO7 HT7 C1 C2
      have f13 := HO6.out.nth 1 rfl
      have f14 := HO6.out.nth 0 rfl
      have eqC : ∀ W : World, (Op.equalIn 10000 38 (.agg (ints .u8 C6)) (.agg (ints .u8 C6))).run Tryz.prog W = .ok true W := fun W => eq38 lC6 W
      go_upto_region 17 with (fail)
      have st0 : Hid (∃ Na Nb, St w lo tb td U6 T T [] Na Nb (LXf b11 b12 b13 b14 tb td C6) [] [] none none 0 0) := Lib.hid ⟨[], [], HO6.out, HT6.out.1, HT6.out.2, by simp, (fun q hq => by
        simp only [LXf, List.mem_cons, List.not_mem_nil, or_false] at hq
        rcases hq with rfl | rfl | rfl | rfl <;> exact ⟨_, _, _, rfl, by simp⟩), Parked.nil _ _, Parked.nil _ _, by simp, by simp, rfl, hlw⟩
      clear HO6 HT6 f13 f14 eqC
      go_loopw [16, 17, 18] (fun va vb iv wy => ∃ (i : Nat) (T : List Tm) (ya yb : List Oe) (pa pb : Option Addr) (ca cb : Nat), i ≤ n ∧ i ≤ 6 ∧ iv = .int .i64 (i : Int) ∧ va = .slice pa i ca ∧ vb = .slice pb i cb ∧ ya.length = i ∧ yb.length = i ∧ Hid (∃ Na Nb, St w lo tb td wy T T [] Na Nb (LXf b11 b12 b13 b14 tb td C6) ya yb pa pb ca cb)) (fun _ _ iv _ => (n - intOf iv).toNat)
      case atStart => exact ⟨0, T, [], [], none, none, 0, 0, by omega, by omega, rfl, rfl, rfl, rfl, rfl, st0⟩
      case round =>
        clear st0 T
        obtain ⟨i, T, ya, yb, pa, pb, ca, cb, hin, hi6, rfl, rfl, rfl, hya, hyb, hS⟩ := hrel
        have HYA := Lib.hid hya
        have HYB := Lib.hid hyb
        clear hya hyb
        go_upto_region 17 with (fail)
        go_cut [71, 72, 73, 74, 75, 76, 77, 78] (fun _ _ _ _ _ _ _ v wy => v = .bool (decide (i < n) && decide (i < 6)) ∧ wy = wr)
        case first =>
          by_cases h1 : i < n
          · have d1 : decide ((i : Int) < (n : Int)) = true := by rw [decide_eq_true_eq]; omega
            by_cases h2 : i < 6
            · have d2 : decide ((i : Int) < 6) = true := by rw [decide_eq_true_eq]; omega
              go_wp2_with fail
              go_meet
              case rel => exact ⟨by simp [h1, h2], rfl⟩
            · have d2 : decide ((i : Int) < 6) = false := by rw [decide_eq_false_iff_not]; omega
              go_wp2_with fail
              go_meet
              case rel => exact ⟨by simp [h1, h2], rfl⟩
          · have d1 : decide ((i : Int) < (n : Int)) = false := by rw [decide_eq_false_iff_not]; omega
            go_wp2_with fail
            go_meet
            case rel => exact ⟨by simp [h1], rfl⟩
        case rest =>
          obtain ⟨rfl, rfl⟩ := hcut
          by_cases hlt : i < n ∧ i < 6
          · obtain ⟨hin2, hi62⟩ := hlt
            have db : (decide (i < n) && decide (i < 6)) = true := by simp [hin2, hi62]
            rw [db]
            obtain ⟨Na, Nb, hSt⟩ := hS.out
            obtain ⟨⟨⟨x, vp, vn, vc⟩, by_, np, nn, nc, nb, sp, sn, sc, sb⟩, b, off, cs, TT, fr, hki, rfl, fc0, hs2, gX, gV, gB, gN, gS⟩ := lks_at (HS.out.sv (by omega)) HL.out HK.out hin2
            have hkk := HK.out _ (List.mem_of_getElem? hki)
            have fc := hSt.own.fr.get fc0 (by simp)
            have tc := World.at_lt fc
            replace gV : cs[off + i * 104 + 100]? = some (.slice vp vn vc) := gV
            replace gB : cs[off + i * 104 + 101]? = some (.int .u8 by_) := gB
            replace gN : cs[off + i * 104 + 102]? = some (.slice np nn nc) := gN
            replace gS : cs[off + i * 104 + 103]? = some (.slice sp sn sc) := gS
            replace gX : cs.extract (off + i * 104) (off + i * 104 + 101) = oC x (.slice vp vn vc) := gX
            have okx : ObK x := hkk.ok
            have okv : Lw 65 w vp vn vc (vsL x.vs) := hkk.vs
            have okc : ∀ v ∈ x.vs, VcOk v := hkk.vok
            have okl : x.vs.length = vn := hkk.len
            have okb0 : 0 ≤ by_ := hkk.b0
            have okb1 : by_ < 256 := hkk.b1
            have okn : By w np nn nb := hkk.ns
            have oks : By w sp sn sb := hkk.ss
            have oknb : isBytes nb := hkk.nbb
            have oksb : isBytes sb := hkk.sbb
            have HST := Lib.hid hSt
            have HX := Lib.hid okx
            have HVS := Lib.hid okv
            have HVC := Lib.hid okc
            have HVL := Lib.hid okl
            have HN := Lib.hid okn
            have HSS := Lib.hid oks
            have HNB := Lib.hid oknb
            have HSB := Lib.hid oksb
            replace gV := (Array.getElem?_eq_some_iff.1 gV).2
            replace gB := (Array.getElem?_eq_some_iff.1 gB).2
            replace gN := (Array.getElem?_eq_some_iff.1 gN).2
            replace gS := (Array.getElem?_eq_some_iff.1 gS).2
            have dn : decide ((i : Int) < (n : Int)) = true := by rw [decide_eq_true_eq]; omega
            clear hkk hki hSt okx okv okc okl okn oks oknb oksb hS
            by_cases hv6 : 6 < vn
            · have d6 : decide ((6 : Int) < (vn : Int)) = true := by rw [decide_eq_true_eq]; omega
              go_wp2_with fail
              exact bodyPost_ret (results_tmp rfl _ _ _) rfl ⟨rfl, HST.out.own.fr⟩
            · have d6 : decide ((6 : Int) < (vn : Int)) = false := by rw [decide_eq_false_iff_not]; omega
              go_upto_region 21 with (fail)
              obtain ⟨U0, hU0⟩ : ∃ U0, U0 = wc := ⟨_, rfl⟩
              rw [← hU0] at HST fc tc ⊢
              have hU0s : U0.heap.size ≤ U0.heap.size := Nat.le_refl _
              obtain ⟨x1, hx1⟩ : ∃ x1, x1 = { x with sig := (signF T (secB by_) (objText x)).2 } := ⟨_, rfl⟩
              obtain ⟨T2, hT2⟩ : ∃ T2, T2 = (signF T (secB by_) (objText x)).1 := ⟨_, rfl⟩
              have okx1 : ObK x1 := by
                rw [hx1]
                have h := HX.out
                exact ⟨h.s0, h.s1, h.n0, h.n1, h.f0, h.f1, h.t0, h.t1, h.kl, signF_len _ _ _, h.kb, byt_signF⟩
              have vs1 : x1.vs = x.vs := by rw [hx1]
              have HX1 := Lib.hid okx1
              have HV1 := Lib.hid vs1
              have c14 : ∀ W : World, TabP lo tb W T → Fr [] w W → Calls Tryz.prog 14 #[SU tb, .agg (ints .u8 (secB by_)), .agg (oC x (.slice vp vn vc))] W fun e w' => ∃ q c, e = .returned (.agg (oC x1 (.slice q vn c))) ∧ Vr w' q vn c (vsL x.vs) ∧ TabP lo tb w' T2 ∧ FrP lo W w' := fun W h F => by
                rw [hx1, hT2]; exact ksign_v h key_secB.len key_secB.byt HX.out (HVS.out.fr0 F) (vsL_one _) (by omega)
              have c15 : ∀ W : World, DTabP lo td W T → Calls Tryz.prog 15 #[SU td, .agg (ints .u8 (secB by_)), .agg (oC x (.slice vp vn vc))] W fun e w' => e = .returned (.agg (oC x1 (.slice vp vn vc))) ∧ DTabP lo td w' T2 ∧ FrD lo W w' := fun W h => by
                rw [hx1, hT2]; exact dosign_v h key_secB.len key_secB.byt HX.out rfl
              have C14 := Lib.hid c14
              have C15 := Lib.hid c15
              clear okx1 vs1 hx1 hT2 hU0 c14 c15
              obtain ⟨xo, hxo⟩ : ∃ xo, xo = oC x (.slice vp vn vc) := ⟨_, rfl⟩
              rw [← hxo] at gX C14 C15
              have xosz : xo.size = 101 := by rw [hxo]; exact (obF HX.out).sz
              clear hxo
              have hs101 : off + i * 104 + 101 ≤ cs.size := by omega
              have hs102 : off + i * 104 + 101 < cs.size := by omega
              have f11 := HST.out.lxb 3 rfl
              have t11 := World.at_lt f11
              refine drawn_begin 14 (fun w' => w'.blk b11 = some (.cells #[.pointer (some ⟨tb, 0, none⟩)] 27) ∧ w'.blk b = some (.cells cs TT fr)) (by kernel_rfl) ?_
              refine drawn_reads (fuel := 4) [0, 1, 2, 3, 4, 5, 7, 8, 9, 10, 11] rfl (by kernel_rfl) ⟨f11, fc⟩ ?_
              repeat (first | (refine rowK_step2 rfl rfl (fun K hK => ?_); go_wp2) | (refine rowK_step rfl (fun K hK => ?_); go_simp; refine hK _ ?_; clear hK K))
              refine rowK_nil ⟨fun w' e1 => ?_, ?_⟩
              · first | obtain ⟨e1, e2⟩ := e1 | intro e2
                clear f11 fc
                repeat (first | (refine rowWp_step2 rfl rfl (fun K hK => ?_); go_wp2) | (refine rowWp_step rfl (fun K hK => ?_); go_simp; refine hK _ ?_; clear hK K))
                exact rowWp_nil rfl
              refine drawn_jumble2 (fuel := 1) (D := D21) [6, 12, 13] (R21 U0 (secB by_) x1 vn (vsL x.vs)) (fun W W' => FrP lo W W') (fun q W => St w lo tb td W (pick2 (q 12) T2 T) T [] Na Nb (LXf b11 b12 b13 b14 tb td C6) ya yb pa pb ca cb ∧ U0.heap.size ≤ W.heap.size) (by kernel_rfl) ?_ ?_ ?_ ?_
              · exact fun i v W W' => R21_keep
              · exact ⟨by simpa [pick2] using HST.out.fr0 (Fr.refl [] U0).drew, Nat.le_refl _⟩
              · have hSS : ∀ X Tc Td, St w lo tb td X Tc Td [] Na Nb (LXf b11 b12 b13 b14 tb td C6) ya yb pa pb ca cb → X.blk b11 = some (.cells #[.pointer (some ⟨tb, 0, none⟩)] 27) ∧ X.blk b = some (.cells cs TT fr) := fun X Tc Td h => ⟨h.lxb 3 rfl, h.own.fr.get fc0 (by simp)⟩
                have HSS2 := Lib.hid hSS
                clear hSS f11 fc
                intro i' hi' p' y W hp hJ hP hR
                obtain ⟨hJ1, hJs⟩ := hJ
                have HJ1 := Lib.hid hJ1
                clear hJ1
                have HR := Lib.hid hR
                clear hP hR
                simp only [List.mem_cons, List.not_mem_nil, or_false] at hi'
                rcases hi' with rfl | rfl | rfl
                · refine wpOp_ofList rfl fun K hK => ?_
                  simp only [fillA, fillT, D21_6, D21_12, D21_13]
                  go_wp2_with fail
                  refine (secret_f okb0 okb1).mono ?_
                  rintro e W2 ⟨rfl, F⟩
                  have HF := Lib.hid F
                  clear F
                  go_wp2_with fail
                  exact ⟨_, by (simp only [fillA, fillT, D21_6, D21_12, D21_13]; first | rfl | exact ⟨rfl, trivial⟩), rfl, .of HF.out, ⟨by simpa using HJ1.out.fr0 HF.out, Nat.le_trans hJs HF.out.size⟩, .inr (HSS2.out _ _ _ (HJ1.out.fr0 HF.out))⟩
                · have hy : y 6 = .agg (ints .u8 (secB by_)) := HR.out 6 (by simp) (by kernel_rfl)
                  refine wpOp_ofList rfl fun K hK => ?_
                  simp only [fillA, fillT, D21_6, D21_12, D21_13]
                  rw [hy]
                  go_wp2_with fail
                  have hJ2 := HJ1.out
                  rw [hp] at hJ2
                  replace hJ2 : St w lo tb td W T T [] Na Nb (LXf b11 b12 b13 b14 tb td C6) ya yb pa pb ca cb := hJ2
                  have HJ2 := Lib.hid hJ2
                  clear hJ2
                  refine (C14.out W HJ2.out.tc HJ2.out.own.fr).mono ?_
                  rintro e W2 ⟨q1, c1, rfl, hVr, hT, F⟩
                  have HF := Lib.hid F
                  have HVr := Lib.hid hVr
                  have HT := Lib.hid hT
                  clear F hVr hT
                  go_wp2_with fail
                  exact ⟨_, by (simp only [fillA, fillT, D21_6, D21_12, D21_13]; rw [hy]; first | rfl | exact ⟨rfl, trivial⟩), ⟨q1, c1, rfl, HVr.out⟩, HF.out, ⟨by simpa [pick2] using HJ2.out.code HF.out HT.out, Nat.le_trans hJs HF.out.size⟩, .inr (HSS2.out _ _ _ (HJ2.out.code HF.out HT.out))⟩
                · refine wpOp_ofList rfl fun K hK => ?_
                  simp only [fillA, fillT, D21_6, D21_12, D21_13]
                  go_wp2_with fail
                  have F : Fr [] W (W.alloc (.cells Tryz.zeroCells48 48)) := (Fr.refl [] W).alloc _
                  exact ⟨_, by (simp only [fillA, fillT, D21_6, D21_12, D21_13]; first | rfl | exact ⟨rfl, trivial⟩), ⟨W.heap.size, rfl, World.at_alloc_new _ _ _ rfl, hJs⟩, .of F, ⟨by simpa using HJ1.out.fr0 F, by first | exact Nat.le_trans hJs F.size | omega | (simp; omega)⟩, HSS2.out _ _ _ (HJ1.out.fr0 F)⟩
              · intro p' y W hp hJ hR
                obtain ⟨hJ1, hJs⟩ := hJ
                rw [hp 12 (by simp)] at hJ1
                replace hJ1 : St w lo tb td W T2 T [] Na Nb (LXf b11 b12 b13 b14 tb td C6) ya yb pa pb ca cb := hJ1
                simp only [fillA, fillT, D21_6, D21_12, D21_13]
                obtain ⟨b19, y13, g19, l19⟩ := hR 13 (by simp)
                obtain ⟨q1, c1, y12, hVr⟩ := hR 12 (by simp)
                rw [y12]
                rw [y13]
                have HJ2 := Lib.hid (hJ1.join HST.out g19 l19)
                have t19 := World.at_lt g19
                have z48 : Tryz.zeroCells48.size = 101 := by kernel_rfl
                obtain ⟨ys, hys⟩ : ∃ ys, ys = oC x1 (.slice q1 vn c1) := ⟨_, rfl⟩
                rw [← hys]
                have YF : ObF ys x1 (.slice q1 vn c1) := by rw [hys]; exact obF HX1.out
                obtain ⟨ysz, -, -, -, -, -, -, -, yal, yon⟩ := YF
                replace yon := yon rfl
                have HYS := Lib.hid hys
                clear hR hp hys f11 fc t11 y12 y13 hJ1 HST
                refine drawn_end rfl (by kernel_rfl) ?_
                intro K hK
                go_upto_region 22 with (fail)
                refine named_world (A := fun X => St w lo tb td X T2 T [(b19, .cells ys 48)] Na Nb (LXf b11 b12 b13 b14 tb td C6) ya yb pa pb ca cb ∧ Vr X q1 vn c1 (vsL x.vs)) (Q := fun X => Code.wp _ _ _ _ X) ⟨HJ2.out.put 0 ys rfl, hVr.put (HJ2.out.blk 0 rfl) (by decide) _⟩ ?_
                rintro U1 ⟨hSt, hVr1⟩
                have HST := Lib.hid hSt
                have HVR := Lib.hid hVr1
                have hU1s : U1.heap.size ≤ U1.heap.size := Nat.le_refl _
                clear hSt hVr1 hVr HJ2 g19 l19 t19 tc
                have fc := HST.out.own.fr.get fc0 (by simp)
                have tc := World.at_lt fc
                have f12 := HST.out.lxb 2 rfl
                have t12 := World.at_lt f12
                refine drawn_begin 14 (fun w' => w'.blk b12 = some (.cells #[.pointer (some ⟨td, 0, none⟩)] 31) ∧ w'.blk b = some (.cells cs TT fr)) (by kernel_rfl) ?_
                refine drawn_reads (fuel := 4) [0, 1, 2, 3, 4, 5, 7, 8, 9, 10, 11] rfl (by kernel_rfl) ⟨f12, fc⟩ ?_
                repeat (first | (refine rowK_step2 rfl rfl (fun K hK => ?_); go_wp2) | (refine rowK_step rfl (fun K hK => ?_); go_simp; refine hK _ ?_; clear hK K))
                refine rowK_nil ⟨fun w' e1 => ?_, ?_⟩
                · first | obtain ⟨e1, e2⟩ := e1 | intro e2
                  clear f12 fc
                  repeat (first | (refine rowWp_step2 rfl rfl (fun K hK => ?_); go_wp2) | (refine rowWp_step rfl (fun K hK => ?_); go_simp; refine hK _ ?_; clear hK K))
                  exact rowWp_nil rfl
                refine drawn_jumble2 (fuel := 1) (D := D22) [6, 12, 13] (R22 U1 (secB by_) x1 (.slice vp vn vc)) (fun W W' => FrD lo W W') (fun q W => St w lo tb td W T2 (pick2 (q 12) T2 T) [(b19, .cells ys 48)] Na Nb (LXf b11 b12 b13 b14 tb td C6) ya yb pa pb ca cb ∧ Vr W q1 vn c1 (vsL x.vs) ∧ U1.heap.size ≤ W.heap.size) (by kernel_rfl) ?_ ?_ ?_ ?_
                · exact fun i v W W' => R22_keep
                · exact ⟨by simpa [pick2] using HST.out.fr0 (Fr.refl [] U1).drew, HVR.out.fr0 (Fr.refl [] U1).drew, Nat.le_refl _⟩
                · have hSS : ∀ X Tc Td, St w lo tb td X Tc Td [(b19, .cells ys 48)] Na Nb (LXf b11 b12 b13 b14 tb td C6) ya yb pa pb ca cb → X.blk b12 = some (.cells #[.pointer (some ⟨td, 0, none⟩)] 31) ∧ X.blk b = some (.cells cs TT fr) := fun X Tc Td h => ⟨h.lxb 2 rfl, h.own.fr.get fc0 (by simp)⟩
                  have HSS2 := Lib.hid hSS
                  clear hSS f12 fc
                  intro i' hi' p' y W hp hJ hP hR
                  obtain ⟨hJ1, hJv, hJs⟩ := hJ
                  have HJ1 := Lib.hid hJ1
                  have HJv := Lib.hid hJv
                  have HR := Lib.hid hR
                  clear hJ1 hJv hP hR
                  simp only [List.mem_cons, List.not_mem_nil, or_false] at hi'
                  rcases hi' with rfl | rfl | rfl
                  · refine wpOp_ofList rfl fun K hK => ?_
                    simp only [fillA, fillT, D22_6, D22_12, D22_13]
                    go_wp2_with fail
                    refine (secret_f okb0 okb1).mono ?_
                    rintro e W2 ⟨rfl, F⟩
                    have HF := Lib.hid F
                    clear F
                    go_wp2_with fail
                    exact ⟨_, by (simp only [fillA, fillT, D22_6, D22_12, D22_13]; first | rfl | exact ⟨rfl, trivial⟩), rfl, .of HF.out, ⟨by simpa using HJ1.out.fr0 HF.out, HJv.out.fr0 HF.out, Nat.le_trans hJs HF.out.size⟩, .inr (HSS2.out _ _ _ (HJ1.out.fr0 HF.out))⟩
                  · have hy : y 6 = .agg (ints .u8 (secB by_)) := HR.out 6 (by simp) (by kernel_rfl)
                    refine wpOp_ofList rfl fun K hK => ?_
                    simp only [fillA, fillT, D22_6, D22_12, D22_13]
                    rw [hy]
                    go_wp2_with fail
                    have hJ2 := HJ1.out
                    rw [hp] at hJ2
                    replace hJ2 : St w lo tb td W T2 T [(b19, .cells ys 48)] Na Nb (LXf b11 b12 b13 b14 tb td C6) ya yb pa pb ca cb := hJ2
                    have HJ2 := Lib.hid hJ2
                    clear hJ2
                    refine (C15.out W HJ2.out.td).mono ?_
                    rintro e W2 ⟨rfl, hT, F⟩
                    have HF := Lib.hid F
                    have HT := Lib.hid hT
                    clear F hT
                    go_wp2_with fail
                    exact ⟨_, by (simp only [fillA, fillT, D22_6, D22_12, D22_13]; rw [hy]; first | rfl | exact ⟨rfl, trivial⟩), rfl, HF.out, ⟨by simpa [pick2] using HJ2.out.doc HF.out HT.out, HJv.out.frT HF.out (by decide) (by decide), Nat.le_trans hJs HF.out.size⟩, .inr (HSS2.out _ _ _ (HJ2.out.doc HF.out HT.out))⟩
                  · refine wpOp_ofList rfl fun K hK => ?_
                    simp only [fillA, fillT, D22_6, D22_12, D22_13]
                    go_wp2_with fail
                    have F : Fr [] W (W.alloc (.cells Tryz.zeroCells48 48)) := (Fr.refl [] W).alloc _
                    exact ⟨_, by (simp only [fillA, fillT, D22_6, D22_12, D22_13]; first | rfl | exact ⟨rfl, trivial⟩), ⟨W.heap.size, rfl, World.at_alloc_new _ _ _ rfl, hJs⟩, .of F, ⟨by simpa using HJ1.out.fr0 F, HJv.out.fr0 F, by first | exact Nat.le_trans hJs F.size | omega | (simp; omega)⟩, HSS2.out _ _ _ (HJ1.out.fr0 F)⟩
                · intro p' y W hp hJ hR
                  obtain ⟨hJ1, hJv, hJs⟩ := hJ
                  rw [hp 12 (by simp)] at hJ1
                  replace hJ1 : St w lo tb td W T2 T2 [(b19, .cells ys 48)] Na Nb (LXf b11 b12 b13 b14 tb td C6) ya yb pa pb ca cb := hJ1
                  simp only [fillA, fillT, D22_6, D22_12, D22_13]
                  obtain ⟨b20, y13, g20, l20⟩ := hR 13 (by simp)
                  have y12 : y 12 = .agg (oC x1 (.slice vp vn vc)) := hR 12 (by simp)
                  rw [y12, y13]
                  have HJ2 := Lib.hid (hJ1.join HST.out g20 l20)
                  have HVR2 := Lib.hid hJv
                  have t20 := World.at_lt g20
                  obtain ⟨zs_, hzs⟩ : ∃ zs_, zs_ = oC x1 (.slice vp vn vc) := ⟨_, rfl⟩
                  rw [← hzs]
                  have YF : ObF zs_ x1 (.slice vp vn vc) := by rw [hzs]; exact obF HX1.out
                  obtain ⟨zsz, -, -, -, -, -, -, -, zal, zon⟩ := YF
                  replace zon := zon rfl
                  have HZS := Lib.hid hzs
                  clear hR hp hzs f12 fc t12 y12 y13 hJ1 hJv HST HVR
                  refine drawn_end rfl (by kernel_rfl) ?_
                  intro K hK
                  go_upto_region 23 with (fail)
                  refine named_world (A := fun X => St w lo tb td X T2 T2 [(b20, .cells zs_ 48), (b19, .cells ys 48)] Na Nb (LXf b11 b12 b13 b14 tb td C6) ya yb pa pb ca cb ∧ Vr X q1 vn c1 (vsL x.vs)) (Q := fun X => Code.wp _ _ _ _ X) ⟨HJ2.out.put 0 zs_ rfl, HVR2.out.put (HJ2.out.blk 0 rfl) (by decide) _⟩ ?_
                  rintro U2 ⟨hSt, hVr2⟩
                  have HST := Lib.hid hSt
                  have HVR := Lib.hid hVr2
                  clear hSt hVr2 HJ2 HVR2 g20 l20 t20 tc
                  go_wp2_with fail
                  go_loopw [21] (fun kv wy => ∃ (k : Nat) (T3 : List Tm) (x3 : Ob) (px py : Option Addr) (cx cy : Nat) (yc zc : Array Value), k ≤ 4 ∧ kv = .int .i64 (k : Int) ∧ Hid (yc = oC x3 (.slice px (vn + k) cx)) ∧ Hid (zc = oC x3 (.slice py (vn + k) cy)) ∧ Hid (ObK x3) ∧ Hid (∀ v ∈ x3.vs, VcOk v) ∧ Hid (x3.vs.length = vn + k) ∧ Hid (St w lo tb td wy T3 T3 [(b20, .cells zc 48), (b19, .cells yc 48)] Na Nb (LXf b11 b12 b13 b14 tb td C6) ya yb pa pb ca cb) ∧ Hid (Vr wy px (vn + k) cx (vsL x3.vs)) ∧ Hid (VrL w.heap.size wy py (vn + k) cy (vsL x3.vs))) (fun kv _ => (4 - intOf kv).toNat)
                  case atStart => exact ⟨0, T2, x1, q1, vp, c1, vc, ys, zs_, by omega, rfl, HYS, HZS, HX1, Lib.hid (by rw [HV1.out]; exact HVC.out), Lib.hid (by rw [HV1.out]; exact HVL.out), HST, Lib.hid (by rw [HV1.out]; exact HVR.out), Lib.hid (by rw [HV1.out]; exact (VrL.old HVS.out).fr0 HST.out.own.fr)⟩
                  case round =>
                    clear HYS HZS HX1 HV1 HST HVR C14 C15 ysz yal yon zsz zal zon xosz gX
                    obtain ⟨k, T3, x3, px, py, cx, cy, yc, zc, hk4, rfl, HYC, HZC, HX3, HV3, HL3, HS3, HVx, HVy⟩ := hrel
                    go_upto_region 24 with (fail)
                    go_cut [115, 116, 117, 118, 119, 120, 121, 122, 123, 124, 125, 126, 127, 128, 129, 130, 131, 132, 133, 134, 135, 136] (fun _ _ _ _ _ _ _ _ _ _ _ _ _ _ _ _ _ _ _ _ _ v wy => v = .bool (decide (k < nn) && decide (k < sn) && decide (k < 4)) ∧ wy = wr)
                    case first =>
                      have fc := HS3.out.own.fr.get fc0 (by simp)
                      have tc := World.at_lt fc
                      have hs102 : off + i * 104 + 102 < cs.size := by omega
                      have hs103 : off + i * 104 + 103 < cs.size := by omega
                      by_cases h1 : k < nn
                      · have d1 : decide ((k : Int) < (nn : Int)) = true := by rw [decide_eq_true_eq]; omega
                        by_cases h2 : k < sn
                        · have d2 : decide ((k : Int) < (sn : Int)) = true := by rw [decide_eq_true_eq]; omega
                          by_cases h3 : k < 4
                          · have d3 : decide ((k : Int) < 4) = true := by rw [decide_eq_true_eq]; omega
                            go_wp2_with fail
                            go_meet
                            case rel => exact ⟨by simp [h1, h2, h3], rfl⟩
                          · have d3 : decide ((k : Int) < 4) = false := by rw [decide_eq_false_iff_not]; omega
                            go_wp2_with fail
                            go_meet
                            case rel => exact ⟨by simp [h1, h2, h3], rfl⟩
                        · have d2 : decide ((k : Int) < (sn : Int)) = false := by rw [decide_eq_false_iff_not]; omega
                          go_wp2_with fail
                          go_meet
                          case rel => exact ⟨by simp [h1, h2], rfl⟩
                      · have d1 : decide ((k : Int) < (nn : Int)) = false := by rw [decide_eq_false_iff_not]; omega
                        go_wp2_with fail
                        go_meet
                        case rel => exact ⟨by simp [h1], rfl⟩
                    case rest =>
                      obtain ⟨rfl, rfl⟩ := hcut
                      have YF : ObF yc x3 (.slice px (vn + k) cx) := by rw [HYC.out]; exact obF HX3.out
                      have ZF : ObF zc x3 (.slice py (vn + k) cy) := by rw [HZC.out]; exact obF HX3.out
                      obtain ⟨ysz, -, -, -, -, -, -, -, yal, yon⟩ := YF
                      obtain ⟨zsz, -, -, -, -, -, -, -, zal, zon⟩ := ZF
                      replace yon := yon rfl
                      replace zon := zon rfl
                      by_cases hlt3 : k < nn ∧ k < sn ∧ k < 4
                      · obtain ⟨hk1, hk2, hk3⟩ := hlt3
                        have db3 : (decide (k < nn) && decide (k < sn) && decide (k < 4)) = true := by simp [hk1, hk2, hk3]
                        rw [db3]
                        obtain ⟨bs_, os_, css, Ts, frs, rfl, fs0, hss, gs0, es0⟩ := HSS.out.at hk2
                        obtain ⟨bn, on_, csn, Tn, frn, rfl, fn0, hsn, gn0, en0⟩ := HN.out.at hk1
                        obtain ⟨se, hse⟩ : ∃ se, se = el sb k := ⟨_, rfl⟩
                        obtain ⟨nt, hnt⟩ : ∃ nt, nt = el nb k := ⟨_, rfl⟩
                        have hseb := HSB.out (el sb k) (List.mem_of_getElem? es0)
                        have hntb := HNB.out (el nb k) (List.mem_of_getElem? en0)
                        rw [← hse] at gs0 hseb
                        rw [← hnt] at gn0 hntb
                        obtain ⟨se0, se1⟩ := hseb
                        obtain ⟨nt0, nt1⟩ := hntb
                        replace gs0 := (Array.getElem?_eq_some_iff.1 gs0).2
                        replace gn0 := (Array.getElem?_eq_some_iff.1 gn0).2
                        have hs102 : off + i * 104 + 102 < cs.size := by omega
                        have hs103 : off + i * 104 + 103 < cs.size := by omega
                        have hi1 : (i : Int) < (n : Int) := by omega
                        have hkn : (k : Int) < (nn : Int) := by omega
                        have hks : (k : Int) < (sn : Int) := by omega
                        obtain ⟨sg, hsg⟩ : ∃ sg, sg = (signF T3 (secB se) (vouchText x3 nt)).2 := ⟨_, rfl⟩
                        obtain ⟨T4, hT4⟩ : ∃ T4, T4 = (signF T3 (secB se) (vouchText x3 nt)).1 := ⟨_, rfl⟩
                        have okS : VcOk (nt, sg) := ⟨nt0, nt1, by rw [hsg]; exact signF_len _ _ _, by rw [hsg]; exact byt_signF⟩
                        have c16 : ∀ W : World, TabP lo tb W T3 → Vr W px (vn + k) cx (vsL x3.vs) → Calls Tryz.prog 16 #[SU tb, .agg (ints .u8 (secB se)), .agg yc, .int .u8 nt] W fun e w' => ∃ q c, e = .returned (.agg (oC x3 (.slice q (vn + k + 1) c))) ∧ Vr w' q (vn + k + 1) c (vsL (x3.vs ++ [(nt, sg)])) ∧ TabP lo tb w' T4 ∧ FrP lo W w' := fun W h hv => by
                          rw [HYC.out, hsg, hT4]; exact kvouch_v h key_secB.len key_secB.byt HX3.out hv (by omega) nt0 nt1
                        have c17 : ∀ W : World, DTabP lo td W T3 → Lw 65 W py (vn + k) cy (vsL x3.vs) → Calls Tryz.prog 17 #[SU td, .agg (ints .u8 (secB se)), .agg zc, .int .u8 nt] W fun e w' => ∃ q c, e = .returned (.agg (oC x3 (.slice q (vn + k + 1) c))) ∧ Vr w' q (vn + k + 1) c (vsL (x3.vs ++ [(nt, sg)])) ∧ DTabP lo td w' T4 ∧ FrD lo W w' := fun W h hv => by
                          rw [HZC.out, hsg, hT4]; exact dvouch_v h key_secB.len key_secB.byt HX3.out hv (by omega) nt0 nt1
                        have C16 := Lib.hid c16
                        have C17 := Lib.hid c17
                        have HOKS := Lib.hid okS
                        clear c16 c17 hsg hT4 okS es0 en0 hse hnt
                        go_upto_region 26 with (fail)
                        have fc := HS3.out.own.fr.get fc0 (by simp)
                        have fs := HS3.out.own.fr.get fs0 (by simp)
                        have fn := HS3.out.own.fr.get fn0 (by simp)
                        have fS := HS3.out.lxb 3 rfl
                        have fB := HS3.out.blk 1 rfl
                        have tc := World.at_lt fc
                        have ts := World.at_lt fs
                        have tn := World.at_lt fn
                        have tS := World.at_lt fS
                        have tB := World.at_lt fB
                        refine drawn_begin 20 (fun w' => w'.blk b11 = some (.cells #[.pointer (some ⟨tb, 0, none⟩)] 27) ∧ w'.blk b = some (.cells cs TT fr) ∧ w'.blk bs_ = some (.cells css Ts frs) ∧ w'.blk bn = some (.cells csn Tn frn) ∧ w'.blk b19 = some (.cells yc 48)) (by kernel_rfl) ?_
                        refine drawn_reads (fuel := 3) [0, 1, 2, 3, 4, 5, 6, 7, 8, 10, 11, 12, 13, 14, 15, 16, 17, 18] rfl (by kernel_rfl) ⟨fS, fc, fs, fn, fB⟩ ?_
                        repeat (first | (refine rowK_step2 rfl rfl (fun K hK => ?_); go_wp2) | (refine rowK_step rfl (fun K hK => ?_); go_simp; refine hK _ ?_; clear hK K))
                        refine rowK_nil ⟨fun w' e1 => ?_, ?_⟩
                        · first | obtain ⟨e1, e2, e3, e4, e5⟩ := e1 | intro e2 e3 e4 e5
                          clear fS fc fs fn fB
                          repeat (first | (refine rowWp_step2 rfl rfl (fun K hK => ?_); go_wp2) | (refine rowWp_step rfl (fun K hK => ?_); go_simp; refine hK _ ?_; clear hK K))
                          exact rowWp_nil rfl
                        refine drawn_next 9 (fuel := 2) rfl (by kernel_rfl) ?_
                        intro K hK
                        go_wp2_with fail
                        refine (secret_f se0 se1).mono ?_
                        rintro e W1 ⟨rfl, F⟩
                        have F' := fr_drew_any F
                        have HS4 := Lib.hid (HS3.out.fr0 F')
                        have HVx4 := Lib.hid (HVx.out.fr0 F')
                        have HVy4 := Lib.hid (HVy.out.fr0 F')
                        clear fS fc fs fn fB tc ts tn tS tB F F' HS3 HVx HVy
                        have fc := HS4.out.own.fr.get fc0 (by simp)
                        have fs := HS4.out.own.fr.get fs0 (by simp)
                        have fn := HS4.out.own.fr.get fn0 (by simp)
                        have fS := HS4.out.lxb 3 rfl
                        have fB := HS4.out.blk 1 rfl
                        have tc := World.at_lt fc
                        have ts := World.at_lt fs
                        have tn := World.at_lt fn
                        have tS := World.at_lt fS
                        have tB := World.at_lt fB
                        go_wp2_with fail
                        refine ⟨⟨fS, fc, fs, fn, fB⟩, ?_⟩
                        refine drawn_next 19 (fuel := 1) rfl (by kernel_rfl) ?_
                        intro K hK
                        go_wp2_with fail
                        refine (C16.out W1 HS4.out.tc HVx4.out).mono ?_
                        rintro e W2 ⟨q4, c4, rfl, hVr, hT, F⟩
                        have HS5 := Lib.hid (HS4.out.code F hT)
                        have HVx5 := Lib.hid hVr
                        have HVy5 := Lib.hid (HVy4.out.frT F HS4.out.lw (by decide))
                        clear fS fc fs fn fB tc ts tn tS tB F hT hVr HS4 HVx4 HVy4 C16
                        have fB := HS5.out.blk 1 rfl
                        have tB := World.at_lt fB
                        obtain ⟨y4, hy4⟩ : ∃ y4, y4 = oC x3 (.slice q4 (vn + k + 1) c4) := ⟨_, rfl⟩
                        have Y4 : ObF y4 x3 (.slice q4 (vn + k + 1) c4) := by rw [hy4]; exact obF HX3.out
                        obtain ⟨y4sz, -, -, -, -, -, -, -, y4al, y4on⟩ := Y4
                        replace y4on := y4on rfl
                        rw [← hy4]
                        have HY4 := Lib.hid hy4
                        clear hy4
                        go_wp2_with fail
                        refine ⟨by first | exact ⟨HS5.out.lxb 3 rfl, HS5.out.own.fr.get fc0 (by simp), HS5.out.own.fr.get fs0 (by simp), HS5.out.own.fr.get fn0 (by simp), fB⟩ | (go_simp; exact ⟨HS5.out.lxb 3 rfl, HS5.out.own.fr.get fc0 (by simp), HS5.out.own.fr.get fs0 (by simp), HS5.out.own.fr.get fn0 (by simp)⟩), ?_⟩
                        refine drawn_end rfl (by kernel_rfl) ?_
                        intro K hK
                        go_upto_region 27 with (fail)
                        refine named_world (A := fun X => St w lo tb td X T4 T3 [(b20, .cells zc 48), (b19, .cells y4 48)] Na Nb (LXf b11 b12 b13 b14 tb td C6) ya yb pa pb ca cb ∧ Vr X q4 (vn + k + 1) c4 (vsL (x3.vs ++ [(nt, sg)])) ∧ VrL w.heap.size X py (vn + k) cy (vsL x3.vs)) (Q := fun X => Code.wp _ _ _ _ X) ⟨HS5.out.put 1 y4 rfl, HVx5.out.put fB (by decide) _, HVy5.out.writ (fp := [b19]) ((Fr.refl [b19] W2).put _ _ (by simp)) (fun g hg => by rw [List.mem_singleton] at hg; subst hg; exact ⟨HS5.out.low (i := 1) rfl, _, _, fB⟩)⟩ ?_
                        rintro U5 ⟨hS, hVx, hVy⟩
                        have HS3 := Lib.hid hS
                        have HVx := Lib.hid hVx
                        have HVy := Lib.hid hVy
                        clear hS hVx hVy fB tB HS5 HVx5 HVy5 yal yon ysz HYC
                        have fc := HS3.out.own.fr.get fc0 (by simp)
                        have fs := HS3.out.own.fr.get fs0 (by simp)
                        have fn := HS3.out.own.fr.get fn0 (by simp)
                        have fS := HS3.out.lxb 2 rfl
                        have fB := HS3.out.blk 0 rfl
                        have tc := World.at_lt fc
                        have ts := World.at_lt fs
                        have tn := World.at_lt fn
                        have tS := World.at_lt fS
                        have tB := World.at_lt fB
                        refine drawn_begin 20 (fun w' => w'.blk b12 = some (.cells #[.pointer (some ⟨td, 0, none⟩)] 31) ∧ w'.blk b = some (.cells cs TT fr) ∧ w'.blk bs_ = some (.cells css Ts frs) ∧ w'.blk bn = some (.cells csn Tn frn) ∧ w'.blk b20 = some (.cells zc 48)) (by kernel_rfl) ?_
                        refine drawn_reads (fuel := 3) [0, 1, 2, 3, 4, 5, 6, 7, 8, 10, 11, 12, 13, 14, 15, 16, 17, 18] rfl (by kernel_rfl) ⟨fS, fc, fs, fn, fB⟩ ?_
                        repeat (first | (refine rowK_step2 rfl rfl (fun K hK => ?_); go_wp2) | (refine rowK_step rfl (fun K hK => ?_); go_simp; refine hK _ ?_; clear hK K))
                        refine rowK_nil ⟨fun w' e1 => ?_, ?_⟩
                        · first | obtain ⟨e1, e2, e3, e4, e5⟩ := e1 | intro e2 e3 e4 e5
                          clear fS fc fs fn fB
                          repeat (first | (refine rowWp_step2 rfl rfl (fun K hK => ?_); go_wp2) | (refine rowWp_step rfl (fun K hK => ?_); go_simp; refine hK _ ?_; clear hK K))
                          exact rowWp_nil rfl
                        refine drawn_next 9 (fuel := 2) rfl (by kernel_rfl) ?_
                        intro K hK
                        go_wp2_with fail
                        refine (secret_f se0 se1).mono ?_
                        rintro e W1 ⟨rfl, F⟩
                        have F' := fr_drew_any F
                        have HS4 := Lib.hid (HS3.out.fr0 F')
                        have HVx4 := Lib.hid (HVx.out.fr0 F')
                        have HVy4 := Lib.hid (HVy.out.fr0 F')
                        clear fS fc fs fn fB tc ts tn tS tB F F' HS3 HVx HVy
                        have fc := HS4.out.own.fr.get fc0 (by simp)
                        have fs := HS4.out.own.fr.get fs0 (by simp)
                        have fn := HS4.out.own.fr.get fn0 (by simp)
                        have fS := HS4.out.lxb 2 rfl
                        have fB := HS4.out.blk 0 rfl
                        have tc := World.at_lt fc
                        have ts := World.at_lt fs
                        have tn := World.at_lt fn
                        have tS := World.at_lt fS
                        have tB := World.at_lt fB
                        go_wp2_with fail
                        refine ⟨⟨fS, fc, fs, fn, fB⟩, ?_⟩
                        refine drawn_next 19 (fuel := 1) rfl (by kernel_rfl) ?_
                        intro K hK
                        go_wp2_with fail
                        refine (C17.out W1 HS4.out.td HVy4.out.lg).mono ?_
                        rintro e W2 ⟨q5, c5, rfl, hVr, hT, F⟩
                        have HS5 := Lib.hid (HS4.out.doc F hT)
                        have HVx5 := Lib.hid (HVx4.out.frT F (by decide) (by decide))
                        have HVy5 := Lib.hid hVr
                        clear fS fc fs fn fB tc ts tn tS tB F hT hVr HS4 HVx4 HVy4 C17
                        have fB := HS5.out.blk 0 rfl
                        have tB := World.at_lt fB
                        obtain ⟨z4, hz4⟩ : ∃ z4, z4 = oC x3 (.slice q5 (vn + k + 1) c5) := ⟨_, rfl⟩
                        have Z4 : ObF z4 x3 (.slice q5 (vn + k + 1) c5) := by rw [hz4]; exact obF HX3.out
                        obtain ⟨z4sz, -, -, -, -, -, -, -, z4al, z4on⟩ := Z4
                        replace z4on := z4on rfl
                        rw [← hz4]
                        have HZ4 := Lib.hid hz4
                        clear hz4
                        go_wp2_with fail
                        refine ⟨by first | exact ⟨HS5.out.lxb 2 rfl, HS5.out.own.fr.get fc0 (by simp), HS5.out.own.fr.get fs0 (by simp), HS5.out.own.fr.get fn0 (by simp), fB⟩ | (go_simp; exact ⟨HS5.out.lxb 2 rfl, HS5.out.own.fr.get fc0 (by simp), HS5.out.own.fr.get fs0 (by simp), HS5.out.own.fr.get fn0 (by simp)⟩), ?_⟩
                        refine drawn_end rfl (by kernel_rfl) ?_
                        intro K hK
                        have hS6 : Hid (St w lo tb td (W2.put b20 (.cells z4 48)) T4 T4 [(b20, .cells z4 48), (b19, .cells y4 48)] Na Nb (LXf b11 b12 b13 b14 tb td C6) ya yb pa pb ca cb) := Lib.hid (HS5.out.put 0 z4 rfl)
                        have hVx6 : Hid (Vr (W2.put b20 (.cells z4 48)) q4 (vn + k + 1) c4 (vsL (x3.vs ++ [(nt, sg)]))) := Lib.hid (HVx5.out.put fB (by decide) _)
                        have hVy6 : Hid (VrL w.heap.size (W2.put b20 (.cells z4 48)) q5 (vn + k + 1) c5 (vsL (x3.vs ++ [(nt, sg)]))) := Lib.hid (.ofVr (HVy5.out.put fB (by decide) _))
                        have wk : IntKind.i64.wrap ((k : Int) + 1) = ((k + 1 : Nat) : Int) := by rw [IntKind.wrap_i64]; omega
                        clear HS5 HVx5 HVy5
                        go_wp2_with fail
                        go_roundw
                        case rel =>
                          refine ⟨k + 1, T4, { x3 with vs := x3.vs ++ [(nt, sg)] }, q4, q5, c4, c5, y4, z4, by omega, by first | rfl | simp, HY4, HZ4, Lib.hid ?_, Lib.hid ?_, Lib.hid ?_, hS6, hVx6, hVy6⟩
                          · have h := HX3.out
                            exact ⟨h.s0, h.s1, h.n0, h.n1, h.f0, h.f1, h.t0, h.t1, h.kl, h.sl, h.kb, h.sb⟩
                          · intro v hv
                            rcases List.mem_append.1 hv with hv | hv
                            · exact HV3.out v hv
                            · rw [List.mem_singleton] at hv
                              subst hv
                              exact HOKS.out
                          · show (x3.vs ++ [(nt, sg)]).length = vn + (k + 1)
                            rw [List.length_append, HL3.out, List.length_singleton, Nat.add_assoc]
                        case measure => simp [intOf]; omega
                      · have db3 : (decide (k < nn) && decide (k < sn) && decide (k < 4)) = false := by
                          rw [Bool.eq_false_iff]
                          intro h
                          simp only [Bool.and_eq_true, decide_eq_true_eq] at h
                          exact hlt3 ⟨h.1.1, h.1.2, h.2⟩
                        rw [db3]
                        have h19 := HS3.out.blk 1 rfl
                        have h20 := HS3.out.blk 0 rfl
                        have t19 := World.at_lt h19
                        have t20 := World.at_lt h20
                        have c18 : Calls Tryz.prog 18 #[.agg yc, .agg zc] wc fun e w' => e = .returned (.bool true) ∧ Fr [] wc w' := by
                          rw [HYC.out, HZC.out]
                          exact sameobj_t HX3.out HVx.out.lg.lw HVy.out.lg HV3.out HL3.out (by omega)
                        have C18 := Lib.hid c18
                        clear c18
                        go_wp2_with fail
                        refine C18.out.mono ?_
                        rintro e W1 ⟨rfl, F⟩
                        have HS4 := Lib.hid (HS3.out.fr0 F)
                        have hEx : EOk w.heap.size W1 ⟨x3, px, vn + k, cx⟩ := ⟨HX3.out, .ofVr (HVx.out.fr0 F), HV3.out, HL3.out, by show vn + k ≤ 1000; omega⟩
                        have hEy : EOk w.heap.size W1 ⟨x3, py, vn + k, cy⟩ := ⟨HX3.out, HVy.out.fr0 F, HV3.out, HL3.out, by show vn + k ≤ 1000; omega⟩
                        have hP := HS4.out.p
                        have HP := Lib.hid hP
                        have HEx := Lib.hid hEx
                        have HEy := Lib.hid hEy
                        clear hP hEx hEy
                        clear h19 h20 t19 t20 F C18 HS3 HVx HVy
                        have h19 := HP.out.blk 1 rfl
                        have h20 := HP.out.blk 0 rfl
                        have t19 := World.at_lt h19
                        have t20 := World.at_lt h20
                        go_upto_region 30 with (fail)
                        refine drawn_begin 8 (fun w' => w'.blk b19 = some (.cells yc 48) ∧ w'.blk b20 = some (.cells zc 48)) (by kernel_rfl) ?_
                        refine drawn_reads (fuel := 6) [0, 1, 4, 5] rfl (by kernel_rfl) ⟨h19, h20⟩ ?_
                        repeat (first | (refine rowK_step2 rfl rfl (fun K hK => ?_); go_wp2) | (refine rowK_step rfl (fun K hK => ?_); go_simp; refine hK _ ?_; clear hK K))
                        refine rowK_nil ⟨fun w' e1 => ?_, ?_⟩
                        · first | obtain ⟨e1, e2⟩ := e1 | intro e2
                          clear h19 h20
                          repeat (first | (refine rowWp_step2 rfl rfl (fun K hK => ?_); go_wp2) | (refine rowWp_step rfl (fun K hK => ?_); go_simp; refine hK _ ?_; clear hK K))
                          exact rowWp_nil rfl
                        have FD : Fr [] W1 W1.drew := (Fr.refl [] W1).drew
                        refine named_world (A := fun X => StP w lo tb td X T3 T3 ([(b20, .cells zc 48), (b19, .cells yc 48)]) Na Nb (LXf b11 b12 b13 b14 tb td C6) ya yb pa pb ca cb ∧ EOk w.heap.size X ⟨x3, px, vn + k, cx⟩ ∧ EOk w.heap.size X ⟨x3, py, vn + k, cy⟩) (Q := fun X => Go.Dr.wpAnyS Tryz.prog .any _ _ _ _ _ _ _ X) ⟨HP.out.fr0 FD, HEx.out.fr0 FD, HEy.out.fr0 FD⟩ ?_
                        clear FD h19 h20 t19 t20 HP HEx HEy
                        rintro Z0 ⟨hP, hEx, hEy⟩
                        have HP := Lib.hid hP
                        have HEx := Lib.hid hEx
                        have HEy := Lib.hid hEy
                        clear hP hEx hEy
                        have h19 := HP.out.blk 1 rfl
                        have h20 := HP.out.blk 0 rfl
                        have t19 := World.at_lt h19
                        have t20 := World.at_lt h20
                        refine drawn_next2 2 6 (fuel := 5) rfl rfl (by kernel_rfl) ?_ ?_
                        · intro K hK
                          go_wp2_with fail
                          refine ⟨by go_simp, ?_⟩
                          have FA : Fr [] Z0 (Z0.alloc (.cells yc 48)) := (Fr.refl [] Z0).alloc _
                          refine named_world (A := fun X => StP w lo tb td X T3 T3 ([(Z0.heap.size, .cells yc 48), (b20, .cells zc 48), (b19, .cells yc 48)]) Na Nb (LXf b11 b12 b13 b14 tb td C6) ya yb pa pb ca cb ∧ EOk w.heap.size X ⟨x3, px, vn + k, cx⟩ ∧ EOk w.heap.size X ⟨x3, py, vn + k, cy⟩) (Q := fun X => Go.Dr.wpAnyS Tryz.prog .any _ _ _ _ _ _ _ X) ⟨HP.out.room yc, HEx.out.fr0 FA, HEy.out.fr0 FA⟩ ?_
                          clear FA h19 h20 t19 t20 HP HEx HEy
                          generalize Z0.heap.size = bA
                          rintro Z1 ⟨hP, hEx, hEy⟩
                          have HP := Lib.hid hP
                          have HEx := Lib.hid hEx
                          have HEy := Lib.hid hEy
                          clear hP hEx hEy
                          have h19 := HP.out.blk 2 rfl
                          have h20 := HP.out.blk 1 rfl
                          have t19 := World.at_lt h19
                          have t20 := World.at_lt h20
                          refine drawn_next2 3 6 (fuel := 4) rfl rfl (by kernel_rfl) ?_ ?_
                          · have fA := HP.out.blk 0 rfl
                            have hB0 := HP.out.rowA
                            rw [HYA.out] at hB0
                            have HB0 := Lib.hid hB0
                            clear hB0
                            intro K hK
                            go_wp2_with (refine wpList_app43 rfl _ _ rfl rfl HB0.out rfl (Sv.ofOne fA ysz) (List.all_eq_true.1 yon) (by omega) ?_)
                            intro q2 c2 Z2 hB hF
                            obtain ⟨⟨N2, hP⟩, hkeep⟩ := HP.out.appA (y := ⟨x3, px, vn + k, cx⟩) HEx.out (by rw [HYA.out, show (oeC ⟨x3, px, vn + k, cx⟩) = yc from HYC.out.symm]; exact hB) hF
                            have hEx := hkeep _ HEx.out
                            have hEy := hkeep _ HEy.out
                            clear fA hB hF hkeep HB0 h19 h20 t19 t20 HP HEx HEy
                            have HP := Lib.hid hP
                            have HEx := Lib.hid hEx
                            have HEy := Lib.hid hEy
                            clear hP hEx hEy
                            have h19 := HP.out.blk 2 rfl
                            have h20 := HP.out.blk 1 rfl
                            have t19 := World.at_lt h19
                            have t20 := World.at_lt h20
                            go_wp2_with fail
                            refine ⟨by go_simp, ?_⟩
                            refine drawn_next 6 (fuel := 3) rfl (by kernel_rfl) ?_
                            intro K hK
                            go_wp2_with fail
                            refine ⟨by go_simp, ?_⟩
                            have FA : Fr [] Z2 (Z2.alloc (.cells zc 48)) := (Fr.refl [] Z2).alloc _
                            refine named_world (A := fun X => StP w lo tb td X T3 T3 ([(Z2.heap.size, .cells zc 48), (bA, .cells yc 48), (b20, .cells zc 48), (b19, .cells yc 48)]) N2 Nb (LXf b11 b12 b13 b14 tb td C6) (ya ++ [⟨x3, px, vn + k, cx⟩]) yb q2 pb c2 cb ∧ EOk w.heap.size X ⟨x3, px, vn + k, cx⟩ ∧ EOk w.heap.size X ⟨x3, py, vn + k, cy⟩) (Q := fun X => Go.Dr.wpAnyS Tryz.prog .any _ _ _ _ _ _ _ X) ⟨HP.out.room zc, HEx.out.fr0 FA, HEy.out.fr0 FA⟩ ?_
                            clear FA h19 h20 t19 t20 HP HEx HEy
                            generalize Z2.heap.size = bB
                            rintro Z3 ⟨hP, hEx, hEy⟩
                            have HP := Lib.hid hP
                            have HEx := Lib.hid hEx
                            have HEy := Lib.hid hEy
                            clear hP hEx hEy
                            have h19 := HP.out.blk 3 rfl
                            have h20 := HP.out.blk 2 rfl
                            have t19 := World.at_lt h19
                            have t20 := World.at_lt h20
                            refine drawn_next 7 (fuel := 2) rfl (by kernel_rfl) ?_
                            have fA := HP.out.blk 0 rfl
                            have hB0 := HP.out.rowB
                            rw [HYB.out] at hB0
                            have HB0 := Lib.hid hB0
                            clear hB0
                            intro K hK
                            go_wp2_with (refine wpList_app43 rfl _ _ rfl rfl HB0.out rfl (Sv.ofOne fA zsz) (List.all_eq_true.1 zon) (by omega) ?_)
                            intro q4 c4 Z4 hB hF
                            obtain ⟨⟨N4, hP⟩, hkeep⟩ := HP.out.appB (y := ⟨x3, py, vn + k, cy⟩) HEy.out (by rw [HYB.out, show (oeC ⟨x3, py, vn + k, cy⟩) = zc from HZC.out.symm]; exact hB) hF
                            have hEx := hkeep _ HEx.out
                            have hEy := hkeep _ HEy.out
                            clear fA hB hF hkeep HB0 h19 h20 t19 t20 HP HEx HEy
                            have HP := Lib.hid hP
                            have HEx := Lib.hid hEx
                            have HEy := Lib.hid hEy
                            clear hP hEx hEy
                            have h19 := HP.out.blk 3 rfl
                            have h20 := HP.out.blk 2 rfl
                            have t19 := World.at_lt h19
                            have t20 := World.at_lt h20
                            go_wp2_with fail
                            refine ⟨by go_simp, ?_⟩
                            refine drawn_end rfl (by kernel_rfl) ?_
                            intro K hK
                            clear h19 h20 t19 t20
                            have wi : IntKind.i64.wrap ((i : Int) + 1) = ((i + 1 : Nat) : Int) := by rw [IntKind.wrap_i64]; omega
                            go_wp2_with fail
                            go_roundw
                            case rel => exact ⟨i + 1, T3, (ya ++ [⟨x3, px, vn + k, cx⟩]), (yb ++ [⟨x3, py, vn + k, cy⟩]), q2, q4, c2, c4, by omega, by omega, by first | rfl | simp, rfl, rfl, by rw [List.length_append, HYA.out, List.length_singleton], by rw [List.length_append, HYB.out, List.length_singleton], Lib.hid ⟨_, _, HP.out.fin HS4.out (by rw [List.map_append, List.map_append, HS4.out.sm]; rfl)⟩⟩
                            case measure => simp [intOf]; omega
                          · intro K hK
                            go_wp2_with fail
                            refine ⟨by go_simp, ?_⟩
                            have FA : Fr [] Z1 (Z1.alloc (.cells zc 48)) := (Fr.refl [] Z1).alloc _
                            refine named_world (A := fun X => StP w lo tb td X T3 T3 ([(Z1.heap.size, .cells zc 48), (bA, .cells yc 48), (b20, .cells zc 48), (b19, .cells yc 48)]) Na Nb (LXf b11 b12 b13 b14 tb td C6) ya yb pa pb ca cb ∧ EOk w.heap.size X ⟨x3, px, vn + k, cx⟩ ∧ EOk w.heap.size X ⟨x3, py, vn + k, cy⟩) (Q := fun X => Go.Dr.wpAnyS Tryz.prog .any _ _ _ _ _ _ _ X) ⟨HP.out.room zc, HEx.out.fr0 FA, HEy.out.fr0 FA⟩ ?_
                            clear FA h19 h20 t19 t20 HP HEx HEy
                            generalize Z1.heap.size = bB
                            rintro Z5 ⟨hP, hEx, hEy⟩
                            have HP := Lib.hid hP
                            have HEx := Lib.hid hEx
                            have HEy := Lib.hid hEy
                            clear hP hEx hEy
                            have h19 := HP.out.blk 3 rfl
                            have h20 := HP.out.blk 2 rfl
                            have t19 := World.at_lt h19
                            have t20 := World.at_lt h20
                            refine drawn_next 3 (fuel := 3) rfl (by kernel_rfl) ?_
                            have fA := HP.out.blk 1 rfl
                            have hB0 := HP.out.rowA
                            rw [HYA.out] at hB0
                            have HB0 := Lib.hid hB0
                            clear hB0
                            intro K hK
                            go_wp2_with (refine wpList_app43 rfl _ _ rfl rfl HB0.out rfl (Sv.ofOne fA ysz) (List.all_eq_true.1 yon) (by omega) ?_)
                            intro q6 c6 Z6 hB hF
                            obtain ⟨⟨N6, hP⟩, hkeep⟩ := HP.out.appA (y := ⟨x3, px, vn + k, cx⟩) HEx.out (by rw [HYA.out, show (oeC ⟨x3, px, vn + k, cx⟩) = yc from HYC.out.symm]; exact hB) hF
                            have hEx := hkeep _ HEx.out
                            have hEy := hkeep _ HEy.out
                            clear fA hB hF hkeep HB0 h19 h20 t19 t20 HP HEx HEy
                            have HP := Lib.hid hP
                            have HEx := Lib.hid hEx
                            have HEy := Lib.hid hEy
                            clear hP hEx hEy
                            have h19 := HP.out.blk 3 rfl
                            have h20 := HP.out.blk 2 rfl
                            have t19 := World.at_lt h19
                            have t20 := World.at_lt h20
                            go_wp2_with fail
                            refine ⟨by go_simp, ?_⟩
                            refine drawn_next 7 (fuel := 2) rfl (by kernel_rfl) ?_
                            have fA := HP.out.blk 0 rfl
                            have hB0 := HP.out.rowB
                            rw [HYB.out] at hB0
                            have HB0 := Lib.hid hB0
                            clear hB0
                            intro K hK
                            go_wp2_with (refine wpList_app43 rfl _ _ rfl rfl HB0.out rfl (Sv.ofOne fA zsz) (List.all_eq_true.1 zon) (by omega) ?_)
                            intro q7 c7 Z7 hB hF
                            obtain ⟨⟨N7, hP⟩, hkeep⟩ := HP.out.appB (y := ⟨x3, py, vn + k, cy⟩) HEy.out (by rw [HYB.out, show (oeC ⟨x3, py, vn + k, cy⟩) = zc from HZC.out.symm]; exact hB) hF
                            have hEx := hkeep _ HEx.out
                            have hEy := hkeep _ HEy.out
                            clear fA hB hF hkeep HB0 h19 h20 t19 t20 HP HEx HEy
                            have HP := Lib.hid hP
                            have HEx := Lib.hid hEx
                            have HEy := Lib.hid hEy
                            clear hP hEx hEy
                            have h19 := HP.out.blk 3 rfl
                            have h20 := HP.out.blk 2 rfl
                            have t19 := World.at_lt h19
                            have t20 := World.at_lt h20
                            go_wp2_with fail
                            refine ⟨by go_simp, ?_⟩
                            refine drawn_end rfl (by kernel_rfl) ?_
                            intro K hK
                            clear h19 h20 t19 t20
                            have wi : IntKind.i64.wrap ((i : Int) + 1) = ((i + 1 : Nat) : Int) := by rw [IntKind.wrap_i64]; omega
                            go_wp2_with fail
                            go_roundw
                            case rel => exact ⟨i + 1, T3, (ya ++ [⟨x3, px, vn + k, cx⟩]), (yb ++ [⟨x3, py, vn + k, cy⟩]), q6, q7, c6, c7, by omega, by omega, by first | rfl | simp, rfl, rfl, by rw [List.length_append, HYA.out, List.length_singleton], by rw [List.length_append, HYB.out, List.length_singleton], Lib.hid ⟨_, _, HP.out.fin HS4.out (by rw [List.map_append, List.map_append, HS4.out.sm]; rfl)⟩⟩
                            case measure => simp [intOf]; omega
                        · intro K hK
                          go_wp2_with fail
                          refine ⟨by go_simp, ?_⟩
                          have FA : Fr [] Z0 (Z0.alloc (.cells zc 48)) := (Fr.refl [] Z0).alloc _
                          refine named_world (A := fun X => StP w lo tb td X T3 T3 ([(Z0.heap.size, .cells zc 48), (b20, .cells zc 48), (b19, .cells yc 48)]) Na Nb (LXf b11 b12 b13 b14 tb td C6) ya yb pa pb ca cb ∧ EOk w.heap.size X ⟨x3, px, vn + k, cx⟩ ∧ EOk w.heap.size X ⟨x3, py, vn + k, cy⟩) (Q := fun X => Go.Dr.wpAnyS Tryz.prog .any _ _ _ _ _ _ _ X) ⟨HP.out.room zc, HEx.out.fr0 FA, HEy.out.fr0 FA⟩ ?_
                          clear FA h19 h20 t19 t20 HP HEx HEy
                          generalize Z0.heap.size = bB
                          rintro Z8 ⟨hP, hEx, hEy⟩
                          have HP := Lib.hid hP
                          have HEx := Lib.hid hEx
                          have HEy := Lib.hid hEy
                          clear hP hEx hEy
                          have h19 := HP.out.blk 2 rfl
                          have h20 := HP.out.blk 1 rfl
                          have t19 := World.at_lt h19
                          have t20 := World.at_lt h20
                          refine drawn_next 2 (fuel := 4) rfl (by kernel_rfl) ?_
                          intro K hK
                          go_wp2_with fail
                          refine ⟨by go_simp, ?_⟩
                          have FA : Fr [] Z8 (Z8.alloc (.cells yc 48)) := (Fr.refl [] Z8).alloc _
                          refine named_world (A := fun X => StP w lo tb td X T3 T3 ([(Z8.heap.size, .cells yc 48), (bB, .cells zc 48), (b20, .cells zc 48), (b19, .cells yc 48)]) Na Nb (LXf b11 b12 b13 b14 tb td C6) ya yb pa pb ca cb ∧ EOk w.heap.size X ⟨x3, px, vn + k, cx⟩ ∧ EOk w.heap.size X ⟨x3, py, vn + k, cy⟩) (Q := fun X => Go.Dr.wpAnyS Tryz.prog .any _ _ _ _ _ _ _ X) ⟨HP.out.room yc, HEx.out.fr0 FA, HEy.out.fr0 FA⟩ ?_
                          clear FA h19 h20 t19 t20 HP HEx HEy
                          generalize Z8.heap.size = bA
                          rintro Z9 ⟨hP, hEx, hEy⟩
                          have HP := Lib.hid hP
                          have HEx := Lib.hid hEx
                          have HEy := Lib.hid hEy
                          clear hP hEx hEy
                          have h19 := HP.out.blk 3 rfl
                          have h20 := HP.out.blk 2 rfl
                          have t19 := World.at_lt h19
                          have t20 := World.at_lt h20
                          refine drawn_next 3 (fuel := 3) rfl (by kernel_rfl) ?_
                          have fA := HP.out.blk 0 rfl
                          have hB0 := HP.out.rowA
                          rw [HYA.out] at hB0
                          have HB0 := Lib.hid hB0
                          clear hB0
                          intro K hK
                          go_wp2_with (refine wpList_app43 rfl _ _ rfl rfl HB0.out rfl (Sv.ofOne fA ysz) (List.all_eq_true.1 yon) (by omega) ?_)
                          intro q10 c10 Z10 hB hF
                          obtain ⟨⟨N10, hP⟩, hkeep⟩ := HP.out.appA (y := ⟨x3, px, vn + k, cx⟩) HEx.out (by rw [HYA.out, show (oeC ⟨x3, px, vn + k, cx⟩) = yc from HYC.out.symm]; exact hB) hF
                          have hEx := hkeep _ HEx.out
                          have hEy := hkeep _ HEy.out
                          clear fA hB hF hkeep HB0 h19 h20 t19 t20 HP HEx HEy
                          have HP := Lib.hid hP
                          have HEx := Lib.hid hEx
                          have HEy := Lib.hid hEy
                          clear hP hEx hEy
                          have h19 := HP.out.blk 3 rfl
                          have h20 := HP.out.blk 2 rfl
                          have t19 := World.at_lt h19
                          have t20 := World.at_lt h20
                          go_wp2_with fail
                          refine ⟨by go_simp, ?_⟩
                          refine drawn_next 7 (fuel := 2) rfl (by kernel_rfl) ?_
                          have fA := HP.out.blk 1 rfl
                          have hB0 := HP.out.rowB
                          rw [HYB.out] at hB0
                          have HB0 := Lib.hid hB0
                          clear hB0
                          intro K hK
                          go_wp2_with (refine wpList_app43 rfl _ _ rfl rfl HB0.out rfl (Sv.ofOne fA zsz) (List.all_eq_true.1 zon) (by omega) ?_)
                          intro q11 c11 Z11 hB hF
                          obtain ⟨⟨N11, hP⟩, hkeep⟩ := HP.out.appB (y := ⟨x3, py, vn + k, cy⟩) HEy.out (by rw [HYB.out, show (oeC ⟨x3, py, vn + k, cy⟩) = zc from HZC.out.symm]; exact hB) hF
                          have hEx := hkeep _ HEx.out
                          have hEy := hkeep _ HEy.out
                          clear fA hB hF hkeep HB0 h19 h20 t19 t20 HP HEx HEy
                          have HP := Lib.hid hP
                          have HEx := Lib.hid hEx
                          have HEy := Lib.hid hEy
                          clear hP hEx hEy
                          have h19 := HP.out.blk 3 rfl
                          have h20 := HP.out.blk 2 rfl
                          have t19 := World.at_lt h19
                          have t20 := World.at_lt h20
                          go_wp2_with fail
                          refine ⟨by go_simp, ?_⟩
                          refine drawn_end rfl (by kernel_rfl) ?_
                          intro K hK
                          clear h19 h20 t19 t20
                          have wi : IntKind.i64.wrap ((i : Int) + 1) = ((i + 1 : Nat) : Int) := by rw [IntKind.wrap_i64]; omega
                          go_wp2_with fail
                          go_roundw
                          case rel => exact ⟨i + 1, T3, (ya ++ [⟨x3, px, vn + k, cx⟩]), (yb ++ [⟨x3, py, vn + k, cy⟩]), q10, q11, c10, c11, by omega, by omega, by first | rfl | simp, rfl, rfl, by rw [List.length_append, HYA.out, List.length_singleton], by rw [List.length_append, HYB.out, List.length_singleton], Lib.hid ⟨_, _, HP.out.fin HS4.out (by rw [List.map_append, List.map_append, HS4.out.sm]; rfl)⟩⟩
                          case measure => simp [intOf]; omega
          · have db : (decide (i < n) && decide (i < 6)) = false := by
              by_cases h1 : i < n
              · have h2 : ¬ i < 6 := fun h => hlt ⟨h1, h⟩
                simp [h2]
              · simp [h1]
            rw [db]
            obtain ⟨Na, Nb, hSt⟩ := hS.out
            have HST := Lib.hid hSt
            clear hSt hS
            obtain ⟨R1, R2, R3, hR⟩ : ∃ R1 R2 R3, checkF T (firstC C6) (highC C6) (needC C6) (sv : Int) (ya.map Oe.x) (nw : Int) = (R1, R2, R3) := ⟨_, _, _, rfl⟩
            have hR2 : checkF T (firstC C6) (highC C6) (needC C6) (sv : Int) (yb.map Oe.x) (nw : Int) = (R1, R2, R3) := by rw [← HST.out.sm]; exact hR
            have lR : R1.length = 32 := by
              have := checkF_len (T := T) (C := C6) (need := needC C6) (hi := highC C6) (xs := ya.map Oe.x) (sv := sv) (now := (nw : Int)) lC6 (fun x hx => by
                obtain ⟨y, hy, rfl⟩ := List.mem_map.1 hx
                exact (HST.out.ea y hy).ok.kl)
              rw [hR] at this
              exact this
            have c19 : ∀ W : World, Fr [] wc W → Calls Tryz.prog 19 #[SU tb, .agg (ints .u8 C6), .int .u8 (sv : Int), .slice pa i ca, .int .u32 (nw : Int)] W fun e w' => e = .returned (.tuple #[.agg (ints .u8 R1), .int .u8 R2, .int .i64 R3]) ∧ Fr [] W w' := fun W F => by
              have h := HST.out.fr0 F
              have SA := h.p.rowA.sv
              rw [HYA.out] at SA
              have := check_v h.tc lC6 bC6.out hsv hnw SA HYA.out (fun y hy => (h.ea y hy).oe) (by omega)
              rw [hR] at this
              exact this
            have c20 : ∀ W : World, Fr [] wc W → Calls Tryz.prog 20 #[SU td, .agg (ints .u8 C6), .int .u8 (sv : Int), .slice pb i cb, .int .u32 (nw : Int)] W fun e w' => e = .returned (.tuple #[.agg (ints .u8 R1), .int .u8 R2, .int .i64 R3]) ∧ Fr [] W w' := fun W F => by
              have h := HST.out.fr0 F
              have SB := h.p.rowB.sv
              rw [HYB.out] at SB
              have := dcheck_v h.td lC6 bC6.out hsv hnw SB HYB.out (fun y hy => (h.eb y hy).oe) (by omega)
              rw [hR2] at this
              exact this
            have C19 := Lib.hid c19
            have C20 := Lib.hid c20
            have sR : (ints .u8 R1).size = 32 := by rw [size_ints, lR]
            have y1 : lay (zs 32) 0 R1 = R1 := lay_full lR
            have tR : List.take 32 R1 = R1 := List.take_of_length_le (by omega)
            have sC6 : (ints .u8 C6).size = 133 := by rw [size_ints, lC6]
            have f11 := HST.out.lxb 3 rfl
            have f13 := HST.out.lxb 1 rfl
            have t11 := World.at_lt f11
            have t13 := World.at_lt f13
            clear hR hR2 c19 c20
            go_wp2_with fail
            refine (C19.out _ (Fr.refl [] _)).mono ?_
            rintro e W1 ⟨rfl, F1⟩
            clear f11 f13 t11 t13
            go_upto_region 32 with (fail)
            refine named_world (A := fun X => Fr [] wc X ∧ X.blk W1.heap.size = some (.cells (ints .u8 R1) 34)) (Q := fun X => Code.wp _ _ _ _ X) ⟨F1.alloc _, World.at_alloc_new _ _ _ rfl⟩ ?_
            rintro U8 ⟨F8, g22⟩
            generalize W1.heap.size = b22 at g22 ⊢
            have HF8 := Lib.hid F8
            have HG := Lib.hid g22
            have f12 := (HST.out.fr0 F8).lxb 2 rfl
            have f14 := (HST.out.fr0 F8).lxb 0 rfl
            have t12 := World.at_lt f12
            have t14 := World.at_lt f14
            clear F8 F1 g22
            go_wp2_with fail
            refine (C20.out _ HF8.out).mono ?_
            rintro e W2 ⟨rfl, F2⟩
            have h22 := F2.get HG.out (by simp)
            have t22 := World.at_lt h22
            have hF := Lib.hid ((HST.out.own.fr.trans HF8.out).trans F2)
            clear F2 f12 f14 t12 t14
            go_wp2_with fail
            exact bodyPost_ret (results_tmp rfl _ _ _) rfl ⟨rfl, hF.out.alloc _⟩
end
end Go.Proofs.YtbhnfohoclcjdaaGreat
