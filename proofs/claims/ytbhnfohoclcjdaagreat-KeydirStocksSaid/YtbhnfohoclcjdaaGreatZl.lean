/- Joined: DcN. -/
import Derived.Test.YtbhnfohoclcjdaaGreatZk
import Derived.Test.YtbhnfohoclcjdaaGreatZg
set_option linter.unusedVariables false
set_option linter.unusedSimpArgs false
namespace Go.Proofs.YtbhnfohoclcjdaaGreat
open Go.RowKit Go.Dr Go.Kd
/-- Both tables with the same terms. -/
structure TwoT (lo tb td : Nat) (X : World) (T : List Tm) : Prop where
  code : TabP lo tb X T
  doc : DTabP lo td X T
section
variable {lo tb td : Nat} {w w' : World} {T : List Tm}
theorem TwoT.fr0 (h : TwoT lo tb td w T) (F : Fr [] w w') : TwoT lo tb td w' T := ⟨h.code.fr0 F, h.doc.fr0 F⟩
theorem TwoT.put (h : TwoT lo tb td w T) {b : Nat} {cs : Array Value} {T' : TypeId} {fr : Nat × Nat} (hb : w.blk b = some (.cells cs T' fr)) (h1 : (T' ≠ 5 ∧ T' ≠ 49 ∧ T' ≠ 138 ∧ T' ≠ 200) ∧ T' ≠ 5 ∧ T' ≠ 49 ∧ T' ≠ 98 ∧ T' ≠ 155) (o : Obj) : TwoT lo tb td (w.put b o) T :=
  ⟨h.code.put hb h1.1 o, h.doc.put hb h1.2 o⟩
theorem TwoT.grown {w0 : World} {L : List (Nat × Obj)} {e sz : Nat} {p : Option Addr} {n c : Nat} {vs : List Value} (h : TwoT lo tb td w T) (B : BldV w0 L e sz w p n c vs) (F : Fr (p.map (·.block)).toList w w') (he : (e ≠ 5 ∧ e ≠ 49 ∧ e ≠ 138 ∧ e ≠ 200) ∧ e ≠ 5 ∧ e ≠ 49 ∧ e ≠ 98 ∧ e ≠ 155) : TwoT lo tb td w' T :=
  ⟨Tab.grown h.code B F he.1, h.doc.grown B F he.2⟩
theorem MadeR.same {t : Tm} {a b : List Int} {U V : List Tm} (h : MadeR T t a U) (k : MadeR T t b V) : a = b ∧ U = V := ⟨h.1.symm.trans k.1, h.2.symm.trans k.2⟩
theorem NewR.same {a b c x y z x' y' z' : List Int} {U V : List Tm} (h : NewR T a b c x y z U) (k : NewR T a b c x' y' z' V) : x = x' ∧ y = y' ∧ z = z' ∧ U = V := by
  obtain ⟨T1, T2, h1, h2, h3⟩ := h
  obtain ⟨S1, S2, k1, k2, k3⟩ := k
  obtain ⟨rfl, rfl⟩ := h1.same k1
  obtain ⟨rfl, rfl⟩ := h2.same k2
  obtain ⟨rfl, rfl⟩ := h3.same k3
  exact ⟨rfl, rfl, rfl, rfl⟩
theorem own_perm {α : Type} (x y : α) (A B R : List α) : (x :: (A ++ (y :: (B ++ R)))).Perm (A ++ (B ++ (x :: y :: R))) := by
  have h1 : (A ++ (y :: (B ++ R))).Perm (A ++ (B ++ (y :: R))) := (List.perm_middle.symm).append_left A
  have h2 : (x :: (A ++ (B ++ (y :: R)))).Perm (A ++ (B ++ (x :: y :: R))) := by
    have h3 := (List.perm_middle (l₁ := A ++ B) (l₂ := y :: R) (a := x)).symm
    simpa [List.append_assoc] using h3
  exact (h1.cons x).trans h2
theorem own_two {w0 w : World} {A B R : List (Nat × Obj)} {b c : Nat} {o o2 : Obj} (h : OwB w0 (A ++ (B ++ ((b, o) :: (c, o2) :: R))) w) (n1 n2 : Obj) : OwB w0 (A ++ (B ++ ((b, n1) :: (c, n2) :: R))) ((w.put c n2).put b n1) := by
  have h1 : OwB w0 ((A ++ (B ++ [(b, o)])) ++ (c, o2) :: R) w := by simpa [List.append_assoc] using h
  have h2 := h1.set_mid n2
  have h3 : OwB w0 ((A ++ B) ++ (b, o) :: ((c, n2) :: R)) (w.put c n2) := by simpa [List.append_assoc] using h2
  simpa [List.append_assoc] using h3.set_mid n1
theorem bnC_inj {x y : Bn} (hx : BnOk x) (hy : BnOk y) (h : bnC x = bnC y) : x = y := by
  have inj : ∀ a b : List Int, ints .u8 a = ints .u8 b → a = b := fun a b e => by
    have e2 : a.map (Value.int .u8) = b.map (Value.int .u8) := congrArg Array.toList e
    exact (List.map_inj_right (fun u v e => by simpa using e)).1 e2
  have g0 := cBundle_get_device (.int .u8 x.device) x.agree x.signer (.int .u16 x.id) x.once x.sig hx.al hx.sl hx.ol hx.gl
  have g1 := cBundle_ext_agree (.int .u8 x.device) x.agree x.signer (.int .u16 x.id) x.once x.sig hx.al hx.sl hx.ol hx.gl
  have g2 := cBundle_ext_signer (.int .u8 x.device) x.agree x.signer (.int .u16 x.id) x.once x.sig hx.al hx.sl hx.ol hx.gl
  have g3 := cBundle_get_id (.int .u8 x.device) x.agree x.signer (.int .u16 x.id) x.once x.sig hx.al hx.sl hx.ol hx.gl
  have g4 := cBundle_ext_once (.int .u8 x.device) x.agree x.signer (.int .u16 x.id) x.once x.sig hx.al hx.sl hx.ol hx.gl
  have g5 := cBundle_ext_sig (.int .u8 x.device) x.agree x.signer (.int .u16 x.id) x.once x.sig hx.al hx.sl hx.ol hx.gl
  change (bnC x)[0]? = _ at g0
  change (bnC x).extract _ _ = _ at g1
  change (bnC x).extract _ _ = _ at g2
  change (bnC x)[65]? = _ at g3
  change (bnC x).extract _ _ = _ at g4
  change (bnC x).extract _ _ = _ at g5
  rw [h, cBundle_get_device _ _ _ _ _ _ hy.al hy.sl hy.ol hy.gl] at g0
  rw [h, cBundle_ext_agree _ _ _ _ _ _ hy.al hy.sl hy.ol hy.gl] at g1
  rw [h, cBundle_ext_signer _ _ _ _ _ _ hy.al hy.sl hy.ol hy.gl] at g2
  rw [h, cBundle_get_id _ _ _ _ _ _ hy.al hy.sl hy.ol hy.gl] at g3
  rw [h, cBundle_ext_once _ _ _ _ _ _ hy.al hy.sl hy.ol hy.gl] at g4
  rw [h, cBundle_ext_sig _ _ _ _ _ _ hy.al hy.sl hy.ol hy.gl] at g5
  obtain ⟨xd, xa, xg, xi, xo, xs⟩ := x
  obtain ⟨yd, ya, yg, yi, yo, ys⟩ := y
  simp only [Option.some.injEq, Value.int.injEq, true_and] at g0 g3
  have e1 := inj _ _ g1
  have e2 := inj _ _ g2
  have e4 := inj _ _ g4
  have e5 := inj _ _ g5
  simp only at g0 g3 e1 e2 e4 e5
  rw [g0, e1, e2, g3, e4, e5]
theorem zero65 : Tryz.zeroCells65 = bnC ⟨0, zs 32, zs 32, 0, zs 32, zs 64⟩ := by kernel_rfl
theorem okZ : BnOk ⟨0, zs 32, zs 32, 0, zs 32, zs 64⟩ := ⟨by decide, by decide, by decide, by decide, rfl, rfl, rfl, rfl, byt_zs 32, byt_zs 32, byt_zs 32, byt_zs 64⟩
theorem ClaimR.bn {hs : Bool} {f : Bn} {ls : List Bn} {u : Array Value} {a : Bool} {l : List Bn} (h : ClaimR hs f ls u a l) (hf : BnOk f) (hl : ∀ x ∈ ls, BnOk x) : ∃ y, BnOk y ∧ u = bnC y := by
  rcases h with ⟨x, h1, h2, h3⟩ | ⟨h1, h2, h3, h4⟩
  · exact ⟨x, hl x (by rw [h1]; simp), h3⟩
  · by_cases e : hs = true
    · rw [if_pos e] at h4; exact ⟨f, hf, h4⟩
    · rw [if_neg e, zero65] at h4; exact ⟨_, okZ, h4⟩
theorem ClaimR.left {hs : Bool} {f : Bn} {ls : List Bn} {u : Array Value} {a : Bool} {l : List Bn} (h : ClaimR hs f ls u a l) : (∀ x ∈ l, x ∈ ls) ∧ l.length ≤ ls.length := by
  rcases h with ⟨x, h1, h2, h3⟩ | ⟨h1, h2, h3, h4⟩
  · rw [h1]; exact ⟨fun y hy => by simp [hy], by simp⟩
  · rw [h1, h2]; exact ⟨by simp, by simp⟩
/-- What reads as it does as long as the older world, and some blocks, stand. -/
def KeptA (w0 : World) (p : Option Addr) (n c : Nat) (vs : List Value) (M : List (Nat × Obj)) : Prop := (∀ x ∈ M, ∃ cs fr, x.2 = .cells cs 65 fr) ∧ ∀ w', Fr [] w0 w' → Has M w' → Lf w' p n c vs
theorem Kept.any {w0 : World} {p : Option Addr} {n c : Nat} {vs : List Value} {M : List (Nat × Obj)} (h : Kept p n c vs M) : KeptA w0 p n c vs M := ⟨h.1, fun w' _ hM => h.2 w' hM⟩
/-- What stands between the claims. -/
def ClaimS (w : World) (b21 b23 : Nat) (hh : Bool) (ff : Bn) (la : Int) (R : List (Nat × Obj)) (X : World) : Prop :=
  ∃ ls p1 c1 p2 c2 M1 M2, OwB w (M2 ++ (M1 ++ ((b23, .cells (shC hh ff p2 ls.length c2 la) 68) :: (b21, .cells (shC hh ff p1 ls.length c1 la) 68) :: R))) X ∧ KeptA w p1 ls.length c1 (bnsL ls) M1 ∧ KeptA w p2 ls.length c2 (bnsL ls) M2 ∧ (∀ x ∈ ls, BnOk x) ∧ ls.length ≤ 100
theorem Lf.keptA {w0 : World} {p : Option Addr} {n c : Nat} {vs : List Value} (h : Lf w0 p n c vs) : KeptA w0 p n c vs [] := ⟨by simp, fun w' F _ => h.fr0 F⟩
end
section
variable {w : World}
set_option maxRecDepth 100000 in
set_option maxHeartbeats 8000000 in
theorem keydirStocks_walk {hs : Bool} {f : Bn} {p q : Option Addr} {m n cap c dv gv cv : Nat} {last : Int} {ls bs : List Bn} (hf : BnOk f) (hl0 : 0 ≤ last) (hl1 : last < 65536) (SL : Lf w p m cap (bnsL ls)) (okl : ∀ x ∈ ls, BnOk x) (ml : ls.length = m)
    (SB : Lf w q n c (bnsL bs)) (okb : ∀ x ∈ bs, BnOk x) (bl : bs.length = n) (hdv : dv < 256) (hgv : gv < 256) (hcv : cv < 256) :
    Calls Tryz.prog 4 #[.agg (shC hs f p m cap last), .int .u8 (dv : Int), .slice q n c, .int .u8 (gv : Int), .int .u8 (cv : Int)] w fun e w' => e = .returned (.bool true) ∧ Fr [] w w' := by
  have HF := Lib.hid hf
  have HSL := Lib.hid SL
  have HOKL := Lib.hid okl
  have HML := Lib.hid ml
  have HSB := Lib.hid SB
  have HOKB := Lib.hid okb
  have HBL := Lib.hid bl
  obtain ⟨xs, hxs⟩ : ∃ xs, xs = shC hs f p m cap last := ⟨_, rfl⟩
  have X : ShF xs hs (bnC f) p m cap last := by rw [hxs]; exact shF hf
  have HXS := Lib.hid hxs
  rw [← hxs]
  have hk32 : ∀ x : Int, 0 ≤ x → x < 256 → Key32 (key1 x) := fun x h0 h1 => ⟨rfl, fun v hv => by
    simp only [key1, List.mem_cons, Kd.zeros, List.mem_replicate] at hv
    omega⟩
  have HK32 := Lib.hid hk32
  have z65 : Tryz.zeroCells65.size = 162 := by kernel_rfl
  have z68 : Tryz.zeroCells68.size = 165 := by kernel_rfl
  clear hf SL okl ml SB okb bl hxs hk32
  obtain ⟨sx, -, -, ⟨x2, x2'⟩, -, xal, xon⟩ := X
  go_enter Tryz.func4, Tryz.ntmps4
  go_wp2_with fail
  refine named_world (A := fun X => OwB w [(w.heap.size, .cells xs 68)] X) (Q := fun X => Calls _ _ _ X _) ((OwB.start w).allocN _ w.heap.size rfl) ?_
  intro V hV
  generalize w.heap.size = b5 at hV ⊢
  refine alive_f.mono ?_
  rintro e V1 ⟨rfl, F1⟩
  have hV1 := hV.call F1
  have f5 := hV1.nth 0 rfl
  have t5 := World.at_lt f5
  have HV1 := Lib.hid hV1
  clear hV F1 hV1
  by_cases hm30 : 30 < m
  · have d1 : decide ((m : Int) > 30) = true := by rw [decide_eq_true_eq]; omega
    go_wp2_with fail
    exact bodyPost_ret (results_tmp rfl _ _ _) rfl ⟨rfl, HV1.out.fr⟩
  have d1 : decide ((m : Int) > 30) = false := by rw [decide_eq_false_iff_not]; omega
  by_cases hn30 : 30 < n
  · have d2 : decide ((n : Int) > 30) = true := by rw [decide_eq_true_eq]; omega
    go_wp2_with fail
    exact bodyPost_ret (results_tmp rfl _ _ _) rfl ⟨rfl, HV1.out.fr⟩
  have d2 : decide ((n : Int) > 30) = false := by rw [decide_eq_false_iff_not]; omega
  go_wp2_with fail
  refine free_f.mono ?_
  rintro e V2 ⟨tb, rfl, hT, F2⟩
  obtain ⟨lo, hlo⟩ : ∃ lo, lo = V1.heap.size := ⟨_, rfl⟩
  rw [← hlo] at hT
  have hlw : w.heap.size ≤ lo := by rw [hlo]; exact HV1.out.fr.size
  have HV2 := Lib.hid (HV1.out.call F2)
  have HT2 := Lib.hid hT
  have hlo2 : lo ≤ V2.heap.size := by rw [hlo]; exact F2.size
  clear hT F2 hlo f5 t5 d1 d2
  go_wp2_with fail
  refine dfree_f.mono ?_
  rintro e V3 ⟨td, rfl, hD, F3⟩
  have HV3 := Lib.hid (HV2.out.call F3)
  have HT3 := Lib.hid (HT2.out.fr0 F3)
  have HD3 := Lib.hid (hD.mono hlo2)
  clear hD F3 hlo2
  go_upto_region 6 with (fail)
  refine named_world (A := fun X => OwB w [(V3.heap.size + 1, .cells #[.pointer (some ⟨td, 0, none⟩)] 31), (V3.heap.size, .cells #[.pointer (some ⟨tb, 0, none⟩)] 27), (b5, .cells xs 68)] X ∧ TabP lo tb X [] ∧ DTabP lo td X []) (Q := fun X => Code.wp _ _ _ _ X) ⟨(HV3.out.allocN _ V3.heap.size rfl).allocN _ (V3.heap.size + 1) (by simp), HT3.out.fr0 (((Fr.refl [] V3).alloc _).alloc _), HD3.out.fr0 (((Fr.refl [] V3).alloc _).alloc _)⟩ ?_
  rintro U4 ⟨hU, hT, hD⟩
  generalize V3.heap.size + 1 = b12 at hU ⊢
  generalize V3.heap.size = b11 at hU ⊢
  have f11 := hU.nth 1 rfl
  have t11 := World.at_lt f11
  have HU4 := Lib.hid hU
  have HT4 := Lib.hid hT
  have HD4 := Lib.hid hD
  clear hU hT hD HV3 HV2 HV1
  go_wp2_with fail
  change Calls Tryz.prog 21 #[SU tb, .agg (ints .u8 (key1 1)), .agg (ints .u8 (key1 2)), .agg (ints .u8 (key1 3))] _ _
  refine (anew_x HT4.out (HK32.out 1 (by omega) (by omega)) (HK32.out 2 (by omega) (by omega)) (HK32.out 3 (by omega) (by omega))).mono ?_
  rintro e V5 ⟨a1, a2, a3, T1, rfl, ka1, ka2, ka3, ⟨hT, hN⟩, F⟩
  have HV5 := Lib.hid (HU4.out.callT F (by simp [other, TT]) hlw)
  have HT5 := Lib.hid hT
  have HD5 := Lib.hid (HD4.out.callT F apartD)
  obtain ⟨A, hA⟩ : ∃ A, A = acC a1 a2 a3 := ⟨_, rfl⟩
  have szA : A.size = 99 := by rw [hA, List.size_toArray, cAccount_length _ _ _ _ _ _ ka1.len ka2.len ka3.len]
  have allA : A.extract 0 99 = A := by rw [← szA]; exact Array.extract_size
  have agA : A.extract 0 32 = ints .u8 a1 := by rw [hA]; exact cAccount_ext_agree _ _ _ _ _ _ ka1.len ka2.len ka3.len
  have sgA : A.extract 32 64 = ints .u8 a2 := by rw [hA]; exact cAccount_ext_sign _ _ _ _ _ _ ka1.len ka2.len ka3.len
  have oneA : ones A.toList = true := by rw [hA]; exact List.all_eq_true.2 (cAccount_one _ _ _ _ _ _ rfl rfl rfl)
  have c22 : ∀ (T : List Tm) (W : World), TabP lo tb W T → Calls Tryz.prog 22 #[SU tb, .agg A] W fun e w' => ∃ x y T', e = .returned (.tuple #[.agg (ints .u8 x), .agg (ints .u8 y)]) ∧ Key32 x ∧ Key32 y ∧ (TabP lo tb w' T' ∧ Hid (PubR T a1 a2 x y T')) ∧ FrP lo W w' := fun T W hW => by rw [hA]; exact apublic_x hW ka1 ka2 ka3
  have C22 := Lib.hid c22
  have HKA1 := Lib.hid ka1
  have HKA2 := Lib.hid ka2
  have la1 := ka1.len
  have la2 := ka2.len
  rw [← hA]
  have HA := Lib.hid hA
  clear hT F c22 hA ka1 ka2 ka3 f11 t11 HU4 HT4 HD4
  go_upto_region 7 with (fail)
  refine named_world (A := fun X => OwB w [(V5.heap.size, .cells A 73), (b12, .cells #[.pointer (some ⟨td, 0, none⟩)] 31), (b11, .cells #[.pointer (some ⟨tb, 0, none⟩)] 27), (b5, .cells xs 68)] X ∧ TabP lo tb X T1 ∧ DTabP lo td X []) (Q := fun X => Code.wp _ _ _ _ X) ⟨HV5.out.allocN _ V5.heap.size rfl, HT5.out.fr0 ((Fr.refl [] V5).alloc _), HD5.out.fr0 ((Fr.refl [] V5).alloc _)⟩ ?_
  rintro U6 ⟨hU, hT, hD⟩
  generalize V5.heap.size = b13 at hU ⊢
  have f13 := hU.nth 0 rfl
  have f11 := hU.nth 2 rfl
  have t13 := World.at_lt f13
  have t11 := World.at_lt f11
  have HU6 := Lib.hid hU
  have HT6 := Lib.hid hT
  have HD6 := Lib.hid hD
  clear hU hT hD HV5 HT5 HD5
  go_wp2_with fail
  refine (C22.out T1 _ HT6.out).mono ?_
  rintro e V7 ⟨k1, k2, T2, rfl, hk1, hk2, ⟨hT, hP⟩, F⟩
  have HV7 := Lib.hid (HU6.out.callT F (by simp [other, TT]) hlw)
  have HT7 := Lib.hid hT
  have HD7 := Lib.hid (HD6.out.callT F apartD)
  have lk1 := hk1.len
  have lk2 := hk2.len
  have s1 : (ints .u8 k1).size = 32 := by rw [size_ints, lk1]
  have s2 : (ints .u8 k2).size = 32 := by rw [size_ints, lk2]
  have y1 : lay (zs 32) 0 k1 = k1 := lay_full lk1
  have y2 : lay (zs 32) 0 k2 = k2 := lay_full lk2
  have HK1 := Lib.hid hk1
  have HK2 := Lib.hid hk2
  clear hT F hk1 hk2 f13 f11 t13 t11 HU6 HT6 HD6 C22
  go_upto_region 8 with (fail)
  refine named_world (A := fun X => OwB w [(V7.heap.size + 1, .cells (ints .u8 k2) 34), (V7.heap.size, .cells (ints .u8 k1) 34), (b13, .cells A 73), (b12, .cells #[.pointer (some ⟨td, 0, none⟩)] 31), (b11, .cells #[.pointer (some ⟨tb, 0, none⟩)] 27), (b5, .cells xs 68)] X ∧ TabP lo tb X T2 ∧ DTabP lo td X []) (Q := fun X => Code.wp _ _ _ _ X) ⟨(HV7.out.allocN _ V7.heap.size rfl).allocN _ (V7.heap.size + 1) (by simp), HT7.out.fr0 (((Fr.refl [] V7).alloc _).alloc _), HD7.out.fr0 (((Fr.refl [] V7).alloc _).alloc _)⟩ ?_
  rintro U8 ⟨hU, hT, hD⟩
  generalize V7.heap.size + 1 = b15 at hU ⊢
  generalize V7.heap.size = b14 at hU ⊢
  have f12 := hU.nth 3 rfl
  have t12 := World.at_lt f12
  have HU8 := Lib.hid hU
  have HT8 := Lib.hid hT
  have HD8 := Lib.hid hD
  clear hU hT hD HV7 HT7 HD7
  go_wp2_with fail
  change Calls Tryz.prog 23 #[SU td, .agg (ints .u8 (key1 1)), .agg (ints .u8 (key1 2)), .agg (ints .u8 (key1 3))] _ _
  refine (dnew_x HD8.out (HK32.out 1 (by omega) (by omega)) (HK32.out 2 (by omega) (by omega)) (HK32.out 3 (by omega) (by omega))).mono ?_
  rintro e V9 ⟨d1, d2, d3, D1, rfl, -, -, -, ⟨hD, hM⟩, F⟩
  obtain ⟨rfl, rfl, rfl, rfl⟩ := hN.out.same hM.out
  have HV9 := Lib.hid (HU8.out.callT F (by simp [other, DT]) hlw)
  have HT9 := Lib.hid (HT8.out.callD F apartT rfl)
  have HD9 := Lib.hid hD
  rw [← HA.out]
  clear hD F hM f12 t12 HU8 HT8 HD8
  go_upto_region 9 with (fail)
  generalize (Value.agg #[.int .u8 1, .int .u8 0, .int .u8 0, .int .u8 0, .int .u8 0, .int .u8 0, .int .u8 0, .int .u8 0, .int .u8 0, .int .u8 0, .int .u8 0, .int .u8 0, .int .u8 0, .int .u8 0, .int .u8 0, .int .u8 0, .int .u8 0, .int .u8 0, .int .u8 0, .int .u8 0, .int .u8 0, .int .u8 0, .int .u8 0, .int .u8 0, .int .u8 0, .int .u8 0, .int .u8 0, .int .u8 0, .int .u8 0, .int .u8 0, .int .u8 0, .int .u8 0]) = lit1
  generalize (Value.agg #[.int .u8 2, .int .u8 0, .int .u8 0, .int .u8 0, .int .u8 0, .int .u8 0, .int .u8 0, .int .u8 0, .int .u8 0, .int .u8 0, .int .u8 0, .int .u8 0, .int .u8 0, .int .u8 0, .int .u8 0, .int .u8 0, .int .u8 0, .int .u8 0, .int .u8 0, .int .u8 0, .int .u8 0, .int .u8 0, .int .u8 0, .int .u8 0, .int .u8 0, .int .u8 0, .int .u8 0, .int .u8 0, .int .u8 0, .int .u8 0, .int .u8 0, .int .u8 0]) = lit2
  generalize (Value.agg #[.int .u8 3, .int .u8 0, .int .u8 0, .int .u8 0, .int .u8 0, .int .u8 0, .int .u8 0, .int .u8 0, .int .u8 0, .int .u8 0, .int .u8 0, .int .u8 0, .int .u8 0, .int .u8 0, .int .u8 0, .int .u8 0, .int .u8 0, .int .u8 0, .int .u8 0, .int .u8 0, .int .u8 0, .int .u8 0, .int .u8 0, .int .u8 0, .int .u8 0, .int .u8 0, .int .u8 0, .int .u8 0, .int .u8 0, .int .u8 0, .int .u8 0, .int .u8 0]) = lit3
  refine named_world (A := fun X => OwB w [(V9.heap.size, .cells A 73), (b15, .cells (ints .u8 k2) 34), (b14, .cells (ints .u8 k1) 34), (b13, .cells A 73), (b12, .cells #[.pointer (some ⟨td, 0, none⟩)] 31), (b11, .cells #[.pointer (some ⟨tb, 0, none⟩)] 27), (b5, .cells xs 68)] X ∧ TabP lo tb X T2 ∧ DTabP lo td X T1) (Q := fun X => Code.wp _ _ _ _ X) ⟨HV9.out.allocN _ V9.heap.size rfl, HT9.out.fr0 ((Fr.refl [] V9).alloc _), HD9.out.fr0 ((Fr.refl [] V9).alloc _)⟩ ?_
  rintro U10 ⟨hU, hT, hD⟩
  generalize V9.heap.size = b16 at hU ⊢
  obtain ⟨TM, hp1, hp2⟩ := hP.out
  have HP1 := Lib.hid hp1
  have HP2 := Lib.hid hp2
  have f16 := hU.nth 0 rfl
  have f15 := hU.nth 1 rfl
  have f14 := hU.nth 2 rfl
  have f12 := hU.nth 4 rfl
  have t16 := World.at_lt f16
  have t15 := World.at_lt f15
  have t14 := World.at_lt f14
  have t12 := World.at_lt f12
  have HU10 := Lib.hid hU
  have HT10 := Lib.hid hT
  have HD10 := Lib.hid hD
  clear hU hT hD hp1 hp2 HV9 HT9 HD9
  refine drawn_begin 14 (fun w' => w'.blk b16 = some (.cells A 73) ∧ w'.blk b15 = some (.cells (ints .u8 k2) 34) ∧ w'.blk b14 = some (.cells (ints .u8 k1) 34) ∧ w'.blk b12 = some (.cells #[.pointer (some ⟨td, 0, none⟩)] 31)) (by kernel_rfl) ?_
  refine drawn_reads (fuel := 10) [0, 1, 2, 3] rfl (by kernel_rfl) ⟨f16, f15, f14, f12⟩ ?_
  repeat (first | (refine rowK_step2 rfl rfl (fun K hK => ?_); go_wp2) | (refine rowK_step rfl (fun K hK => ?_); go_simp; refine hK _ ?_; clear hK K))
  refine rowK_nil ⟨fun w' e1 => ?_, ?_⟩
  · obtain ⟨e1, e2, e3, e4⟩ := e1
    clear f16 f15 f14 f12 t16 t15 t14 t12
    repeat (first | (refine rowWp_step2 rfl rfl (fun K hK => ?_); go_wp2) | (refine rowWp_step rfl (fun K hK => ?_); go_simp; refine hK _ ?_; clear hK K))
    exact rowWp_nil rfl
  refine drawn_next 4 (fuel := 9) rfl (by kernel_rfl) ?_
  intro K hK
  go_wp2_with fail
  refine (dpublic_x (HD10.out.fr0 (Fr.refl [] U10).drew) HKA1.out).mono ?_
  rintro e U11 ⟨j1, TN, hm, rfl, -, hD, F⟩
  obtain ⟨rfl, rfl⟩ := HP1.out.same hm.out
  have HU11 := Lib.hid (HU10.out.drew.callT F (by simp [other, DT]) hlw)
  have HT11 := Lib.hid ((HT10.out.fr0 (Fr.refl [] U10).drew).callD F apartT rfl)
  have HD11 := Lib.hid hD
  clear hD F hm f16 f15 f14 f12 t16 t15 t14 t12 HU10 HT10 HD10
  have f16 := HU11.out.nth 0 rfl
  have f15 := HU11.out.nth 1 rfl
  have f14 := HU11.out.nth 2 rfl
  have f12 := HU11.out.nth 4 rfl
  have t16 := World.at_lt f16
  have t15 := World.at_lt f15
  have t14 := World.at_lt f14
  have t12 := World.at_lt f12
  go_wp2_with fail
  refine ⟨⟨f16, f15, f14, f12⟩, ?_⟩
  refine drawn_reads (fuel := 3) [5, 6, 7, 8, 9, 10] rfl (by kernel_rfl) ⟨f16, f15, f14, f12⟩ ?_
  repeat (first | (refine rowK_step2 rfl rfl (fun K hK => ?_); go_wp2) | (refine rowK_step rfl (fun K hK => ?_); go_simp; refine hK _ ?_; clear hK K))
  refine rowK_nil ⟨fun w' e1 => ?_, ?_⟩
  · obtain ⟨e1, e2, e3, e4⟩ := e1
    clear f16 f15 f14 f12 t16 t15 t14 t12
    repeat (first | (refine rowWp_step2 rfl rfl (fun K hK => ?_); go_wp2) | (refine rowWp_step rfl (fun K hK => ?_); go_simp; refine hK _ ?_; clear hK K))
    exact rowWp_nil rfl
  refine drawn_next 11 (fuel := 2) rfl (by kernel_rfl) ?_
  intro K hK
  go_wp2_with fail
  refine (dsigner_x HD11.out HKA2.out).mono ?_
  rintro e U12 ⟨j2, TO, hm, rfl, -, hD, F⟩
  obtain ⟨rfl, rfl⟩ := HP2.out.same hm.out
  have HU12 := Lib.hid (HU11.out.callT F (by simp [other, DT]) hlw)
  have HTW : Hid (TwoT lo tb td U12 T2) := Lib.hid ⟨HT11.out.callD F apartT rfl, hD⟩
  clear hD F hm f16 f15 f14 f12 t16 t15 t14 t12 HU11 HT11 HD11
  have f16 := HU12.out.nth 0 rfl
  have f15 := HU12.out.nth 1 rfl
  have f14 := HU12.out.nth 2 rfl
  have f12 := HU12.out.nth 4 rfl
  have t16 := World.at_lt f16
  have t15 := World.at_lt f15
  have t14 := World.at_lt f14
  have t12 := World.at_lt f12
  go_wp2_with fail
  refine ⟨⟨f16, f15, f14, f12⟩, ?_⟩
  refine drawn_reads (fuel := 0) [12, 13] rfl (by kernel_rfl) ⟨f16, f15, f14, f12⟩ ?_
  repeat (first | (refine rowK_step2 rfl rfl (fun K hK => ?_); go_wp2) | (refine rowK_step rfl (fun K hK => ?_); go_simp; refine hK _ ?_; clear hK K))
  refine rowK_nil ⟨fun w' e1 => ?_, ?_⟩
  · clear f16 f15 f14 f12 t16 t15 t14 t12 e1
    repeat (first | (refine rowWp_step2 rfl rfl (fun K hK => ?_); go_wp2) | (refine rowWp_step rfl (fun K hK => ?_); go_simp; refine hK _ ?_; clear hK K))
    exact rowWp_nil rfl
  refine drawn_end (ol := []) rfl (by kernel_rfl) ?_
  intro K hK
  go_upto_region 14 with (fail)
  clear f16 f15 f14 f12 t16 t15 t14 t12
  refine named_world (A := fun X => OwB w [(U12.heap.size, .cells (ints .u8 a2) 34), (b16, Obj.cells A 73), (b15, Obj.cells (ints .u8 k2) 34), (b14, Obj.cells (ints .u8 k1) 34), (b13, Obj.cells A 73), (b12, Obj.cells #[.pointer (some ⟨td, 0, none⟩)] 31), (b11, Obj.cells #[.pointer (some ⟨tb, 0, none⟩)] 27), (b5, Obj.cells xs 68)] X ∧ TwoT lo tb td X T2) (Q := fun X => Code.wp _ _ _ _ X) ⟨HU12.out.allocN _ U12.heap.size rfl, HTW.out.fr0 ((Fr.refl [] U12).alloc _)⟩ ?_
  rintro U13 ⟨hU, hT⟩
  generalize U12.heap.size = b17 at hU ⊢
  obtain ⟨LX, hLX⟩ : ∃ LX, LX = [(b17, Obj.cells (ints .u8 a2) 34), (b16, Obj.cells A 73), (b15, Obj.cells (ints .u8 k2) 34), (b14, Obj.cells (ints .u8 k1) 34), (b13, Obj.cells A 73), (b12, Obj.cells #[.pointer (some ⟨td, 0, none⟩)] 31), (b11, Obj.cells #[.pointer (some ⟨tb, 0, none⟩)] 27), (b5, Obj.cells xs 68)] := ⟨_, rfl⟩
  rw [← hLX] at hU
  have HLX := Lib.hid hLX
  have HU13 := Lib.hid hU
  have HT13 := Lib.hid hT
  clear hU hT HU12 HTW hLX
  have sa2 : (ints .u8 a2).size = 32 := by rw [size_ints, la2]
  go_loopw [18, 19] (fun v18 v19 wy => ∃ (i : Nat) (pm : Option Addr) (cm : Nat), i ≤ n ∧ v19 = .int .i64 (i : Int) ∧ v18 = .slice pm i cm ∧ Hid (∃ ms T, BldV w LX 65 162 wy pm i cm (bnsL ms) ∧ (∀ x ∈ ms, BnOk x) ∧ ms.length = i ∧ TwoT lo tb td wy T)) (fun _ v19 _ => (n - intOf v19).toNat)
  case atStart => exact ⟨0, none, 0, by omega, rfl, rfl, Lib.hid ⟨[], T2, BldV.nil HU13.out, by simp, rfl, HT13.out⟩⟩
  case round =>
    clear HU13 HT13
    obtain ⟨i, pm, cm, hi9, rfl, rfl, hE⟩ := hrel
    by_cases hlt : i < n
    · have hd : decide ((i : Int) < (n : Int)) = true := by rw [decide_eq_true_eq]; omega
      obtain ⟨ms, T, hB, okm, lm, hT⟩ := hE.out
      clear hE
      obtain ⟨x, b, o, cs, TTx, frx, hx, rfl, fc0, hs1, hs2, hext⟩ := HSB.out.elem HOKB.out HBL.out hlt
      have okx := HOKB.out x (List.mem_of_getElem? hx)
      have fc := hB.own.fr.get fc0 (by simp)
      have tc := World.at_lt fc
      obtain ⟨B0, hB0⟩ : ∃ B0, B0 = bnC x := ⟨_, rfl⟩
      rw [← hB0] at hext
      have szB0 : B0.size = 162 := by rw [hB0]; exact bnC_size okx
      have oneB0 : ones B0.toList = true := by rw [hB0]; exact List.all_eq_true.2 (cBundle_one _ _ _ _ _ _ rfl rfl)
      have HB0 := Lib.hid hB0
      have HOKX := Lib.hid okx
      have HBV := Lib.hid hB
      have HTV := Lib.hid hT
      have HMS : Hid ((∀ x ∈ ms, BnOk x) ∧ ms.length = i) := Lib.hid ⟨okm, lm⟩
      clear hB okm lm hT hx okx hB0 fc0
      go_upto_region 17 with (fail)
      refine named_world (A := fun X => BldV w ((wr.heap.size, .cells B0 65) :: LX) 65 162 X pm i cm (bnsL ms) ∧ TwoT lo tb td X T) (Q := fun X => Code.wp _ _ _ _ X) ⟨BldV.newroom HBV.out _, HTV.out.fr0 ((Fr.refl [] wr).alloc _)⟩ ?_
      rintro U1 ⟨hB, hT⟩
      generalize wr.heap.size = b20 at hB ⊢
      have HB1 := Lib.hid hB
      have HT1 := Lib.hid hT
      clear hB hT fc tc hext HBV HTV
      have wgv : IntKind.i64.wrap (gv : Int) = (gv : Int) := by rw [IntKind.wrap_i64]; omega
      go_upto_if 90 with (fail)
      go_cut [91, 92, 93, 94, 95, 96, 97, 98, 99, 100, 101, 102, 103, 104, 105, 106, 107, 108, 109, 110, 111] (fun _ _ _ _ _ _ _ _ _ _ _ _ _ _ _ _ _ _ _ _ _ wy => Hid (∃ y T, BnOk y ∧ BldV w ((b20, .cells (bnC y) 65) :: LX) 65 162 wy pm i cm (bnsL ms) ∧ TwoT lo tb td wy T))
      case first =>
        by_cases hg : i = gv
        · have dg : ((i : Int) != (gv : Int)) = false := by simp; omega
          have dg2 : (i != gv) = false := by simp; omega
          have HG := Lib.hid hg
          clear hg
          go_wp2_with fail
          go_meet
          case rel => exact Lib.hid ⟨x, T, HOKX.out, by rw [← HB0.out]; exact HB1.out, HT1.out⟩
        · have dg : ((i : Int) != (gv : Int)) = true := by simp; omega
          have dg2 : (i != gv) = true := by simp; omega
          have hO1 := HB1.out.own
          have HOX1 : Hid (OwB w ((b20, .cells B0 65) :: [(b17, Obj.cells (ints .u8 a2) 34), (b16, Obj.cells A 73), (b15, Obj.cells (ints .u8 k2) 34), (b14, Obj.cells (ints .u8 k1) 34), (b13, Obj.cells A 73), (b12, Obj.cells #[.pointer (some ⟨td, 0, none⟩)] 31), (b11, Obj.cells #[.pointer (some ⟨tb, 0, none⟩)] 27), (b5, Obj.cells xs 68)]) U1) := Lib.hid (by have h := hO1; rw [HLX.out] at h; exact h)
          have f20 := HOX1.out.nth 0 rfl
          have t20 := World.at_lt f20
          have f14 := HOX1.out.nth 4 rfl
          have t14 := World.at_lt f14
          have f15 := HOX1.out.nth 3 rfl
          have t15 := World.at_lt f15
          have n2014 := HOX1.out.ne 0 4 rfl rfl (by decide)
          have n2015 := HOX1.out.ne 0 3 rfl rfl (by decide)
          have n1420 := n2014.symm
          have n1520 := n2015.symm
          have ok0 := HOKX.out
          obtain ⟨C1, hC1⟩ : ∃ C1, C1 = bnC ⟨dv, x.agree, x.signer, x.id, x.once, x.sig⟩ := ⟨_, rfl⟩
          obtain ⟨C2, hC2⟩ : ∃ C2, C2 = bnC ⟨dv, k1, x.signer, x.id, x.once, x.sig⟩ := ⟨_, rfl⟩
          obtain ⟨C3, hC3⟩ : ∃ C3, C3 = bnC ⟨dv, k1, k2, x.id, x.once, x.sig⟩ := ⟨_, rfl⟩
          have e1 : B0.setIfInBounds 0 (.int .u8 (dv : Int)) = C1 := by rw [HB0.out, hC1]; exact cBundle_set_device _ _ _ _ _ _ _ ok0.al ok0.sl ok0.ol ok0.gl
          have e2 : spl C1 1 (k1.map (Value.int .u8)) = C2 := by rw [hC1, hC2]; exact cBundle_spl_agree _ _ _ _ _ _ _ ok0.al ok0.sl ok0.ol ok0.gl lk1
          have e3 : spl C2 33 (k2.map (Value.int .u8)) = C3 := by rw [hC2, hC3]; exact cBundle_spl_signer _ _ _ _ _ _ _ lk1 ok0.sl ok0.ol ok0.gl lk2
          have z1 : C1.size = 162 := by rw [hC1, List.size_toArray, cBundle_length _ _ _ _ _ _ ok0.al ok0.sl ok0.ol ok0.gl]
          have z2 : C2.size = 162 := by rw [hC2, List.size_toArray, cBundle_length _ _ _ _ _ _ lk1 ok0.sl ok0.ol ok0.gl]
          have ok3 : BnOk ⟨dv, k1, k2, x.id, x.once, x.sig⟩ := ⟨by show (0 : Int) ≤ dv; omega, by show (dv : Int) < 256; omega, ok0.i0, ok0.i1, lk1, lk2, ok0.ol, ok0.gl, HK1.out.byt, HK2.out.byt, ok0.ob, ok0.gb⟩
          obtain ⟨y3, hy3⟩ : ∃ y3 : Bn, y3 = ⟨dv, k1, k2, x.id, x.once, x.sig⟩ := ⟨_, rfl⟩
          rw [← hy3] at ok3 hC3
          have z3 : C3.size = 162 := by rw [hC3]; exact bnC_size ok3
          have one3 : ones C3.toList = true := by rw [hC3]; exact List.all_eq_true.2 (cBundle_one _ _ _ _ _ _ rfl rfl)
          have all3 : C3.extract 0 162 = C3 := by rw [← z3]; exact Array.extract_size
          have HY3 := Lib.hid hy3
          have HC3 := Lib.hid hC3
          have HOK3 := Lib.hid ok3
          clear hO1 ok0 hC1 hC2 hC3 hy3 ok3
          go_upto_region 21 with (fail)
          refine named_world (A := fun X => BldV w ((b20, .cells C3 65) :: LX) 65 162 X pm i cm (bnsL ms) ∧ TwoT lo tb td X T) (Q := fun X => Code.wp _ _ _ _ X) ⟨HB1.out.set 0 _ rfl, HT1.out.put f20 (by decide) _⟩ ?_
          rintro U2 ⟨hB, hT⟩
          clear f20 t20 f14 t14 f15 t15 n2014 n2015 n1420 n1520 e1 e2 e3 HOX1
          have HB2 := Lib.hid hB
          have HT2 := Lib.hid hT
          clear hB hT
          have fl := fun (X : World) (h : OwB w ((b20, Obj.cells C3 65) :: LX) X) => (show OwB w ((b20, Obj.cells C3 65) :: [(b17, Obj.cells (ints .u8 a2) 34), (b16, Obj.cells A 73), (b15, Obj.cells (ints .u8 k2) 34), (b14, Obj.cells (ints .u8 k1) 34), (b13, Obj.cells A 73), (b12, Obj.cells #[.pointer (some ⟨td, 0, none⟩)] 31), (b11, Obj.cells #[.pointer (some ⟨tb, 0, none⟩)] 27), (b5, Obj.cells xs 68)]) X by have h2 := h; rw [HLX.out] at h2; exact h2)
          have HFL := Lib.hid fl
          clear fl
          have hfl := HFL.out _ HB2.out.own
          have f20 := hfl.nth 0 rfl
          have f17 := hfl.nth 1 rfl
          have f12 := hfl.nth 6 rfl
          have t20 := World.at_lt f20
          have t17 := World.at_lt f17
          have t12 := World.at_lt f12
          have c26 : ∀ W : World, Calls Tryz.prog 26 #[.agg C3] W fun e w' => ∃ q m c, e = .returned (.slice q m c) ∧ Bld W [] .u8 5 w' q m c (bunText y3) := fun W => by rw [HC3.out]; exact rtext_f HOK3.out
          have C26 := Lib.hid c26
          clear hfl c26
          refine drawn_begin 5 (fun w' => w'.blk b20 = some (.cells C3 65) ∧ w'.blk b17 = some (.cells (ints .u8 a2) 34) ∧ w'.blk b12 = some (.cells #[.pointer (some ⟨td, 0, none⟩)] 31)) (by kernel_rfl) ?_
          refine drawn_reads (fuel := 4) [0, 1, 2] rfl (by kernel_rfl) ⟨f20, f17, f12⟩ ?_
          repeat (first | (refine rowK_step2 rfl rfl (fun K hK => ?_); go_wp2) | (refine rowK_step rfl (fun K hK => ?_); go_simp; refine hK _ ?_; clear hK K))
          refine rowK_nil ⟨fun w' e1 => ?_, ?_⟩
          · obtain ⟨e1, e2, e3⟩ := e1
            clear f20 f17 f12 t20 t17 t12
            repeat (first | (refine rowWp_step2 rfl rfl (fun K hK => ?_); go_wp2) | (refine rowWp_step rfl (fun K hK => ?_); go_simp; refine hK _ ?_; clear hK K))
            exact rowWp_nil rfl
          refine drawn_next 3 (fuel := 3) rfl (by kernel_rfl) ?_
          intro K hK
          go_wp2_with fail
          refine (C26.out _).mono ?_
          rintro e U3 ⟨tq, tm, tc, rfl, hTx⟩
          have HB3 := Lib.hid ((HB2.out.call (Fr.refl [] U2).drew).call hTx.own.fr)
          have HT3 := Lib.hid ((HT2.out.fr0 (Fr.refl [] U2).drew).fr0 hTx.own.fr)
          have HTX := Lib.hid hTx
          clear hTx f20 f17 f12 t20 t17 t12
          have hfl := HFL.out _ HB3.out.own
          have f20 := hfl.nth 0 rfl
          have f17 := hfl.nth 1 rfl
          have f12 := hfl.nth 6 rfl
          clear hfl
          go_wp2_with fail
          refine ⟨⟨f20, f17, f12⟩, ?_⟩
          refine drawn_next 4 (fuel := 2) rfl (by kernel_rfl) ?_
          intro K hK
          go_wp2_with fail
          refine (dsign_f HT3.out.doc la2 HKA2.out.byt HTX.out.sl (isBytes_bun HOK3.out) (fun X hF => Bld.slStay (t := DT) HTX.out (.inl rfl) hF.stay)).mono ?_
          rintro e U4 ⟨rfl, hD, F4⟩
          have HB4 := Lib.hid (BldV.callA HB3.out F4 (fun q hq => by
            rcases List.mem_cons.1 hq with rfl | hq
            · exact .inr ⟨by decide, by decide⟩
            · rw [HLX.out] at hq
              simp only [List.mem_cons, List.not_mem_nil, or_false] at hq
              rcases hq with rfl | rfl | rfl | rfl | rfl | rfl | rfl | rfl <;> exact .inr ⟨by decide, by decide⟩) ⟨by decide, by decide⟩ hlw)
          have HTC4 := Lib.hid (HT3.out.code.callD F4 apartT rfl)
          have HTD4 := Lib.hid hD
          obtain ⟨sg, hsg⟩ : ∃ g, g = (signF T a2 (bunText y3)).2 := ⟨_, rfl⟩
          obtain ⟨T9, hT9⟩ : ∃ t, t = (signF T a2 (bunText y3)).1 := ⟨_, rfl⟩
          rw [← hsg]
          have lsg : sg.length = 64 := by rw [hsg]; exact signF_len _ _ _
          have bsg : isBytes sg := by rw [hsg]; exact byt_signF
          have ssg : (ints .u8 sg).size = 64 := by rw [size_ints, lsg]
          obtain ⟨y4, hy4⟩ : ∃ y4 : Bn, y4 = ⟨dv, k1, k2, x.id, x.once, sg⟩ := ⟨_, rfl⟩
          have ok4 : BnOk y4 := by
            have h := HOK3.out
            rw [HY3.out] at h
            rw [hy4]
            exact ⟨h.d0, h.d1, h.i0, h.i1, h.al, h.sl, h.ol, lsg, h.ab, h.sb, h.ob, bsg⟩
          obtain ⟨C4, hC4⟩ : ∃ C4, C4 = bnC y4 := ⟨_, rfl⟩
          have e4 : spl C3 98 (sg.map (Value.int .u8)) = C4 := by
            have h := HOK3.out
            rw [HC3.out, hC4, hy4]
            rw [HY3.out] at h ⊢
            exact cBundle_spl_sig _ _ _ _ _ _ _ h.al h.sl h.ol h.gl lsg
          have z4 : C4.size = 162 := by rw [hC4]; exact bnC_size ok4
          have one4 : ones C4.toList = true := by rw [hC4]; exact List.all_eq_true.2 (cBundle_one _ _ _ _ _ _ rfl rfl)
          have all4 : C4.extract 0 162 = C4 := by rw [← z4]; exact Array.extract_size
          have sig4 : C4.extract 98 162 = ints .u8 sg := by rw [hC4, hy4]; exact cBundle_ext_sig _ _ _ _ _ _ lk1 lk2 HOKX.out.ol lsg
          have ht4 : bunText y4 = bunText y3 := by rw [hy4, HY3.out]; rfl
          have HC4 := Lib.hid hC4
          have HY4 := Lib.hid hy4
          have HOK4 := Lib.hid ok4
          have HSG := Lib.hid hsg
          have HT9 := Lib.hid hT9
          have HTX4 := Lib.hid ht4
          have HBSG := Lib.hid bsg
          clear hD F4 f20 f17 f12 hy4 ok4 hC4 hsg hT9 ht4 bsg HB3 HT3
          have hfl := HFL.out _ HB4.out.own
          have f20 := hfl.nth 0 rfl
          have f17 := hfl.nth 1 rfl
          have f12 := hfl.nth 6 rfl
          have t20 := World.at_lt f20
          clear hfl
          go_wp2_with fail
          refine ⟨⟨f20, f17, f12⟩, ?_⟩
          refine drawn_end rfl (by kernel_rfl) ?_
          intro K hK
          go_upto_region 22 with (fail)
          refine named_world (A := fun X => BldV w ((b20, .cells C4 65) :: LX) 65 162 X pm i cm (bnsL ms) ∧ TabP lo tb X T ∧ DTabP lo td X T9) (Q := fun X => Code.wp _ _ _ _ X) ⟨HB4.out.set 0 _ rfl, HTC4.out.put f20 (by decide) _, by rw [HT9.out]; exact HTD4.out.put f20 (by decide) _⟩ ?_
          rintro U5 ⟨hB, hTC, hTD⟩
          clear f20 f17 f12 t20 e4 HB4 HTC4 HTD4 HFL
          have HB5 := Lib.hid hB
          have HTC5 := Lib.hid hTC
          have HTD5 := Lib.hid hTD
          clear hB hTC hTD
          have fl := fun (X : World) (h : OwB w ((b20, Obj.cells C4 65) :: LX) X) => (show OwB w ((b20, Obj.cells C4 65) :: [(b17, Obj.cells (ints .u8 a2) 34), (b16, Obj.cells A 73), (b15, Obj.cells (ints .u8 k2) 34), (b14, Obj.cells (ints .u8 k1) 34), (b13, Obj.cells A 73), (b12, Obj.cells #[.pointer (some ⟨td, 0, none⟩)] 31), (b11, Obj.cells #[.pointer (some ⟨tb, 0, none⟩)] 27), (b5, Obj.cells xs 68)]) X by have h2 := h; rw [HLX.out] at h2; exact h2)
          have HFL := Lib.hid fl
          clear fl
          have hfl := HFL.out _ HB5.out.own
          have f20 := hfl.nth 0 rfl
          have f13 := hfl.nth 5 rfl
          have f11 := hfl.nth 7 rfl
          have t20 := World.at_lt f20
          have t13 := World.at_lt f13
          have t11 := World.at_lt f11
          have c26 : ∀ W : World, Calls Tryz.prog 26 #[.agg C4] W fun e w' => ∃ q m c, e = .returned (.slice q m c) ∧ Bld W [] .u8 5 w' q m c (bunText y3) := fun W => by rw [HC4.out, ← HTX4.out]; exact rtext_f HOK4.out
          have C26' := Lib.hid c26
          have hq45 : ∀ W : World, (Op.equalIn 10000 45 (.agg (ints .u8 sg)) (.agg (ints .u8 sg))).run Tryz.prog W = .ok true W := fun W => by rw [eq45 sg sg lsg lsg W 9998]; simp
          clear hfl c26
          refine drawn_begin 9 (fun w' => w'.blk b20 = some (.cells C4 65) ∧ w'.blk b13 = some (.cells A 73) ∧ w'.blk b11 = some (.cells #[.pointer (some ⟨tb, 0, none⟩)] 27)) (by kernel_rfl) ?_
          refine drawn_reads (fuel := 3) [0, 1, 2, 3, 6, 7] rfl (by kernel_rfl) ⟨f20, f13, f11⟩ ?_
          repeat (first | (refine rowK_step2 rfl rfl (fun K hK => ?_); go_wp2) | (refine rowK_step rfl (fun K hK => ?_); go_simp; refine hK _ ?_; clear hK K))
          refine rowK_nil ⟨fun w' e1 => ?_, ?_⟩
          · obtain ⟨e1, e2, e3⟩ := e1
            clear f20 f13 f11 t20 t13 t11
            repeat (first | (refine rowWp_step2 rfl rfl (fun K hK => ?_); go_wp2) | (refine rowWp_step rfl (fun K hK => ?_); go_simp; refine hK _ ?_; clear hK K))
            exact rowWp_nil rfl
          refine drawn_next 4 (fuel := 2) rfl (by kernel_rfl) ?_
          intro K hK
          go_wp2_with fail
          refine (C26'.out _).mono ?_
          rintro e U6 ⟨tq2, tm2, tc2, rfl, hTx⟩
          have HB6 := Lib.hid ((HB5.out.call (Fr.refl [] U5).drew).call hTx.own.fr)
          have HTC6 := Lib.hid ((HTC5.out.fr0 (Fr.refl [] U5).drew).fr0 hTx.own.fr)
          have HTD6 := Lib.hid ((HTD5.out.fr0 (Fr.refl [] U5).drew).fr0 hTx.own.fr)
          have HTX2 := Lib.hid hTx
          clear hTx f20 f13 f11 t20 t13 t11
          have hfl := HFL.out _ HB6.out.own
          have f20 := hfl.nth 0 rfl
          have f13 := hfl.nth 5 rfl
          have f11 := hfl.nth 7 rfl
          clear hfl
          go_wp2_with fail
          refine ⟨⟨f20, f13, f11⟩, ?_⟩
          refine drawn_next 5 (fuel := 1) rfl (by kernel_rfl) ?_
          intro K hK
          go_wp2_with fail
          refine (sign_f HTC6.out la2 HKA2.out.byt HTX2.out.sl (isBytes_bun HOK3.out)).mono ?_
          rintro e U7 ⟨rfl, hT, F7⟩
          rw [← HSG.out]
          have HB7 := Lib.hid (BldV.callA HB6.out F7 (fun q hq => by
            rcases List.mem_cons.1 hq with rfl | hq
            · exact .inr ⟨by decide, by decide⟩
            · rw [HLX.out] at hq
              simp only [List.mem_cons, List.not_mem_nil, or_false] at hq
              rcases hq with rfl | rfl | rfl | rfl | rfl | rfl | rfl | rfl <;> exact .inr ⟨by decide, by decide⟩) ⟨by decide, by decide⟩ hlw)
          have HTW7 : Hid (TwoT lo tb td U7 T9) := Lib.hid ⟨by rw [HT9.out]; exact hT, HTD6.out.callT F7 apartD⟩
          clear hT F7 f20 f13 f11 HB6 HTC6 HTD6
          have hfl := HFL.out _ HB7.out.own
          have f20 := hfl.nth 0 rfl
          have f13 := hfl.nth 5 rfl
          have f11 := hfl.nth 7 rfl
          clear hfl
          go_wp2_with fail
          refine ⟨⟨f20, f13, f11⟩, ?_⟩
          refine drawn_reads (fuel := 0) [8] rfl (by kernel_rfl) ⟨f20, f13, f11⟩ ?_
          repeat (first | (refine rowK_step2 rfl rfl (fun K hK => ?_); go_wp2) | (refine rowK_step rfl (fun K hK => ?_); go_simp; refine hK _ ?_; clear hK K))
          refine rowK_nil ⟨fun w' e1 => ?_, ?_⟩
          · clear f20 f13 f11 e1
            repeat (first | (refine rowWp_step2 rfl rfl (fun K hK => ?_); go_wp2) | (refine rowWp_step rfl (fun K hK => ?_); go_simp; refine hK _ ?_; clear hK K))
            exact rowWp_nil rfl
          refine drawn_end (ol := []) rfl (by kernel_rfl) ?_
          intro K hK
          clear f20 f13 f11
          go_wp2_with fail
          go_meet
          case rel => exact Lib.hid ⟨y4, T9, HOK4.out, by rw [← HC4.out]; exact HB7.out, HTW7.out⟩
      case rest =>
        obtain ⟨y, T9, oky, hB, hT⟩ := hcut.out
        clear hcut
        obtain ⟨Y, hY⟩ : ∃ Y, Y = bnC y := ⟨_, rfl⟩
        rw [← hY] at hB
        have szY : Y.size = 162 := by rw [hY]; exact bnC_size oky
        have oneY : ∀ u ∈ Y.toList, u.oneCell' = true := by rw [hY]; exact cBundle_one _ _ _ _ _ _ rfl rfl
        have oneY2 : ones Y.toList = true := List.all_eq_true.2 oneY
        have allY : Y.extract 0 162 = Y := by rw [← szY]; exact Array.extract_size
        have f20 := hB.own.nth 0 rfl
        have t20 := World.at_lt f20
        have HYE := Lib.hid hY
        have HOKY := Lib.hid oky
        have HBY := Lib.hid hB
        have HTY := Lib.hid hT
        have HONE := Lib.hid oneY
        have wi : IntKind.i64.wrap ((i : Int) + 1) = ((i + 1 : Nat) : Int) := by rw [IntKind.wrap_i64]; omega
        clear hY oky hB hT oneY
        go_wp2_with (refine wpList_app60F rfl _ _ rfl rfl (BldV.newroom HBY.out _) rfl (sv_one (World.at_alloc_new _ _ _ rfl) szY) HONE.out (by omega) ?_)
        intro q8 c8 X6 hB6 hF6
        have HT6 : Hid (TwoT lo tb td X6 T9) := Lib.hid ((HTY.out.fr0 ((Fr.refl [] wc).alloc _)).grown (BldV.newroom HBY.out (.cells Y 65)) hF6 (by decide))
        have HB6 : Hid (BldV w LX 65 162 X6 q8 (i + 1) c8 (bnsL (ms ++ [y]))) := Lib.hid (by
          have h := hB6.sub (.cons _ (.cons _ (.refl _)))
          rw [bnsL_append, show bnsL [y] = Y.toList by rw [HYE.out]; simp [bnsL]]
          exact h)
        obtain ⟨i1, hi1⟩ : ∃ i1, i1 = i + 1 := ⟨_, rfl⟩
        rw [← hi1] at HB6 wi ⊢
        have HI1 := Lib.hid hi1
        clear hB6 hF6 f20 t20 hi1
        go_wp2_with fail
        go_roundw
        case rel =>
          refine ⟨i1, q8, c8, by have := HI1.out; omega, by first | rfl | simp, rfl, Lib.hid ⟨ms ++ [y], T9, HB6.out, fun v hv => ?_, by rw [List.length_append, HMS.out.2, HI1.out]; rfl, HT6.out⟩⟩
          rcases List.mem_append.1 hv with hv | hv
          · exact HMS.out.1 v hv
          · simp only [List.mem_singleton] at hv
            rw [hv]; exact HOKY.out
        case measure => have := HI1.out; simp [intOf]; omega
    · obtain rfl : i = n := by omega
      have hd : decide ((i : Int) < (i : Int)) = false := by simp
      obtain ⟨ms, T, hB, okm, lm, hT⟩ := hE.out
      clear hE
      obtain ⟨Nm, hOm, hPm⟩ := hB.park
      have hKm := Parked.kept hPm
      have hO2 : OwB w (Nm ++ [(b17, Obj.cells (ints .u8 a2) 34), (b16, Obj.cells A 73), (b15, Obj.cells (ints .u8 k2) 34), (b14, Obj.cells (ints .u8 k1) 34), (b13, Obj.cells A 73), (b12, Obj.cells #[.pointer (some ⟨td, 0, none⟩)] 31), (b11, Obj.cells #[.pointer (some ⟨tb, 0, none⟩)] 27), (b5, Obj.cells xs 68)]) wr := by have h := hOm; rw [HLX.out] at h; exact h
      have f11 := hO2.mem (b := b11) (o := .cells #[.pointer (some ⟨tb, 0, none⟩)] 27) (by simp)
      have f5 := hO2.mem (b := b5) (o := .cells xs 68) (by simp)
      have f14 := hO2.mem (b := b14) (o := .cells (ints .u8 k1) 34) (by simp)
      have f15 := hO2.mem (b := b15) (o := .cells (ints .u8 k2) 34) (by simp)
      have t11 := World.at_lt f11
      have t5 := World.at_lt f5
      have t14 := World.at_lt f14
      have t15 := World.at_lt f15
      have lf162 : (bnC f).toList.length = 162 := by rw [Array.length_toList, bnC_size HF.out]
      have c28 : Calls Tryz.prog 28 #[SU tb, .agg xs, .int .u8 (dv : Int), .agg (ints .u8 k1), .agg (ints .u8 k2), .slice pm i cm] wr fun e w' => ∃ v, e = .returned v ∧ StockR T dv k1 k2 hs (bnC f).toList ls last m ms wr w' v := by
        rw [HXS.out]
        exact stock_f hT.code lf162 (cBundle_one _ _ _ _ _ _ rfl rfl) (HSL.out.fr0 hO2.fr) (by omega) (hKm.2 wr hOm.has.of_append.1) (by omega) okm lk1 lk2 hdv hl0 hl1
      have C28 := Lib.hid c28
      have HOm := Lib.hid hOm
      have HKm := Lib.hid hKm
      have HTm := Lib.hid hT
      have HMS : Hid ((∀ x ∈ ms, BnOk x) ∧ ms.length = i) := Lib.hid ⟨okm, lm⟩
      obtain ⟨R, hR⟩ : ∃ R, R = Nm ++ LX := ⟨_, rfl⟩
      have HR := Lib.hid hR
      clear hB okm lm hT hPm hKm hO2 hOm c28 hR
      go_upto_region 25 with (fail)
      go_wp2_with fail
      refine C28.out.mono ?_
      rintro e W1 ⟨v, rfl, r, mR, rc, E, hh, fall2, ls2, la, rfl, hBr, hE, hStk⟩
      obtain ⟨ff, hff, okff⟩ : ∃ ff, fall2 = (bnC ff).toList ∧ BnOk ff := by
        rcases hStk with ⟨_, _, b, l, h1, h2, _⟩ | ⟨_, _, h2, _⟩
        · exact ⟨b, h2, HMS.out.1 b (by rw [h1]; simp)⟩
        · exact ⟨f, h2, HF.out⟩
      subst hff
      have okl2 : ∀ x ∈ ls2, BnOk x := by
        rcases hStk with ⟨_, _, b, l, h1, _, h2, _⟩ | ⟨_, _, _, h2, _⟩
        · intro x hx
          rw [h2] at hx
          rcases List.mem_append.1 hx with hx | hx
          · exact HOKL.out x hx
          · exact HMS.out.1 x (by rw [h1]; simp [hx])
        · rw [h2]; exact HOKL.out
      obtain rfl : ls2.length = mR := (BldV.lf hBr).len okl2
      have hl100 : ls2.length ≤ 100 := by
        rcases hStk with ⟨_, _, b, l, h1, _, h2, _⟩ | ⟨_, _, _, h2, _⟩
        · have h3 := HMS.out.2
          rw [h1, List.length_cons] at h3
          rw [h2, List.length_append, HML.out]; omega
        · rw [h2, HML.out]; omega
      obtain ⟨M1, hO1, hK1⟩ := (BldV.lf hBr).keep (BldV.new59 hBr) HOm.out hBr.own.fr
      rw [← HR.out] at hO1
      obtain ⟨Y1, hY1⟩ : ∃ Y1, Y1 = (cShelf (.bool hh) (bnC ff).toList (.slice r ls2.length rc) (.int .u16 la)).toArray := ⟨_, rfl⟩
      rw [← hY1]
      have YF1 : ShF Y1 hh (bnC ff) r ls2.length rc la := by rw [hY1]; exact shF okff
      obtain ⟨sy1, -, -, -, -, yal1, yon1⟩ := YF1
      have HY1 := Lib.hid hY1
      have HO1 := Lib.hid hO1
      have HK1' := Lib.hid hK1
      have HT1 := Lib.hid (HTm.out.fr0 hBr.own.fr)
      have HE := Lib.hid hE
      have HSTK := Lib.hid hStk
      have HOKF := Lib.hid okff
      have HOKL2 := Lib.hid okl2
      have HF1 := Lib.hid hBr.own.fr
      clear hY1 hO1 hK1 hE hStk okff okl2 hBr f11 f5 f14 f15 t11 t5 t14 t15 C28
      go_upto_region 26 with (fail)
      refine named_world (A := fun X => OwB w ((W1.heap.size, .cells Y1 68) :: (M1 ++ R)) X ∧ TwoT lo tb td X T ∧ Fr [] wr X) (Q := fun X => Code.wp _ _ _ _ X) ⟨HO1.out.allocN _ W1.heap.size rfl, HT1.out.fr0 ((Fr.refl [] W1).alloc _), HF1.out.alloc _⟩ ?_
      rintro W2 ⟨hO, hT, hF⟩
      generalize W1.heap.size = b21 at hO ⊢
      have hO2 : OwB w ((b21, .cells Y1 68) :: (M1 ++ (Nm ++ [(b17, Obj.cells (ints .u8 a2) 34), (b16, Obj.cells A 73), (b15, Obj.cells (ints .u8 k2) 34), (b14, Obj.cells (ints .u8 k1) 34), (b13, Obj.cells A 73), (b12, Obj.cells #[.pointer (some ⟨td, 0, none⟩)] 31), (b11, Obj.cells #[.pointer (some ⟨tb, 0, none⟩)] 27), (b5, Obj.cells xs 68)]))) W2 := by have h := hO; rw [HR.out, HLX.out] at h; exact h
      have f12 := hO2.mem (b := b12) (o := .cells #[.pointer (some ⟨td, 0, none⟩)] 31) (by simp)
      have f5 := hO2.mem (b := b5) (o := .cells xs 68) (by simp)
      have f14 := hO2.mem (b := b14) (o := .cells (ints .u8 k1) 34) (by simp)
      have f15 := hO2.mem (b := b15) (o := .cells (ints .u8 k2) 34) (by simp)
      have t12 := World.at_lt f12
      have t5 := World.at_lt f5
      have t14 := World.at_lt f14
      have t15 := World.at_lt f15
      have hasN : Has Nm W2 := fun q hq => hO.has q (by rw [HR.out]; simp [hq])
      have c29 : Calls Tryz.prog 29 #[SU td, .agg xs, .int .u8 (dv : Int), .agg (ints .u8 k1), .agg (ints .u8 k2), .slice pm i cm] W2 fun e w' => ∃ v, e = .returned v ∧ DStockR T dv k1 k2 hs f ls last p m cap ms W2 w' v := by
        rw [HXS.out]
        exact dstock_f hT.doc HF.out (HSL.out.fr0 hO.fr) HML.out (by omega) (HKm.out.2 W2 hasN) HMS.out.2 (by omega) HMS.out.1 lk1 lk2 hdv hl0 hl1
      have C29 := Lib.hid c29
      have HO2 := Lib.hid hO
      have HT2 := Lib.hid hT
      clear hO hT hF hO2 hasN c29
      go_wp2_with fail
      refine C29.out.mono ?_
      rintro e W3 ⟨v, rfl, r2, mR2, rc2, E2, hh2, ff2, lsd, la2, rfl, F3, -, hE2, hcase⟩
      obtain rfl : E = E2 := HE.out.trans hE2.symm
      obtain ⟨rfl, rfl, rfl, rfl⟩ : hh = hh2 ∧ ff = ff2 ∧ ls2 = lsd ∧ la = la2 := by
        rcases HSTK.out with ⟨h0, h1, b, l, h2, h3, h4, h5⟩ | ⟨h0, h1, h3, h4, h5⟩ <;> rcases hcase with ⟨k0, -, -, -, k1, k3, k4, k5⟩ | ⟨k0, -, k1, b', l', k2, k3, k4, k5⟩
        · exact absurd h0 k0
        · rw [h2] at k2
          simp only [List.cons.injEq] at k2
          obtain ⟨rfl, rfl⟩ := k2
          exact ⟨h1.trans k1.symm, (bnC_inj HOKF.out (HMS.out.1 b (by rw [h2]; simp)) (Array.toList_inj.1 h3)).trans k3.symm, h4.trans k4.symm, h5.trans k5.symm⟩
        · exact ⟨h1.trans k1.symm, (bnC_inj HOKF.out HF.out (Array.toList_inj.1 h3)).trans k3.symm, h4.trans k4.symm, h5.trans k5.symm⟩
        · exact absurd k0 h0
      obtain ⟨M2, rfl, hO3, hK2⟩ : ∃ M2, ls2.length = mR2 ∧ OwB w (M2 ++ ((b21, .cells Y1 68) :: (M1 ++ R))) W3 ∧ KeptA w r2 mR2 rc2 (bnsL ls2) M2 := by
        rcases hcase with ⟨k0, rfl, rfl, rfl, k1, k3, k4, k5⟩ | ⟨k0, B, k1, k2⟩
        · exact ⟨[], by rw [k4, HML.out], HO2.out.call F3, by rw [k4]; exact HSL.out.keptA⟩
        · obtain ⟨M2, h1, h2⟩ := (BldV.lf B).keep (BldV.new59 B) HO2.out B.own.fr
          exact ⟨M2, (BldV.lf B).len HOKL2.out, h1, h2.any⟩
      obtain ⟨Y2, hY2⟩ : ∃ Y2, Y2 = shC hh ff r2 ls2.length rc2 la := ⟨_, rfl⟩
      rw [← hY2]
      have YF2 : ShF Y2 hh (bnC ff) r2 ls2.length rc2 la := by rw [hY2]; exact shF HOKF.out
      obtain ⟨sy2, -, -, -, -, yal2, yon2⟩ := YF2
      have HY2 := Lib.hid hY2
      have HO3 := Lib.hid hO3
      have HK2' := Lib.hid hK2
      clear hY2 hO3 hK2 hE2 hcase f12 f5 f14 f15 t12 t5 t14 t15 C29 F3
      go_upto_region 27 with (fail)
      refine named_world (A := fun X => OwB w ((W3.heap.size, .cells Y2 68) :: (M2 ++ ((b21, .cells Y1 68) :: (M1 ++ R)))) X) (Q := fun X => Code.wp _ _ _ _ X) (HO3.out.allocN _ W3.heap.size rfl) ?_
      intro W4 hO4
      generalize W3.heap.size = b23 at hO4 ⊢
      have f23 := hO4.nth 0 rfl
      have f21 := hO4.mem (b := b21) (o := .cells Y1 68) (by simp)
      have t23 := World.at_lt f23
      have t21 := World.at_lt f21
      have c30 : Calls Tryz.prog 30 #[.agg Y1, .agg Y2] W4 fun e w' => e = .returned (.bool true) ∧ Fr [] W4 w' := by
        rw [HY1.out, HY2.out]
        exact dsame_t HOKF.out (HK1'.out.2 W4 (fun q hq => hO4.has q (by simp [hq]))) (HK2'.out.2 W4 hO4.fr (fun q hq => hO4.has q (by simp [hq]))) HOKL2.out rfl (by omega)
      have C30 := Lib.hid c30
      have dE : (E != E) = false := by simp
      have HO4 := Lib.hid hO4
      clear hO4 c30
      go_wp2_with fail
      refine C30.out.mono ?_
      rintro e W5 ⟨rfl, F5⟩
      have HO5 : Hid (OwB w (M2 ++ (M1 ++ ((b23, .cells (shC hh ff r2 ls2.length rc2 la) 68) :: (b21, .cells (shC hh ff r ls2.length rc la) 68) :: R))) W5) := Lib.hid (by
        have h := HO4.out.call F5
        rw [HY1.out, HY2.out] at h
        refine h.perm ?_
        refine (List.perm_middle (l₁ := [])).trans ?_
        exact own_perm _ _ _ _ _)
      have HK1A := Lib.hid (HK1'.out.any (w0 := w))
      clear F5 f23 f21 t23 t21 C30 HO4
      go_upto_region 30 with (fail)
      have HCS : Hid (ClaimS w b21 b23 hh ff la R W5) := Lib.hid ⟨ls2, r, rc, r2, rc2, M1, M2, HO5.out, HK1A.out, HK2'.out, HOKL2.out, hl100⟩
      clear HO5 HK1A HK2' HK1' HT2 HT1 HO1 HO3
      go_loopw [25] (fun v25 wy => ∃ k : Nat, k ≤ 12 ∧ v25 = .int .i64 (k : Int) ∧ Hid (ClaimS w b21 b23 hh ff la R wy)) (fun v25 _ => (12 - intOf v25).toNat)
      case atStart => exact ⟨0, by omega, rfl, HCS⟩
      case round =>
        clear HCS
        obtain ⟨k, hk12, rfl, hE⟩ := hrel
        go_upto_region 30 with (fail)
        go_cut [145, 146, 147, 148, 149] (fun _ _ _ _ v149 wy => ∃ t : Bool, v149 = .bool t ∧ (t = true → k < 12) ∧ wy = wr)
        case first =>
          go_wp2_with fail
          go_meet
          case rel => exact ⟨_, rfl, fun h => by have h2 := of_decide_eq_true h; omega, rfl⟩
        case rest =>
          obtain ⟨t, rfl, ht, rfl⟩ := hcut
          cases t with
          | false =>
            have HFW : Hid (Fr [] w wc) := Lib.hid (by obtain ⟨_, _, _, _, _, _, _, h, _⟩ := hE.out; exact h.fr)
            go_wp2_with fail
            exact bodyPost_ret (results_tmp rfl _ _ _) rfl ⟨rfl, HFW.out⟩
          | true =>
            have hk2 := ht rfl
            obtain ⟨lx, p1, c1, p2, c2, N1, N2, hO, hK1, hK2, okx, hlx⟩ := hE.out
            clear hE ht
            obtain ⟨X1, hX1⟩ : ∃ X1, X1 = shC hh ff p1 lx.length c1 la := ⟨_, rfl⟩
            obtain ⟨X2, hX2⟩ : ∃ X2, X2 = shC hh ff p2 lx.length c2 la := ⟨_, rfl⟩
            rw [← hX1, ← hX2] at hO
            obtain ⟨sx1, -, -, -, -, xal1, xon1⟩ : ShF X1 hh (bnC ff) p1 lx.length c1 la := by rw [hX1]; exact shF HOKF.out
            obtain ⟨sx2, -, -, -, -, xal2, xon2⟩ : ShF X2 hh (bnC ff) p2 lx.length c2 la := by rw [hX2]; exact shF HOKF.out
            have has1 : Has N1 wc := fun q hq => hO.has q (by simp [hq])
            have c31 := claim_x (last := la) (hs := hh) hO (hK1.2 wc hO.fr has1) okx rfl (by omega) HOKF.out
            rw [← hX1] at c31
            have C31 := Lib.hid c31
            have f21 := hO.mem (b := b21) (o := .cells X1 68) (by simp)
            have t21 := World.at_lt f21
            have HO := Lib.hid hO
            have HK2 := Lib.hid hK2
            have HX1 := Lib.hid hX1
            have HX2 := Lib.hid hX2
            have HOKX := Lib.hid okx
            clear hO hK1 hK2 hX1 hX2 okx has1 c31
            go_upto_region 32 with (fail)
            go_wp2_with fail
            refine C31.out.mono ?_
            rintro e W6 ⟨q1, m1, d1, u1, okb1, l1, Q1, rfl, rfl, hO1, hQ1, F1, hR1⟩
            obtain ⟨y1, oky1, hu1⟩ := hR1.bn HOKF.out HOKX.out
            obtain ⟨Z1, hZ1⟩ : ∃ Z1, Z1 = shC hh ff q1 l1.length d1 la := ⟨_, rfl⟩
            rw [← hZ1]
            obtain ⟨sz1, -, -, -, -, zal1, zon1⟩ : ShF Z1 hh (bnC ff) q1 l1.length d1 la := by rw [hZ1]; exact shF HOKF.out
            have su1 : u1.size = 162 := by rw [hu1]; exact bnC_size oky1
            have ual1 : u1.extract 0 162 = u1 := by rw [← su1]; exact Array.extract_size
            have uon1 : ones u1.toList = true := by rw [hu1]; exact List.all_eq_true.2 (cBundle_one _ _ _ _ _ _ rfl rfl)
            have hq65 : ∀ W : World, (Op.equalIn 10000 65 (.agg u1) (.agg u1)).run Tryz.prog W = .ok true W := fun W => by rw [hu1]; exact eq65 oky1 W
            have HO1 := Lib.hid hO1
            have HQ1 := Lib.hid hQ1
            have HR1 := Lib.hid hR1
            have HZ1 := Lib.hid hZ1
            clear hO1 hQ1 F1 hR1 oky1 hu1 hZ1 f21 t21 C31
            go_upto_region 33 with (fail)
            refine named_world (A := fun X => OwB w ((W6.heap.size + 1, .cells u1 65) :: (W6.heap.size, .cells Z1 68) :: (Q1 ++ (N2 ++ (N1 ++ ((b23, .cells X2 68) :: (b21, .cells X1 68) :: R))))) X) (Q := fun X => Code.wp _ _ _ _ X) ((HO1.out.allocN _ W6.heap.size rfl).allocN _ (W6.heap.size + 1) (by simp)) ?_
            intro W7 hO7
            generalize W6.heap.size + 1 = b27 at hO7 ⊢
            generalize W6.heap.size = b26 at hO7 ⊢
            have f23 := hO7.mem (b := b23) (o := .cells X2 68) (by simp)
            have t23 := World.at_lt f23
            have has2 : Has N2 W7 := fun q hq => hO7.has q (by simp [hq])
            have c32 := dclaim_x (last := la) (hs := hh) hO7 (HK2.out.2 W7 hO7.fr has2) HOKX.out rfl (by omega) HOKF.out
            rw [← HX2.out] at c32
            have C32 := Lib.hid c32
            clear hO7 has2 c32 HO1
            go_wp2_with fail
            refine C32.out.mono ?_
            rintro e W8 ⟨q2, m2, d2, u2, okb2, l2, Q2, rfl, rfl, hO2, hQ2, F2, hR2⟩
            obtain ⟨rfl, rfl, rfl⟩ := HR1.out.same hR2
            obtain ⟨Z2, hZ2⟩ : ∃ Z2, Z2 = shC hh ff q2 l1.length d2 la := ⟨_, rfl⟩
            rw [← hZ2]
            obtain ⟨sz2, -, -, -, -, zal2, zon2⟩ : ShF Z2 hh (bnC ff) q2 l1.length d2 la := by rw [hZ2]; exact shF HOKF.out
            have HO2 := Lib.hid hO2
            have HQ2 := Lib.hid hQ2
            have HZ2 := Lib.hid hZ2
            clear hO2 hQ2 F2 hR2 hZ2 f23 t23 C32
            go_upto_region 34 with (fail)
            refine named_world (A := fun X => OwB w ((W8.heap.size + 1, .cells u1 65) :: (W8.heap.size, .cells Z2 68) :: (Q2 ++ ((b27, .cells u1 65) :: (b26, .cells Z1 68) :: (Q1 ++ (N2 ++ (N1 ++ ((b23, .cells X2 68) :: (b21, .cells X1 68) :: R))))))) X) (Q := fun X => Code.wp _ _ _ _ X) ((HO2.out.allocN _ W8.heap.size rfl).allocN _ (W8.heap.size + 1) (by simp)) ?_
            intro W9 hO9
            generalize W8.heap.size + 1 = b30 at hO9 ⊢
            generalize W8.heap.size = b29 at hO9 ⊢
            have f30 := hO9.nth 0 rfl
            have f29 := hO9.nth 1 rfl
            have f27 := hO9.mem (b := b27) (o := .cells u1 65) (by simp)
            have f26 := hO9.mem (b := b26) (o := .cells Z1 68) (by simp)
            have t30 := World.at_lt f30
            have t29 := World.at_lt f29
            have t27 := World.at_lt f27
            have t26 := World.at_lt f26
            have okl1 : ∀ x ∈ l1, BnOk x := fun x hx => HOKX.out x (HR1.out.left.1 x hx)
            have hl1c : l1.length ≤ 100 := Nat.le_trans HR1.out.left.2 hlx
            have c30 : Calls Tryz.prog 30 #[.agg Z1, .agg Z2] W9 fun e w' => e = .returned (.bool true) ∧ Fr [] W9 w' := by
              rw [HZ1.out, HZ2.out]
              exact dsame_t HOKF.out (HQ1.out.2 W9 (fun q hq => hO9.has q (by simp [hq]))) (HQ2.out.2 W9 (fun q hq => hO9.has q (by simp [hq]))) okl1 rfl (by omega)
            have C30 := Lib.hid c30
            have HO9 := Lib.hid hO9
            have HOKL1 := Lib.hid okl1
            clear hO9 c30 okl1 HO2
            have dok : (okb1 != okb1) = false := by simp
            go_wp2_with fail
            refine C30.out.mono ?_
            rintro e W10 ⟨rfl, F10⟩
            have HO10 := Lib.hid (HO9.out.call F10)
            clear F10 f30 f29 f27 f26 t30 t29 t27 t26 C30 HO9
            have f29 := HO10.out.nth 1 rfl
            have f26 := HO10.out.mem (b := b26) (o := .cells Z1 68) (by simp)
            have hO3 : OwB w (Q2 ++ (Q1 ++ ((b23, .cells X2 68) :: (b21, .cells X1 68) :: R))) W10 := HO10.out.sub (.cons _ (.cons _ ((List.Sublist.refl Q2).append (.cons _ (.cons _ ((List.Sublist.refl Q1).append ((List.sublist_append_right _ _).trans (List.sublist_append_right _ _))))))))
            have f21 := hO3.mem (b := b21) (o := .cells X1 68) (by simp)
            have f23 := hO3.mem (b := b23) (o := .cells X2 68) (by simp)
            have t29 := World.at_lt f29
            have t26 := World.at_lt f26
            have t21 := World.at_lt f21
            have t23 := World.at_lt f23
            have ne := fun (x y : Nat) (o o2 : Obj) (h : List.Sublist [(x, o), (y, o2)] ((b30, Obj.cells u1 65) :: (b29, .cells Z2 68) :: (Q2 ++ ((b27, .cells u1 65) :: (b26, .cells Z1 68) :: (Q1 ++ (N2 ++ (N1 ++ ((b23, .cells X2 68) :: (b21, .cells X1 68) :: R)))))))) => (HO10.out.sub h).ne 0 1 rfl rfl (by decide)
            have n29a : b29 ≠ b21 := ne b29 b21 (.cells Z2 68) (.cells X1 68) (.cons _ (.cons_cons _ ((List.singleton_sublist.2 (by simp)))))
            have n29b : b29 ≠ b23 := ne b29 b23 (.cells Z2 68) (.cells X2 68) (.cons _ (.cons_cons _ ((List.singleton_sublist.2 (by simp)))))
            have n26 : List.Sublist [(b26, Obj.cells Z1 68)] ((b26, Obj.cells Z1 68) :: (Q1 ++ (N2 ++ N1))) := .cons_cons _ (List.nil_sublist _)
            have n26a : b26 ≠ b21 := ne b26 b21 (.cells Z1 68) (.cells X1 68) (.cons _ (.cons _ ((List.Sublist.cons _ (.cons_cons _ (List.singleton_sublist.2 (by simp)))).trans (List.sublist_append_right _ _))))
            have n26b : b26 ≠ b23 := ne b26 b23 (.cells Z1 68) (.cells X2 68) (.cons _ (.cons _ ((List.Sublist.cons _ (.cons_cons _ (List.singleton_sublist.2 (by simp)))).trans (List.sublist_append_right _ _))))
            have n213 : b23 ≠ b21 := (hO3.sub (L' := [(b23, .cells X2 68), (b21, .cells X1 68)]) (((List.Sublist.cons_cons _ (.cons_cons _ (List.nil_sublist _))).trans (List.sublist_append_right _ _)).trans (List.sublist_append_right _ _))).ne 0 1 rfl rfl (by decide)
            have m29a := n29a.symm
            have m29b := n29b.symm
            have m26a := n26a.symm
            have m26b := n26b.symm
            have m213 := n213.symm
            have HO3 := Lib.hid hO3
            have wk : IntKind.i64.wrap ((k : Int) + 1) = ((k + 1 : Nat) : Int) := by rw [IntKind.wrap_i64]; omega
            clear hO3 ne n26
            go_upto_region 36 with (fail)
            refine drawn_begin 4 (fun w' => w'.blk b26 = some (.cells Z1 68) ∧ w'.blk b29 = some (.cells Z2 68)) (by kernel_rfl) ?_
            refine drawn_reads (fuel := 2) [0, 1] rfl (by kernel_rfl) ⟨f26, f29⟩ ?_
            repeat (first | (refine rowK_step2 rfl rfl (fun K hK => ?_); go_wp2) | (refine rowK_step rfl (fun K hK => ?_); go_simp; refine hK _ ?_; clear hK K))
            refine rowK_nil ⟨fun w' e1 => ?_, ?_⟩
            · obtain ⟨e1, e2⟩ := e1
              clear f26 f29 f21 f23 t26 t29 t21 t23
              repeat (first | (refine rowWp_step2 rfl rfl (fun K hK => ?_); go_wp2) | (refine rowWp_step rfl (fun K hK => ?_); go_simp; refine hK _ ?_; clear hK K))
              exact rowWp_nil rfl
            refine drawn_next 2 (fuel := 1) rfl (by kernel_rfl) ?_
            intro K hK
            go_wp2_with fail
            refine ⟨⟨by go_simp, by go_simp⟩, ?_⟩
            refine drawn_next 3 (fuel := 0) rfl (by kernel_rfl) ?_
            intro K hK
            go_wp2_with fail
            refine ⟨⟨by go_simp, by go_simp⟩, ?_⟩
            refine drawn_end (ol := []) rfl (by kernel_rfl) ?_
            intro K hK
            clear f26 f29 f21 f23 t26 t29 t21 t23
            have hfin := (own_two HO3.out (.cells Z2 68) (.cells Z1 68)).drew
            rw [HZ1.out, HZ2.out] at hfin
            have HFIN : Hid (ClaimS w b21 b23 hh ff la R ((W10.put b21 (.cells Z1 68)).put b23 (.cells Z2 68)).drew) := Lib.hid (by
              rw [HZ1.out, HZ2.out]
              exact ⟨l1, q1, d1, q2, d2, Q1, Q2, hfin, HQ1.out.any, HQ2.out.any, HOKL1.out, hl1c⟩)
            clear hfin
            go_upto_region 31 with (fail)
            refine named_world (A := fun X => ClaimS w b21 b23 hh ff la R X) (Q := fun X => Code.wp _ _ _ _ X) HFIN.out ?_
            intro W11 hE11
            have HE11 := Lib.hid hE11
            clear hE11 HFIN
            go_wp2_with fail
            go_roundw
            case rel => exact ⟨k + 1, by omega, by first | rfl | simp, HE11⟩
            case measure => simp [intOf]; omega
end
end Go.Proofs.YtbhnfohoclcjdaaGreat
