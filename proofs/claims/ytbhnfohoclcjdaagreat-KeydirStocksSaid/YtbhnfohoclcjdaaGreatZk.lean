/- Joined: DcH, DcI, DcJ, DcO, DcP, KeN, KeP, DcK, DcL, DcM. -/
import Derived.Test.YtbhnfohoclcjdaaGreatZj
import Derived.Test.YtbhnfohoclcjdaaGreatRows
import Derived.ProofKit
import Derived.OpenShut
import Derived.Deep.Slices
import Derived.Test.YtbhnfohoclcjdaaGreatZi
import Derived.Test.YtbhnfohoclcjdaaGreatZg
set_option linter.unusedVariables false
set_option linter.unusedSimpArgs false
namespace Go.Proofs.YtbhnfohoclcjdaaGreat
open Go.RowKit Go.Dr Go.Kd
section
variable {w : World}
set_option maxRecDepth 100000 in
set_option maxHeartbeats 2000000 in
theorem dnew_x {lo tb : Nat} {T : List Tm} {a b c : List Int} (h : DTabP lo tb w T) (ha : Key32 a) (hb : Key32 b) (hc : Key32 c) :
    Calls Tryz.prog 23 #[SU tb, .agg (ints .u8 a), .agg (ints .u8 b), .agg (ints .u8 c)] w fun e w' => ∃ x y z T', e = .returned (.agg (acC x y z)) ∧ Key32 x ∧ Key32 y ∧ Key32 z ∧ (DTabP lo tb w' T' ∧ Hid (NewR T a b c x y z T')) ∧ FrD lo w w' := by
  have H := Lib.hid h
  have HA := Lib.hid ha
  have HB := Lib.hid hb
  have HC := Lib.hid hc
  have la := ha.len
  have lb := hb.len
  have lc := hc.len
  clear h ha hb hc
  have z73 : Tryz.zeroCells73.size = 99 := by kernel_rfl
  obtain ⟨A0, hA0⟩ : ∃ A0, A0 = acC (zs 32) (zs 32) (zs 32) := ⟨_, rfl⟩
  have eA0 : Tryz.zeroCells73.setIfInBounds 98 (.int .u16 1) = A0 := by rw [hA0]; kernel_rfl
  have sA0 : A0.size = 99 := by rw [hA0]; kernel_rfl
  have HA0 := Lib.hid hA0
  have allA0 : A0.extract 0 99 = A0 := by rw [← sA0]; exact Array.extract_size
  have oneA0 : ones A0.toList = true := by rw [hA0]; kernel_rfl
  clear hA0
  go_enter Tryz.func23, Tryz.ntmps23
  go_upto_region 2 with (fail)
  have l9 : w.heap.size ≤ w.heap.size + 1 + 1 + 1 + 1 + 1 := by omega
  have l8 : w.heap.size ≤ w.heap.size + 1 + 1 + 1 + 1 := by omega
  refine named_world (A := fun X => OwB w.void [(w.heap.size + 1 + 1 + 1 + 1 + 1, .cells A0 73), (w.heap.size + 1 + 1 + 1 + 1, .cells Tryz.zeroCells73 73), (w.heap.size + 1 + 1 + 1, .cells (ints .u8 c) 33), (w.heap.size + 1 + 1, .cells (ints .u8 b) 33), (w.heap.size + 1, .cells (ints .u8 a) 33), (w.heap.size, .cells #[.pointer (some ⟨tb, 0, none⟩)] 31)] X ∧ DTabP lo tb X T ∧ FrD lo w X) (Q := fun X => Code.wp _ _ _ _ X) ⟨(((((((OwB.hold w).allocN _ (w.heap.size) (by simp)).allocN _ (w.heap.size + 1) (by simp)).allocN _ (w.heap.size + 1 + 1) (by simp)).allocN _ (w.heap.size + 1 + 1 + 1) (by simp)).allocN _ (w.heap.size + 1 + 1 + 1 + 1) (by simp)).allocN _ (w.heap.size + 1 + 1 + 1 + 1 + 1) (by simp)), H.out.fr0 (((((((Fr.refl [] w).alloc _).alloc _).alloc _).alloc _).alloc _).alloc _), .of (((((((Fr.refl [] w).alloc _).alloc _).alloc _).alloc _).alloc _).alloc _)⟩ ?_
  rintro V0 ⟨hV, hT, hF⟩
  generalize w.heap.size + 1 + 1 + 1 + 1 + 1 = b9 at hV l9 ⊢
  generalize w.heap.size + 1 + 1 + 1 + 1 = b8 at hV l8 ⊢
  generalize w.heap.size + 1 + 1 + 1 = b7 at hV ⊢
  generalize w.heap.size + 1 + 1 = b6 at hV ⊢
  generalize w.heap.size + 1 = b5 at hV ⊢
  generalize w.heap.size = b4 at hV ⊢
  have HV0 := Lib.hid hV
  have HT0 := Lib.hid hT
  have HF0 := Lib.hid hF
  clear hV hT hF eA0
  have f4 := HV0.out.nth 5 rfl
  have fx := HV0.out.nth 4 rfl
  have t4 := World.at_lt f4
  have tx := World.at_lt fx
  go_wp2_with fail
  refine (dfresh_x HT0.out HA.out).mono ?_
  rintro e W1 ⟨k1, T1, hm1, rfl, hk1, hT, F⟩
  have HVx := Lib.hid (HV0.out.callT F (by simp [other, DT]) (Nat.zero_le _))
  have HTx := Lib.hid hT
  have HFx := Lib.hid (HF0.out.trans F)
  have lk1 := hk1.len
  have sk1 : (ints .u8 k1).size = 32 := by rw [size_ints, lk1]
  have HK1 := Lib.hid hk1
  clear f4 fx t4 tx hT F hk1
  have f9 := HVx.out.nth 0 rfl
  have t9 := World.at_lt f9
  obtain ⟨A1, hA1⟩ : ∃ A1, A1 = acC k1 (zs 32) (zs 32) := ⟨_, rfl⟩
  have eA1 : spl A0 0 (k1.map (Value.int .u8)) = A1 := by rw [hA1, HA0.out]; exact cAccount_spl_agree _ _ _ _ _ _ _ rfl rfl rfl lk1
  have sA1 : A1.size = 99 := by rw [hA1, List.size_toArray, cAccount_length _ _ _ _ _ _ (by first | exact lk1 | rfl) (by first | exact lk2 | rfl) (by first | exact lk3 | rfl)]
  have allA1 : A1.extract 0 99 = A1 := by rw [← sA1]; exact Array.extract_size
  have oneA1 : ones A1.toList = true := by rw [hA1]; exact List.all_eq_true.2 (cAccount_one _ _ _ _ _ _ rfl rfl rfl)
  have HA1 := Lib.hid hA1
  clear hA1
  go_upto_region 3 with (fail)
  refine named_world (A := fun X => OwB w.void [(b9, .cells A1 73), (b8, .cells Tryz.zeroCells73 73), (b7, .cells (ints .u8 c) 33), (b6, .cells (ints .u8 b) 33), (b5, .cells (ints .u8 a) 33), (b4, .cells #[.pointer (some ⟨tb, 0, none⟩)] 31)] X ∧ DTabP lo tb X T1 ∧ FrD lo w X) (Q := fun X => Code.wp _ _ _ _ X) ⟨HVx.out.set 0 _ rfl, HTx.out.put f9 (by decide) _, HFx.out.put _ l9⟩ ?_
  rintro V1 ⟨hV, hT, hF⟩
  clear f9 t9 eA1
  have HV1 := Lib.hid hV
  have HT1 := Lib.hid hT
  have HF1 := Lib.hid hF
  clear hV hT hF HVx HTx HFx
  have f4 := HV1.out.nth 5 rfl
  have fx := HV1.out.nth 3 rfl
  have t4 := World.at_lt f4
  have tx := World.at_lt fx
  go_wp2_with fail
  refine (dfresh_x HT1.out HB.out).mono ?_
  rintro e W2 ⟨k2, T2, hm2, rfl, hk2, hT, F⟩
  have HVx := Lib.hid (HV1.out.callT F (by simp [other, DT]) (Nat.zero_le _))
  have HTx := Lib.hid hT
  have HFx := Lib.hid (HF1.out.trans F)
  have lk2 := hk2.len
  have sk2 : (ints .u8 k2).size = 32 := by rw [size_ints, lk2]
  have HK2 := Lib.hid hk2
  clear f4 fx t4 tx hT F hk2
  have f9 := HVx.out.nth 0 rfl
  have t9 := World.at_lt f9
  obtain ⟨A2, hA2⟩ : ∃ A2, A2 = acC k1 k2 (zs 32) := ⟨_, rfl⟩
  have eA2 : spl A1 32 (k2.map (Value.int .u8)) = A2 := by rw [hA2, HA1.out]; exact cAccount_spl_sign _ _ _ _ _ _ _ lk1 rfl rfl lk2
  have sA2 : A2.size = 99 := by rw [hA2, List.size_toArray, cAccount_length _ _ _ _ _ _ (by first | exact lk1 | rfl) (by first | exact lk2 | rfl) (by first | exact lk3 | rfl)]
  have allA2 : A2.extract 0 99 = A2 := by rw [← sA2]; exact Array.extract_size
  have oneA2 : ones A2.toList = true := by rw [hA2]; exact List.all_eq_true.2 (cAccount_one _ _ _ _ _ _ rfl rfl rfl)
  have HA2 := Lib.hid hA2
  clear hA2
  go_upto_region 4 with (fail)
  refine named_world (A := fun X => OwB w.void [(b9, .cells A2 73), (b8, .cells Tryz.zeroCells73 73), (b7, .cells (ints .u8 c) 33), (b6, .cells (ints .u8 b) 33), (b5, .cells (ints .u8 a) 33), (b4, .cells #[.pointer (some ⟨tb, 0, none⟩)] 31)] X ∧ DTabP lo tb X T2 ∧ FrD lo w X) (Q := fun X => Code.wp _ _ _ _ X) ⟨HVx.out.set 0 _ rfl, HTx.out.put f9 (by decide) _, HFx.out.put _ l9⟩ ?_
  rintro V2 ⟨hV, hT, hF⟩
  clear f9 t9 eA2
  have HV2 := Lib.hid hV
  have HT2 := Lib.hid hT
  have HF2 := Lib.hid hF
  clear hV hT hF HVx HTx HFx
  have f4 := HV2.out.nth 5 rfl
  have fx := HV2.out.nth 2 rfl
  have t4 := World.at_lt f4
  have tx := World.at_lt fx
  go_wp2_with fail
  refine (dfresh_x HT2.out HC.out).mono ?_
  rintro e W3 ⟨k3, T3, hm3, rfl, hk3, hT, F⟩
  have HVx := Lib.hid (HV2.out.callT F (by simp [other, DT]) (Nat.zero_le _))
  have HTx := Lib.hid hT
  have HFx := Lib.hid (HF2.out.trans F)
  have lk3 := hk3.len
  have sk3 : (ints .u8 k3).size = 32 := by rw [size_ints, lk3]
  have HK3 := Lib.hid hk3
  clear f4 fx t4 tx hT F hk3
  have f9 := HVx.out.nth 0 rfl
  have t9 := World.at_lt f9
  obtain ⟨A3, hA3⟩ : ∃ A3, A3 = acC k1 k2 k3 := ⟨_, rfl⟩
  have eA3 : spl A2 65 (k3.map (Value.int .u8)) = A3 := by rw [hA3, HA2.out]; exact cAccount_spl_fsec _ _ _ _ _ _ _ lk1 lk2 rfl lk3
  have sA3 : A3.size = 99 := by rw [hA3, List.size_toArray, cAccount_length _ _ _ _ _ _ (by first | exact lk1 | rfl) (by first | exact lk2 | rfl) (by first | exact lk3 | rfl)]
  have allA3 : A3.extract 0 99 = A3 := by rw [← sA3]; exact Array.extract_size
  have oneA3 : ones A3.toList = true := by rw [hA3]; exact List.all_eq_true.2 (cAccount_one _ _ _ _ _ _ rfl rfl rfl)
  have HA3 := Lib.hid hA3
  clear hA3
  go_upto_region 5 with (fail)
  refine named_world (A := fun X => OwB w.void [(b9, .cells A3 73), (b8, .cells Tryz.zeroCells73 73), (b7, .cells (ints .u8 c) 33), (b6, .cells (ints .u8 b) 33), (b5, .cells (ints .u8 a) 33), (b4, .cells #[.pointer (some ⟨tb, 0, none⟩)] 31)] X ∧ DTabP lo tb X T3 ∧ FrD lo w X) (Q := fun X => Code.wp _ _ _ _ X) ⟨HVx.out.set 0 _ rfl, HTx.out.put f9 (by decide) _, HFx.out.put _ l9⟩ ?_
  rintro V3 ⟨hV, hT, hF⟩
  clear f9 t9 eA3
  have HV3 := Lib.hid hV
  have HT3 := Lib.hid hT
  have HF3 := Lib.hid hF
  clear hV hT hF HVx HTx HFx
  have f9 := HV3.out.nth 0 rfl
  have f8 := HV3.out.nth 1 rfl
  have t9 := World.at_lt f9
  have t8 := World.at_lt f8
  have n89 := HV3.out.ne 1 0 rfl rfl (by decide)
  have n98 := n89.symm
  go_wp2_with fail
  refine ret_cell rfl rfl rfl ?_
  go_simp
  refine ⟨by kernel_rfl, k1, k2, k3, HA3.out, HK1.out, HK2.out, HK3.out, ?_, HF3.out.put _ l8⟩
  exact ⟨T3, HT3.out.put f8 (by decide) _, Lib.hid ⟨T1, T2, hm1.out, hm2.out, hm3.out⟩⟩
end
end Go.Proofs.YtbhnfohoclcjdaaGreat
namespace Go.Proofs.YtbhnfohoclcjdaaGreat
open Go.RowKit Go.Dr Go.Kd
theorem fields65 : (Tryz.prog.fieldsOf 65).toList.map (fun f => (f.name == "_", f.type, f.offset)) = [(false, 5, 0), (false, 34, 1), (false, 34, 33), (false, 63, 65), (false, 34, 66), (false, 45, 98)] := by kernel_rfl
theorem und65 : Tryz.prog.underlying 65 = some (.struct (Tryz.prog.fieldsOf 65)) := by kernel_rfl
theorem stood65 : Tryz.prog.stoodInHeld 65 = false := by kernel_rfl
theorem eq45 (a b : List Int) (ha : a.length = 64) (hb : b.length = 64) (w : World) (d : Nat) : (Op.equalIn (d + 2) 45 (.agg (ints .u8 a)) (.agg (ints .u8 b))).run Tryz.prog w = .ok (decide (a = b)) w :=
  let ⟨_, hi⟩ := exInfo5
  run_eq_ints d .u8 .u8 Tryz.underlying45 hi (by kernel_rfl) Tryz.underlying5 (fun w => by kernel_rfl) a b ha hb w
theorem eq34 (a b : List Int) (ha : a.length = 32) (hb : b.length = 32) (w : World) (d : Nat) : (Op.equalIn (d + 2) 34 (.agg (ints .u8 a)) (.agg (ints .u8 b))).run Tryz.prog w = .ok (decide (a = b)) w :=
  let ⟨_, hi⟩ := exInfo5
  run_eq_ints d .u8 .u8 Tryz.underlying34 hi (by kernel_rfl) Tryz.underlying5 (fun w => by kernel_rfl) a b ha hb w
theorem eqFields_pass {d : Nat} {xs ys : Array Value} {f : Field} {fs : List Field} {w : World} {v u : Value} (hn : (f.name == "_") = false) (hx : (part f.type xs f.offset).run Tryz.prog w = .ok v w) (hy : (part f.type ys f.offset).run Tryz.prog w = .ok u w) (he : (Op.equalIn d f.type v u).run Tryz.prog w = .ok true w) (h : (Op.eqFields d xs ys fs).run Tryz.prog w = .ok true w) :
    (Op.eqFields d xs ys (f :: fs)).run Tryz.prog w = .ok true w := by
  have hn' : f.name ≠ "_" := by simpa using hn
  simp [Op.eqFields, hn', hx, hy, he, h]
theorem part_key {xs : Array Value} {o : Nat} {a : List Int} {w : World} (h : xs.extract o (o + 32) = ints .u8 a) (hs : o + 32 ≤ xs.size) : (part 34 xs o).run Tryz.prog w = .ok (.agg (ints .u8 a)) w := by
  have h1 : ∀ w, (isAgg 34).run Tryz.prog w = .ok true w := fun w => by kernel_rfl
  have h2 : ∀ w, (sizeOf 34).run Tryz.prog w = .ok 32 w := fun w => by kernel_rfl
  simp [part, h1, h2, h, hs]
theorem part_sig {xs : Array Value} {o : Nat} {a : List Int} {w : World} (h : xs.extract o (o + 64) = ints .u8 a) (hs : o + 64 ≤ xs.size) : (part 45 xs o).run Tryz.prog w = .ok (.agg (ints .u8 a)) w := by
  have h1 : ∀ w, (isAgg 45).run Tryz.prog w = .ok true w := fun w => by kernel_rfl
  have h2 : ∀ w, (sizeOf 45).run Tryz.prog w = .ok 64 w := fun w => by kernel_rfl
  simp [part, h1, h2, h, hs]
theorem part_u8 {xs : Array Value} {o : Nat} {v : Value} {w : World} (h : xs[o]? = some v) : (part 5 xs o).run Tryz.prog w = .ok v w := by
  have h1 : ∀ w, (isAgg 5).run Tryz.prog w = .ok false w := fun w => by kernel_rfl
  simp [part, h1, h]
theorem part_u16 {xs : Array Value} {o : Nat} {v : Value} {w : World} (h : xs[o]? = some v) : (part 63 xs o).run Tryz.prog w = .ok v w := by
  have h1 : ∀ w, (isAgg 63).run Tryz.prog w = .ok false w := fun w => by kernel_rfl
  simp [part, h1, h]
theorem eq65 {x : Bn} (hx : BnOk x) (w : World) : (Op.equalIn 10000 65 (.agg (bnC x)) (.agg (bnC x))).run Tryz.prog w = .ok true w := by
  rw [run_equalIn_agg (w := w) (P := Tryz.prog) 9999 65 _ _ und65 stood65]
  obtain ⟨fs, hfs⟩ : ∃ fs, fs = (Tryz.prog.fieldsOf 65).toList := ⟨_, rfl⟩
  have hf := fields65
  rw [← hfs] at hf ⊢
  clear hfs
  obtain ⟨xs, hxs⟩ : ∃ xs, xs = bnC x := ⟨_, rfl⟩
  have hsz : xs.size = 162 := by rw [hxs]; exact bnC_size hx
  have g0 : xs[0]? = some (.int .u8 x.device) := by rw [hxs]; exact cBundle_get_device _ _ _ _ _ _ hx.al hx.sl hx.ol hx.gl
  have g1 : xs.extract 1 33 = ints .u8 x.agree := by rw [hxs]; exact cBundle_ext_agree _ _ _ _ _ _ hx.al hx.sl hx.ol hx.gl
  have g2 : xs.extract 33 65 = ints .u8 x.signer := by rw [hxs]; exact cBundle_ext_signer _ _ _ _ _ _ hx.al hx.sl hx.ol hx.gl
  have g3 : xs[65]? = some (.int .u16 x.id) := by rw [hxs]; exact cBundle_get_id _ _ _ _ _ _ hx.al hx.sl hx.ol hx.gl
  have g4 : xs.extract 66 98 = ints .u8 x.once := by rw [hxs]; exact cBundle_ext_once _ _ _ _ _ _ hx.al hx.sl hx.ol hx.gl
  have g5 : xs.extract 98 162 = ints .u8 x.sig := by rw [hxs]; exact cBundle_ext_sig _ _ _ _ _ _ hx.al hx.sl hx.ol hx.gl
  rw [← hxs]
  rcases fs with _ | ⟨f0, _ | ⟨f1, _ | ⟨f2, _ | ⟨f3, _ | ⟨f4, _ | ⟨f5, _ | ⟨f6, fs⟩⟩⟩⟩⟩⟩⟩ <;> simp only [List.map_nil, List.map_cons, List.cons.injEq, Prod.mk.injEq, reduceCtorEq, and_true, and_false, List.nil_eq] at hf
  obtain ⟨⟨n0, t0, o0⟩, ⟨n1, t1, o1⟩, ⟨n2, t2, o2⟩, ⟨n3, t3, o3⟩, ⟨n4, t4, o4⟩, n5, t5, o5⟩ := hf
  refine eqFields_pass n0 (by rw [t0, o0]; exact part_u8 g0) (by rw [t0, o0]; exact part_u8 g0) (by rw [t0]; rw [run_equalIn_int w 9998 5 .u8 .u8 _ _ Tryz.underlying5]; simp) ?_
  refine eqFields_pass n1 (by rw [t1, o1]; exact part_key g1 (by omega)) (by rw [t1, o1]; exact part_key g1 (by omega)) (by rw [t1, eq34 _ _ hx.al hx.al w 9997]; simp) ?_
  refine eqFields_pass n2 (by rw [t2, o2]; exact part_key g2 (by omega)) (by rw [t2, o2]; exact part_key g2 (by omega)) (by rw [t2, eq34 _ _ hx.sl hx.sl w 9997]; simp) ?_
  refine eqFields_pass n3 (by rw [t3, o3]; exact part_u16 g3) (by rw [t3, o3]; exact part_u16 g3) (by rw [t3]; rw [run_equalIn_int w 9998 63 .u16 .u16 _ _ Tryz.underlying63]; simp) ?_
  refine eqFields_pass n4 (by rw [t4, o4]; exact part_key g4 (by omega)) (by rw [t4, o4]; exact part_key g4 (by omega)) (by rw [t4, eq34 _ _ hx.ol hx.ol w 9997]; simp) ?_
  refine eqFields_pass n5 (by rw [t5, o5]; exact part_sig g5 (by omega)) (by rw [t5, o5]; exact part_sig g5 (by omega)) (by rw [t5, eq45 _ _ hx.gl hx.gl w 9997]; simp) ?_
  simp [Op.eqFields]
end Go.Proofs.YtbhnfohoclcjdaaGreat
namespace Go.Proofs.YtbhnfohoclcjdaaGreat
open Go.RowKit Go.Dr Go.Kd
abbrev shC (hs : Bool) (f : Bn) (p : Option Addr) (n c : Nat) (last : Int) : Array Value := (cShelf (.bool hs) (bnC f).toList (.slice p n c) (.int .u16 last)).toArray
/-- What a shelf's cells are. -/
structure ShF (xs : Array Value) (hs : Bool) (F : Array Value) (p : Option Addr) (n c : Nat) (last : Int) : Prop where
  sz : xs.size = 165
  g0 : ∃ h : 0 < xs.size, xs[0] = .bool hs
  g1 : xs.extract 1 163 = F
  g2 : ∃ h : 163 < xs.size, xs[163] = .slice p n c
  g3 : ∃ h : 164 < xs.size, xs[164] = .int .u16 last
  al : xs.extract 0 165 = xs
  on : ones xs.toList = true
theorem shF {hs : Bool} {f : Bn} {p : Option Addr} {n c : Nat} {last : Int} (hf : BnOk f) : ShF (shC hs f p n c last) hs (bnC f) p n c last := by
  have hl : (bnC f).toList.length = 162 := by rw [Array.length_toList, bnC_size hf]
  have hz : (shC hs f p n c last).size = 165 := by rw [List.size_toArray, cShelf_length _ _ _ _ hl]
  exact ⟨hz, Array.getElem?_eq_some_iff.1 (cShelf_get_has _ _ _ _ hl), (cShelf_ext_fall _ _ _ _ hl).trans (by simp), Array.getElem?_eq_some_iff.1 (cShelf_get_left _ _ _ _ hl), Array.getElem?_eq_some_iff.1 (cShelf_get_last _ _ _ _ hl), by rw [← hz]; exact Array.extract_size, List.all_eq_true.2 (cShelf_one _ _ _ _ rfl (cBundle_one _ _ _ _ _ _ rfl rfl) rfl rfl)⟩
section
variable {w : World}
set_option maxRecDepth 100000 in
set_option maxHeartbeats 2000000 in
theorem dsame_t {hs : Bool} {f : Bn} {p q : Option Addr} {n c d : Nat} {last : Int} {ls : List Bn} (hf : BnOk f) (S : Lf w p n c (bnsL ls)) (R : Lf w q n d (bnsL ls)) (hls : ∀ x ∈ ls, BnOk x) (hl : ls.length = n) (hn : n ≤ 1000000) :
    Calls Tryz.prog 30 #[.agg (shC hs f p n c last), .agg (shC hs f q n d last)] w fun e w' => e = .returned (.bool true) ∧ Fr [] w w' := by
  obtain ⟨xs, hxs⟩ : ∃ xs, xs = shC hs f p n c last := ⟨_, rfl⟩
  obtain ⟨ys, hys⟩ : ∃ ys, ys = shC hs f q n d last := ⟨_, rfl⟩
  obtain ⟨F, hF⟩ : ∃ F, F = bnC f := ⟨_, rfl⟩
  have X : ShF xs hs F p n c last := by rw [hxs, hF]; exact shF hf
  have Y : ShF ys hs F q n d last := by rw [hys, hF]; exact shF hf
  have eqF : ∀ W : World, (Op.equalIn 10000 65 (.agg F) (.agg F)).run Tryz.prog W = .ok true W := fun W => by rw [hF]; exact eq65 hf W
  have szF : F.size = 162 := by rw [hF]; exact bnC_size hf
  rw [← hxs, ← hys]
  have HS := Lib.hid S
  have HR := Lib.hid R
  have HLS := Lib.hid hls
  have HL := Lib.hid hl
  clear hxs hys hF S R hls hl hf
  obtain ⟨sx, ⟨x0, x0'⟩, x1, ⟨x2, x2'⟩, ⟨x3, x3'⟩, _, _⟩ := X
  obtain ⟨sy, ⟨y0, y0'⟩, y1, ⟨y2, y2'⟩, ⟨y3, y3'⟩, _, _⟩ := Y
  go_enter Tryz.func30, Tryz.ntmps30
  go_upto_region 1 with (fail)
  refine named_world (A := fun X => OwB w [(w.heap.size + 1, .cells ys 68), (w.heap.size, .cells xs 68)] X) (Q := fun X => Code.wp _ _ _ _ X) (((OwB.start w).allocN _ w.heap.size rfl).allocN _ (w.heap.size + 1) (by simp)) ?_
  intro V hV
  generalize w.heap.size + 1 = b3 at hV ⊢
  generalize w.heap.size = b2 at hV ⊢
  have f3 := hV.nth 0 rfl
  have f2 := hV.nth 1 rfl
  have t3 := World.at_lt f3
  have t2 := World.at_lt f2
  have HV := Lib.hid hV
  clear hV
  have dn : ((n : Int) != (n : Int)) = false := by simp
  go_wp2_with fail
  go_loopw [5] (fun iv wy => ∃ i : Nat, i ≤ n ∧ iv = .int .i64 (i : Int) ∧ Hid (OwB w [(b3, .cells ys 68), (b2, .cells xs 68)] wy)) (fun iv _ => (n - intOf iv).toNat)
  case atStart => exact ⟨0, by omega, rfl, HV⟩
  case round =>
    clear f3 f2 t3 t2 HV
    obtain ⟨i, hi9, rfl, hO⟩ := hrel
    have f3 := hO.out.nth 0 rfl
    have f2 := hO.out.nth 1 rfl
    have t3 := World.at_lt f3
    have t2 := World.at_lt f2
    by_cases hlt : i < n
    · have hd : decide ((i : Int) < (n : Int)) = true := by rw [decide_eq_true_eq]; omega
      obtain ⟨y, b, o, cs, TT, fr, hy, rfl, g1, hs1, hs2, hx⟩ := (HS.out.fr0 hO.out.fr).elem HLS.out HL.out hlt
      obtain ⟨y', b', o', cs', TT', fr', hy', rfl, g1', hs1', hs2', hx'⟩ := (HR.out.fr0 hO.out.fr).elem HLS.out HL.out hlt
      rw [hy] at hy'
      simp only [Option.some.injEq] at hy'
      subst hy'
      have oky := HLS.out y (List.mem_of_getElem? hy)
      obtain ⟨B, hB⟩ : ∃ B, B = bnC y := ⟨_, rfl⟩
      rw [← hB] at hx hx'
      have eqB : ∀ W : World, (Op.equalIn 10000 65 (.agg B) (.agg B)).run Tryz.prog W = .ok true W := fun W => by rw [hB]; exact eq65 oky W
      have szB : B.size = 162 := by rw [hB]; exact bnC_size oky
      have u1 := World.at_lt g1
      have u1' := World.at_lt g1'
      have wi : IntKind.i64.wrap ((i : Int) + 1) = ((i + 1 : Nat) : Int) := by rw [IntKind.wrap_i64]; omega
      clear hB hy oky
      go_upto_region 6 with (fail)
      refine wp_region_quiet_all (C := fun w' => ∃ _ : Unit, w' = wr.drew) (by kernel_rfl) (by kernel_rfl) ⟨(), rfl⟩ ?_
      repeat (go_big_quiet_step (fail))
      refine wpQuiet_nil ?_
      intro _ hw'
      obtain ⟨_, rfl⟩ := hw'
      have HO1 := Lib.hid hO.out.drew
      clear f3 f2 t3 t2 g1 g1' u1 u1' hx hx'
      go_wp2_with fail
      go_roundw
      case rel => exact ⟨i + 1, by omega, by first | rfl | simp, HO1⟩
      case measure => simp [intOf]; omega
    · obtain rfl : i = n := by omega
      have hd : decide ((i : Int) < (i : Int)) = false := by simp
      go_wp2_with fail
      exact bodyPost_ret (results_tmp rfl _ _ _) rfl ⟨rfl, hO.out.fr⟩
end
end Go.Proofs.YtbhnfohoclcjdaaGreat
namespace Go.Proofs.YtbhnfohoclcjdaaGreat
open Go.ChangeShapes Go.WideShapes Go.ChangeAt Go.RowKit Go.Dr Go.Kd
theorem own : ownKnob Tryz.prog.godebug = none := by kernel_rfl
theorem laidOut : laidOutB Tryz.prog = true := by kernel_rfl
theorem Fr.below {W W' : World} (h : Fr [] W W') : Below W.heap.size W W' :=
  ⟨h.os, h.tape, h.output, h.size, fun k hk => h.at_ k hk (by simp)⟩
/-- A cell of a number's type. -/
theorem int_cell {P : Program} {w : World} {r : Reach} {base u : Nat} {v : Value} {k : IntKind} (h : Cell.okWide P w r base u v) (hu : P.underlying u = some (.int k)) : ∃ n, v = .int k n ∧ k.has n := by
  unfold Cell.okWide at h
  rw [hu] at h
  cases v <;> simp only [Cell.ok, hu] at h <;> first | exact h.elim | skip
  obtain ⟨rfl, h⟩ := h
  exact ⟨_, rfl, h⟩
theorem slice_cell {P : Program} {w : World} {r : Reach} {base u e : Nat} {v : Value} (h : Cell.okWide P w r base u v) (hu : P.underlying u = some (.slice e)) : ∃ p n c, v = .slice p n c := by
  unfold Cell.okWide at h
  rw [hu] at h
  cases v <;> simp only [Cell.ok, hu] at h <;> first | exact h.elim | exact ⟨_, _, _, rfl⟩ | skip
theorem has_u8 {n : Int} (h : IntKind.u8.has n) : 0 ≤ n ∧ n < 256 := by
  simp only [IntKind.has, IntKind.min, IntKind.max, IntKind.signed, IntKind.bits] at h
  simp at h
  omega
theorem has_u32 {n : Int} (h : IntKind.u32.has n) : 0 ≤ n ∧ n < 4294967296 := by
  simp only [IntKind.has, IntKind.min, IntKind.max, IntKind.signed, IntKind.bits] at h
  simp at h
  omega
/-- Cells of bytes. -/
theorem row_bytes : ∀ (L : List Value), (∀ v ∈ L, ∃ n, v = .int .u8 n ∧ 0 ≤ n ∧ n < 256) → ∃ l : List Int, L = l.map (Value.int .u8) ∧ isBytes l
  | [], _ => ⟨[], rfl, by simp [isBytes]⟩
  | v :: L, h => by
    obtain ⟨l, hl, hb⟩ := row_bytes L (fun u hu => h u (by simp [hu]))
    obtain ⟨n, rfl, h0, h1⟩ := h v (by simp)
    refine ⟨n :: l, by rw [hl]; rfl, fun x hx => ?_⟩
    rcases List.mem_cons.1 hx with rfl | hx
    · exact ⟨h0, h1⟩
    · exact hb x hx
theorem cells5 : Tryz.prog.cellsOf 5 = 1 := by kernel_rfl
theorem cells34 : Tryz.prog.cellsOf 34 = 32 := by kernel_rfl
theorem cells45 : Tryz.prog.cellsOf 45 = 64 := by kernel_rfl
theorem cells63 : Tryz.prog.cellsOf 63 = 1 := by kernel_rfl
theorem cells65 : Tryz.prog.cellsOf 65 = 162 := by kernel_rfl
theorem cells66 : Tryz.prog.cellsOf 66 = 1 := by kernel_rfl
theorem cells68 : Tryz.prog.cellsOf 68 = 165 := by kernel_rfl
theorem cells4 : Tryz.prog.cellsOf 4 = 1 := by kernel_rfl
theorem wf_u8 {n : Int} (h : (Lit.int .u8 n).wf = true) : 0 ≤ n ∧ n ≤ 255 := by
  simp [Lit.wf, IntKind.min, IntKind.max, IntKind.signed, IntKind.bits] at h; omega
theorem wf_u16 {n : Int} (h : (Lit.int .u16 n).wf = true) : 0 ≤ n ∧ n ≤ 65535 := by
  simp [Lit.wf, IntKind.min, IntKind.max, IntKind.signed, IntKind.bits] at h; omega
theorem drop_split {α : Type} (cs : List α) (a n : Nat) : cs.drop a = (cs.drop a).take n ++ cs.drop (a + n) := by
  rw [← List.drop_drop]; exact (List.take_append_drop n _).symm
section
variable {H : Type} {enc : TypeId × Value → H} {w : World} {base : Nat} {spare : Nat → Bool} {held : Bool}
theorem trod_bytes {t n fuel : Nat} {cs : List Value} {x : DataW H × List MemPlace} (ht : Tryz.prog.underlying t = some (.array n 5)) (hc : Tryz.prog.cellsOf t = n) (h : DataW.trod enc Tryz.prog w base spare held fuel t cs = some x) :
    ∃ l : List Int, cs = l.map (Value.int .u8) ∧ l.length = n ∧ isBytes l := by
  obtain ⟨xs, m, rfl, _, hl, hxl, hf⟩ := DataW.trod_array ht h
  rw [hc] at hl
  obtain ⟨l, h1, h2⟩ := row_bytes cs (fun v hv => by
    obtain ⟨i, hi, rfl⟩ := List.getElem_of_mem hv
    have h3 := hf i (by omega)
    rw [cells5, Nat.mul_one, List.take_one, List.head?_drop, List.getElem?_eq_getElem hi] at h3
    obtain ⟨y, hy⟩ : ∃ y, xs[i]? = some y := ⟨_, List.getElem?_eq_getElem (by omega)⟩
    rw [hy] at h3
    obtain ⟨n, p, _, q⟩ := DataW.trod_int Tryz.underlying5 h3
    simp only [Option.toList_some, List.cons.injEq, and_true] at p
    have := wf_u8 q
    exact ⟨n, p, this.1, by omega⟩)
  exact ⟨l, h1, by rw [h1, List.length_map] at hl; exact hl, h2⟩
theorem bundle_of_trod {fuel : Nat} {cs : List Value} {x : DataW H × List MemPlace} (h : DataW.trod enc Tryz.prog w base spare held fuel 65 cs = some x) : ∃ b : Bn, BnOk b ∧ cs = (bnC b).toList := by
  obtain ⟨xs, m, rfl, _, hl, hxl, hf⟩ := DataW.trod_struct Tryz.underlying65 h
  rw [cells65] at hl
  have hs : xs.length = 6 := hxl
  have h0 : DataW.trod enc Tryz.prog w base spare held m 5 ((cs.drop 0).take (Tryz.prog.cellsOf 5)) = xs[0]? := hf 0 _ rfl
  have h1 : DataW.trod enc Tryz.prog w base spare held m 34 ((cs.drop 1).take (Tryz.prog.cellsOf 34)) = xs[1]? := hf 1 _ rfl
  have h2 : DataW.trod enc Tryz.prog w base spare held m 34 ((cs.drop 33).take (Tryz.prog.cellsOf 34)) = xs[2]? := hf 2 _ rfl
  have h3 : DataW.trod enc Tryz.prog w base spare held m 63 ((cs.drop 65).take (Tryz.prog.cellsOf 63)) = xs[3]? := hf 3 _ rfl
  have h4 : DataW.trod enc Tryz.prog w base spare held m 34 ((cs.drop 66).take (Tryz.prog.cellsOf 34)) = xs[4]? := hf 4 _ rfl
  have h5 : DataW.trod enc Tryz.prog w base spare held m 45 ((cs.drop 98).take (Tryz.prog.cellsOf 45)) = xs[5]? := hf 5 _ rfl
  rw [cells5] at h0
  rw [cells34] at h1 h2 h4
  rw [cells63] at h3
  rw [cells45] at h5
  rw [List.getElem?_eq_getElem (by omega)] at h0 h1 h2 h3 h4 h5
  obtain ⟨n0, p0, _, q0⟩ := DataW.trod_int Tryz.underlying5 h0
  obtain ⟨a1, p1, l1, b1⟩ := trod_bytes Tryz.underlying34 cells34 h1
  obtain ⟨a2, p2, l2, b2⟩ := trod_bytes Tryz.underlying34 cells34 h2
  obtain ⟨n3, p3, _, q3⟩ := DataW.trod_int Tryz.underlying63 h3
  obtain ⟨a4, p4, l4, b4⟩ := trod_bytes Tryz.underlying34 cells34 h4
  obtain ⟨a5, p5, l5, b5⟩ := trod_bytes Tryz.underlying45 cells45 h5
  have w0 := wf_u8 q0
  have w3 := wf_u16 q3
  refine ⟨⟨n0, a1, a2, n3, a4, a5⟩, ⟨w0.1, by show n0 < 256; omega, w3.1, by show n3 < 65536; omega, l1, l2, l4, l5, b1, b2, b4, b5⟩, ?_⟩
  have e : cs = cs.drop 0 := rfl
  rw [e, drop_split cs 0 1, drop_split cs (0 + 1) 32, drop_split cs (0 + 1 + 32) 32, drop_split cs (0 + 1 + 32 + 32) 1, drop_split cs (0 + 1 + 32 + 32 + 1) 32, drop_split cs (0 + 1 + 32 + 32 + 1 + 32) 64]
  rw [show 0 + 1 = 1 from rfl, show 1 + 32 = 33 from rfl, show 33 + 32 = 65 from rfl, show 65 + 1 = 66 from rfl, show 66 + 32 = 98 from rfl, p0, p1, p2, p3, p4, p5, List.drop_of_length_le (by omega)]
  simp [cBundle]
theorem cellsN {a : Addr} {cs : List Value} {n : Nat} (h : w.cells? base a n = some cs) : cs.length = n ∧ ∀ i v, cs[i]? = some v → w.cell? (a.add i) = some v := by
  unfold World.cells? at h
  split at h
  · have hl := mapM_some_length h
    refine ⟨by simpa using hl, fun i v hv => ?_⟩
    have hi : i < n := by
      have := (List.getElem?_eq_some_iff.1 hv).1
      simp only [List.length_range] at hl; omega
    have := mapM_some_get h i i (by simp [hi])
    rw [this]; exact hv
  · cases h
theorem lf_of_trod {fuel : Nat} {v : Value} {x : DataW H × List MemPlace} (hf : DataW.trod enc Tryz.prog w base spare held fuel 66 [v] = some x) (hm : ∀ a n c, v = .slice (some a) n c → a.spot = none) :
    ∃ p n c ls, v = .slice p n c ∧ Lf w p n c (bnsL ls) ∧ (∀ x ∈ ls, BnOk x) ∧ ls.length = n := by
  rcases Go.Deep.open_slice Tryz.underlying66 hf with ⟨hcs, _⟩ | ⟨a, len, cap, m, n, D, Pl, hcs, _, hlc, hcm, hmm, _, hel⟩
  · simp only [List.cons.injEq, and_true] at hcs
    exact ⟨none, 0, 0, [], hcs, .inl ⟨rfl, rfl, rfl, rfl⟩, by simp, rfl⟩
  · simp only [List.cons.injEq, and_true] at hcs
    have hle : len ≤ m := by rw [hmm]; split <;> omega
    have key : ∀ i, i < len → ∃ b : Bn, BnOk b ∧ ∀ j v, (bnC b).toList[j]? = some v → w.cell? (a.add (i * 162 + j)) = some v := fun i hi => by
      obtain ⟨cs, hc, ht⟩ := hel i (by omega)
      rw [cells65] at hc
      obtain ⟨hl4, hcell⟩ := cellsN hc
      obtain ⟨b, hb, rfl⟩ := bundle_of_trod ht
      refine ⟨b, hb, fun j v hv => ?_⟩
      have := hcell j v hv
      rwa [Go.Deep.add_add] at this
    obtain ⟨f, hf'⟩ := Classical.axiomOfChoice (r := fun (i : Nat) (b : Bn) => i < len → BnOk b ∧ ∀ j v, (bnC b).toList[j]? = some v → w.cell? (a.add (i * 162 + j)) = some v)
      (fun i => by
        by_cases hi : i < len
        · obtain ⟨o, h⟩ := key i hi; exact ⟨o, fun _ => h⟩
        · exact ⟨⟨0, [], [], 0, [], []⟩, fun h => absurd h hi⟩)
    obtain ⟨b, off, spot⟩ := a
    have hspot : spot = none := hm _ _ _ hcs
    subst hspot
    have okl : ∀ x ∈ (List.range len).map f, BnOk x := fun x hx => by
      obtain ⟨i, hi, rfl⟩ := List.mem_map.1 hx
      exact (hf' i (List.mem_range.1 hi)).1
    have hlen : ((List.range len).map f).length = len := by simp
    refine ⟨some ⟨b, off, none⟩, len, cap, (List.range len).map f, hcs, .inr ⟨_, rfl, ?_⟩, okl, hlen⟩
    refine ⟨by rw [bnsL_length okl, hlen], hlc, ?_, by simp, fun x hx => ⟨b, off, by simpa using hx.symm⟩⟩
    rcases Nat.eq_zero_or_pos len with h0 | h0
    · exact .inl h0
    · right
      have sz : ∀ i, i < len → (bnC (f i)).size = 162 := fun i hi => bnC_size (hf' i hi).1
      have cell : ∀ i, i < len → ∀ j, j < 162 → w.cell? ((⟨b, off, none⟩ : Addr).add (i * 162 + j)) = (bnC (f i))[j]? := fun i hi j hj => by
        have h1 : (bnC (f i)).toList[j]? = some ((bnC (f i))[j]'(by rw [sz i hi]; exact hj)) := by
          rw [Array.getElem?_toList]; exact Array.getElem?_eq_getElem _
        rw [(hf' i hi).2 j _ h1, ← h1, Array.getElem?_toList]
      have hlast := cell (len - 1) (by omega) 161 (by omega)
      rw [Array.getElem?_eq_getElem (by rw [sz (len - 1) (by omega)]; omega), Addr.add_mid, World.cell?_at] at hlast
      cases hb : w.blk b with
      | none => rw [hb] at hlast; cases hlast
      | some ob =>
        rw [hb] at hlast
        cases ob with
        | cells cs T fr =>
          have hsz : off + ((len - 1) * 162 + 161) < cs.size := (Array.getElem?_eq_some_iff.1 hlast).1
          have hmul : len * 162 = (len - 1) * 162 + 162 := by rw [← Nat.succ_mul]; congr 1; omega
          refine ⟨b, off, cs, T, fr, rfl, hb, by omega, ?_⟩
          apply List.ext_getElem?
          intro k
          rcases Nat.lt_or_ge k (len * 162) with hk | hk
          · have hi : k / 162 < len := Nat.div_lt_of_lt_mul (by rw [Nat.mul_comm]; exact hk)
            have hj : k % 162 < 162 := Nat.mod_lt _ (by omega)
            have hkk : k / 162 * 162 + k % 162 = k := by rw [Nat.mul_comm]; exact Nat.div_add_mod k 162
            have h2 := cell (k / 162) hi (k % 162) hj
            rw [Addr.add_mid, World.cell?_at, hb] at h2
            have h3 : cs[off + (k / 162 * 162 + k % 162)]? = (bnC (f (k / 162)))[k % 162]? := h2
            rw [hkk] at h3
            rw [Array.getElem?_toList, Array.getElem?_extract_of_lt (by omega), ← Array.getElem?_eq_getElem, h3]
            have h4 := flatMap_part (fun x => (bnC x).toList) 162 ((List.range len).map f) (k / 162) (f (k / 162)) (fun y hy => by rw [Array.length_toList, bnC_size (okl y hy)]) (by simp [hi])
            have h5 : (bnsL ((List.range len).map f))[k]? = (((bnsL ((List.range len).map f)).drop (k / 162 * 162)).take 162)[k % 162]? := by
              rw [List.getElem?_take, if_pos hj, List.getElem?_drop, hkk]
            rw [h5, bnsL, h4, Array.getElem?_toList]
          · rw [List.getElem?_eq_none (by rw [Array.length_toList, Array.size_extract]; omega), List.getElem?_eq_none (by rw [bnsL_length okl, hlen]; exact hk)]
        | _ => cases hlast
set_option maxRecDepth 100000 in
theorem types68 : Tryz.prog.cellTypes Tryz.prog.depth 68 = some (4 :: ((5 :: (List.replicate 32 5 ++ (List.replicate 32 5 ++ (63 :: (List.replicate 32 5 ++ List.replicate 64 5))))) ++ [66, 63])) := by kernel_rfl
set_option maxRecDepth 100000 in
theorem spot_of {r : Reach} {b0 : Nat} {v : Value} (h : Cell.okWide Tryz.prog w r b0 66 v) : ∀ a n c, v = .slice (some a) n c → a.spot = none := fun a n c e => by
  subst e
  unfold Cell.okWide at h
  rw [Tryz.underlying66] at h
  simp only [Cell.ok, Tryz.underlying66] at h
  exact h.2.2.2.1
set_option maxRecDepth 100000 in
theorem open66 {r : Reach} {b0 : Nat} {v : Value} {d : DataW H} {ps : List MemPlace} (hval : Value.okWide Tryz.prog w r b0 66 v) (hd : DataW.Trod enc Tryz.prog w base spare held 66 v d ps) :
    ∃ p n c ls, v = .slice p n c ∧ Lf w p n c (bnsL ls) ∧ (∀ x ∈ ls, BnOk x) ∧ ls.length = n := by
  unfold Value.okWide at hval
  rw [Tryz.underlying66] at hval
  obtain ⟨p, n, c, rfl⟩ := slice_cell hval Tryz.underlying66
  obtain ⟨fuel, hf⟩ := hd
  exact lf_of_trod hf (spot_of hval)
set_option maxRecDepth 100000 in
theorem open5 {r : Reach} {b0 : Nat} {v : Value} (hval : Value.okWide Tryz.prog w r b0 5 v) : ∃ n : Nat, v = .int .u8 (n : Int) ∧ n < 256 := by
  unfold Value.okWide at hval
  rw [Tryz.underlying5] at hval
  obtain ⟨a, ha, hh⟩ := int_cell hval Tryz.underlying5
  have := has_u8 hh
  obtain ⟨n, rfl⟩ := Int.eq_ofNat_of_zero_le this.1
  exact ⟨n, ha, by omega⟩
set_option maxRecDepth 100000 in
theorem open68 {r : Reach} {b0 : Nat} {v : Value} {d : DataW H} {ps : List MemPlace} (hval : Value.okWide Tryz.prog w r b0 68 v) (hd : DataW.Trod enc Tryz.prog w base spare held 68 v d ps) :
    ∃ hs f p n c last ls, v = .agg (shC hs f p n c last) ∧ BnOk f ∧ 0 ≤ last ∧ last < 65536 ∧ Lf w p n c (bnsL ls) ∧ (∀ x ∈ ls, BnOk x) ∧ ls.length = n := by
  unfold Value.okWide at hval
  rw [Tryz.underlying68] at hval
  obtain ⟨cs, rfl, hsz, ts, hts, _, hc⟩ := hval
  rw [cells68] at hsz
  rw [types68, Option.some.injEq] at hts
  subst hts
  obtain ⟨fuel, hf⟩ := hd
  have hL : cs.toList.length = 165 := by simpa using hsz
  have hf' : DataW.trod enc Tryz.prog w base spare held fuel 68 cs.toList = some (d, ps) := hf
  obtain ⟨xs, m, rfl, _, hl, hxl, hx⟩ := DataW.trod_struct Tryz.underlying68 hf'
  have hs4 : xs.length = 4 := hxl
  have h0 : DataW.trod enc Tryz.prog w base spare held m 4 ((cs.toList.drop 0).take (Tryz.prog.cellsOf 4)) = xs[0]? := hx 0 _ rfl
  have h1 : DataW.trod enc Tryz.prog w base spare held m 65 ((cs.toList.drop 1).take (Tryz.prog.cellsOf 65)) = xs[1]? := hx 1 _ rfl
  have h2 : DataW.trod enc Tryz.prog w base spare held m 66 ((cs.toList.drop 163).take (Tryz.prog.cellsOf 66)) = xs[2]? := hx 2 _ rfl
  have h3 : DataW.trod enc Tryz.prog w base spare held m 63 ((cs.toList.drop 164).take (Tryz.prog.cellsOf 63)) = xs[3]? := hx 3 _ rfl
  rw [cells4] at h0
  rw [cells65] at h1
  rw [cells66] at h2
  rw [cells63] at h3
  rw [List.getElem?_eq_getElem (by omega)] at h0 h1 h2 h3
  obtain ⟨hb, p0, _⟩ := DataW.trod_bool Tryz.underlying4 h0
  obtain ⟨f, okf, p1⟩ := bundle_of_trod h1
  obtain ⟨n3, p3, _, q3⟩ := DataW.trod_int Tryz.underlying63 h3
  have w3 := wf_u16 q3
  have e2 : (cs.toList.drop 163).take 1 = [cs[163]'(by omega)] := by
    rw [List.take_one, List.head?_drop, Array.getElem?_toList, Array.getElem?_eq_getElem (by omega)]; rfl
  rw [e2] at h2
  obtain ⟨u, hu, hok⟩ := hc 163 (cs[163]'(by omega)) (Array.getElem?_eq_getElem (by omega))
  have hu66 : u = 66 := by
    have : (4 :: ((5 :: (List.replicate 32 5 ++ (List.replicate 32 5 ++ (63 :: (List.replicate 32 5 ++ List.replicate 64 5))))) ++ [66, 63]) : List Nat)[163 % (4 :: ((5 :: (List.replicate 32 5 ++ (List.replicate 32 5 ++ (63 :: (List.replicate 32 5 ++ List.replicate 64 5))))) ++ [66, 63]) : List Nat).length]? = some 66 := by kernel_rfl
    rw [this] at hu
    injection hu with hu
    exact hu.symm
  subst hu66
  obtain ⟨p, n, c, ls, hv, hLf, hok2, hlen⟩ := lf_of_trod h2 (spot_of hok)
  refine ⟨hb, f, p, n, c, n3, ls, ?_, okf, w3.1, by omega, hLf, hok2, hlen⟩
  congr 1
  apply Array.ext'
  have e : cs.toList = cs.toList.drop 0 := rfl
  rw [e, drop_split cs.toList 0 1, drop_split cs.toList (0 + 1) 162, drop_split cs.toList (0 + 1 + 162) 1, drop_split cs.toList (0 + 1 + 162 + 1) 1]
  rw [show 0 + 1 = 1 from rfl, show 1 + 162 = 163 from rfl, show 163 + 1 = 164 from rfl, p0, p1, e2, hv, p3, List.drop_of_length_le (by omega)]
  simp [cShelf]
end
end Go.Proofs.YtbhnfohoclcjdaaGreat
namespace Go.Proofs.YtbhnfohoclcjdaaGreat
open Go.ChangeShapes Go.WideShapes Go.ChangeAt Go.RowKit Go.Dr
theorem and_true' {a b : Bool} (h : a = true) (k : b = true) : (a && b) = true := by rw [h, k]; rfl
theorem mapsRowedFact : (mapsRowed Tryz.pinned.checked.prog) = true := by kernel_rfl
theorem mayEnterFact : (Tryz.pinned.checked.prog.mayEnter) = true := by kernel_rfl
theorem liftsFact : ((Rows.keydirStocksRow.lifted == Tryz.pinned.checked.prog.liftsFinal)) = true := by kernel_rfl
theorem makeFact : ((Tryz.pinned.checked.prog.make == some Rows.keydirStocksRow.make)) = true := by kernel_rfl
end Go.Proofs.YtbhnfohoclcjdaaGreat
namespace Go.Proofs.YtbhnfohoclcjdaaGreat
open Go.RowKit Go.Dr Go.Kd
theorem info49 : (Tryz.prog.info? 63).map (fun i => (i.zero, i.size, i.bytes)) = some (some (.int .u16 0), 1, 2) := by kernel_rfl
section
variable {w0 w : World} {L : List (Nat × Obj)} {p : Option Addr} {n cap : Nat} {vs : List Value} {ops : Array Oper} {rest : List Oper} {o : Oper} {a : Act} {Q : Exit → Act → World → Prop}
/-- []api.Bundle: append of a slice, told with what it leaves alone. -/
theorem wpList_app60F (hgd : o.guard = none) (s x : Operand) (ho : o.op = .call { callee := .builtin .append, args := #[s, x], argTypes := #[66, 66] })
    (hs : a.eval s = .slice p n cap) (B : BldV w0 L 65 162 w p n cap vs) {q : Option Addr} {m c : Nat} {us : List Value} (hx : a.eval x = .slice q m c) (S : Sv 162 w q m c us) (h1 : ∀ u ∈ us, u.oneCell' = true) (hbig : n + m ≤ 1000000)
    (h : ∀ p' cap' w', BldV w0 L 65 162 w' p' (n + m) cap' (vs ++ us) → Fr (p.map (·.block)).toList w w' → wpList Tryz.prog ops Q rest (a.put o.dst (.slice p' (n + m) cap')) w') : wpList Tryz.prog ops Q (o :: rest) a w := by
  obtain ⟨i, z, hi, hz, hzs, hs1, hb1⟩ := info59_parts
  exact wpList_apdV2 hgd s x 66 66 ho Tryz.underlying66 hi hz hs1 (by omega) hb1 hzs hs B hx (Apd.ofSrc Tryz.underlying66 hi hz (by rw [hs1]; exact S.src Tryz.underlying66 h1)) (by omega) (by omega) fun p' cap' w' B' _ F => h p' cap' w' B' F
end
set_option maxRecDepth 100000 in
theorem bun_built2 {d : Nat} {a b c : List Int} {i : Int} (ha : a.length = 32) (hb : b.length = 32) (hc : c.length = 32) :
    spl ((spl (spl (Tryz.zeroCells65.setIfInBounds 0 (.int .u8 (d : Int))) 1 (a.map (Value.int .u8))) 33 (b.map (Value.int .u8))).setIfInBounds 65 (.int .u16 i)) 66 (c.map (Value.int .u8)) = bnC ⟨d, a, b, i, c, zs 64⟩ := by
  have hz : Tryz.zeroCells65 = (cBundle (.int .u8 0) (zs 32) (zs 32) (.int .u16 0) (zs 32) (zs 64)).toArray := by kernel_rfl
  have l0 : (zs 32).length = 32 := rfl
  have l6 : (zs 64).length = 64 := rfl
  rw [hz, cBundle_set_device _ _ _ _ _ _ _ l0 l0 l0 l6, cBundle_spl_agree _ _ _ _ _ _ _ l0 l0 l0 l6 ha, cBundle_spl_signer _ _ _ _ _ _ _ ha l0 l0 l6 hb, cBundle_set_id _ _ _ _ _ _ _ ha hb l0 l6, cBundle_spl_once _ _ _ _ _ _ _ ha hb l0 l6 hc]
theorem byt_zs (n : Nat) : isBytes (zs n) := fun v hv => by
  have := List.eq_of_mem_replicate hv
  omega
/-- Blocks of other types are written. -/
theorem Tab.writ {t : TTy} {lo tb : Nat} {w w' : World} {T : List Tm} (h : Tab t lo tb w T) {fp : List Nat} (F : Fr fp w w') (hfp : ∀ b ∈ fp, ∃ cs T' fr, w.blk b = some (.cells cs T' fr) ∧ T' ≠ t.bT ∧ T' ≠ t.sT ∧ T' ≠ t.tT ∧ T' ≠ t.lT) : Tab t lo tb w' T := by
  obtain ⟨w0, mb, p, cap, vs, es, clock, h0, B, k1, k2, k3, k4, k5, k6⟩ := h.ex
  have n1 : tb ∉ fp := fun hm => by
    obtain ⟨cs, T', fr, hb, _, _, h3, _⟩ := hfp tb hm
    have := B.own.nth 0 rfl
    rw [hb] at this
    simp only [Option.some.injEq, Obj.cells.injEq] at this
    exact h3 this.2.1
  have n2 : mb ∉ fp := fun hm => by
    obtain ⟨cs, T', fr, hb, _⟩ := hfp mb hm
    have := B.own.nth 1 rfl
    rw [hb] at this
    simp at this
  have n3 : ∀ g, p.map (·.block) = some g → g ∉ fp := fun g hg hm => by
    obtain ⟨cs, T', fr, hb, _, _, _, h4⟩ := hfp g hm
    obtain ⟨cs2, fr2, hb2⟩ := B.block hg
    rw [hb] at hb2
    simp only [Option.some.injEq, Obj.cells.injEq] at hb2
    exact h4 hb2.2.1
  have hstay : Stay t w w' := fun k cs T2 fr2 h3 h4 => F.get h3 fun hm => by
    obtain ⟨cs', T', fr', hb, h5, h6, _⟩ := hfp k hm
    rw [h3] at hb
    simp only [Option.some.injEq, Obj.cells.injEq] at hb
    rcases h4 with h4 | h4
    · exact h5 (hb.2.1.symm.trans h4)
    · exact h6 (hb.2.1.symm.trans h4)
  refine ⟨⟨w0, mb, p, cap, vs, es, clock, h0, ⟨⟨fun q hq => ?_, B.own.nd, B.own.lo, B.own.fr.seq F (fun b _ hlt => by omega)⟩, ?_, B.new⟩, k1, k2, k3, k4, k5, fun i u hu => ?_⟩, h.good, h.len⟩
  · refine F.get (B.own.has q hq) ?_
    simp only [List.mem_cons, List.not_mem_nil, or_false] at hq
    rcases hq with rfl | rfl
    · exact n1
    · exact n2
  · exact F.owns B.row (fun g hg hgb => n3 g (by cases p with | none => cases hg | some q => simpa [Value.ownBlock] using hg) hgb)
  · obtain ⟨a, q, m, c, q2, m2, c2, d, e, f⟩ := k6 i u hu
    exact ⟨a, q, m, c, q2, m2, c2, d, e, f.step hstay⟩
/-- A row of the caller's own grows. -/
theorem Tab.grown {lo tb : Nat} {w w' w0 : World} {T : List Tm} {L : List (Nat × Obj)} {e sz : Nat} {p : Option Addr} {n c : Nat} {vs : List Value} (h : TabP lo tb w T) (B : BldV w0 L e sz w p n c vs) (F : Fr (p.map (·.block)).toList w w') (he : e ≠ 5 ∧ e ≠ 49 ∧ e ≠ 138 ∧ e ≠ 200) : TabP lo tb w' T :=
  Tab.writ h F fun b hb => by
    obtain ⟨cs, fr, h1⟩ := B.block (Option.mem_toList.1 hb)
    exact ⟨cs, e, fr, h1, he⟩
/-- Cells written one by one. -/
def setsF : Array Value → Nat → List Value → Array Value
  | A, _, [] => A
  | A, o, v :: l => setsF (A.setIfInBounds o v) (o + 1) l
theorem spl_set {A : Array Value} {o : Nat} {v : Value} {l : List Value} (h : o + 1 + l.length ≤ A.size) : spl A o (v :: l) = spl (A.setIfInBounds o v) (o + 1) l := by
  apply Array.ext'
  simp only [spl, Array.toList_append, Array.toList_extract, Array.toList_setIfInBounds, List.extract_eq_take_drop, List.drop_zero, Nat.sub_zero, List.length_cons, Array.size_setIfInBounds]
  have hA : o < A.toList.length := by simp; omega
  rw [show o + (l.length + 1) = o + 1 + l.length by omega, List.set_eq_take_append_cons_drop, if_pos hA]
  have hlt : (A.toList.take o).length = o := by rw [List.length_take]; omega
  rw [List.take_append, hlt, List.drop_append, hlt, List.take_of_length_le (l := A.toList.take o) (by omega), show o + 1 - o = 1 by omega, show o + 1 + l.length - o = l.length + 1 by omega]
  have e : List.drop (o + 1 + l.length) (A.toList.take o) = [] := List.drop_eq_nil_of_le (by omega)
  rw [e, List.nil_append, List.drop_succ_cons, List.drop_drop]
  simp
theorem setsF_spl : ∀ (l : List Value) (A : Array Value) (o : Nat), o + l.length ≤ A.size → setsF A o l = spl A o l
  | [], A, o, _ => by
    apply Array.ext'
    simp only [setsF, spl, Array.toList_append, Array.toList_extract, List.extract_eq_take_drop, List.length_nil, Nat.add_zero, List.drop_zero, Nat.sub_zero, List.append_nil]
    rw [List.take_of_length_le (l := A.toList.drop o) (by simp), List.take_append_drop]
  | v :: l, A, o, h => by
    simp only [List.length_cons] at h
    rw [setsF, setsF_spl l _ _ (by simp; omega), spl_set (by omega)]
set_option maxRecDepth 100000 in
theorem bun_built3 {d : Nat} {a b : List Int} {i : Int} (ha : a.length = 32) (hb : b.length = 32) (k : Int) :
    setsF ((spl (spl (Tryz.zeroCells65.setIfInBounds 0 (.int .u8 (d : Int))) 1 (a.map (Value.int .u8))) 33 (b.map (Value.int .u8))).setIfInBounds 65 (.int .u16 i)) 66 ((key1 k).map (Value.int .u8)) = bnC ⟨d, a, b, i, key1 k, zs 64⟩ := by
  rw [setsF_spl, bun_built2 ha hb rfl]
  have hz : Tryz.zeroCells65 = (cBundle (.int .u8 0) (zs 32) (zs 32) (.int .u16 0) (zs 32) (zs 64)).toArray := by kernel_rfl
  have l0 : (zs 32).length = 32 := rfl
  have l6 : (zs 64).length = 64 := rfl
  rw [hz, cBundle_set_device _ _ _ _ _ _ _ l0 l0 l0 l6, cBundle_spl_agree _ _ _ _ _ _ _ l0 l0 l0 l6 ha, cBundle_spl_signer _ _ _ _ _ _ _ ha l0 l0 l6 hb, cBundle_set_id _ _ _ _ _ _ _ ha hb l0 l6, List.size_toArray, cBundle_length _ _ _ _ _ _ ha hb l0 l6]
  have : (List.map (Value.int .u8) (key1 k)).length = 32 := rfl
  omega
section
variable {w0 w X W : World} {L : List (Nat × Obj)} {e sz : Nat} {q : Option Addr} {n c : Nat} {vs : List Value}
/-- A row that a callee has made beside a table. -/
theorem bld_here (hO : OwB w0 L X) (hO' : OwB w0 L W) (B : BldV W.void [] e sz W q n c vs) (hn : ∀ g, q.map (·.block) = some g → X.heap.size ≤ g) : BldV w0 L e sz W q n c vs :=
  ⟨hO', B.row, fun g hg => ⟨Nat.le_trans hO.fr.size (hn g hg), fun hm => by
    obtain ⟨x, hx, rfl⟩ := List.mem_map.1 hm
    have h1 := World.at_lt (hO.has x hx)
    have h2 := hn x.1 hg
    omega⟩⟩
theorem Parked.kept {N : List (Nat × Obj)} (h : Parked N 65 162 q n c vs) : Kept q n c vs N := by
  rcases h with ⟨rfl, rfl, rfl, rfl, rfl⟩ | ⟨g, r, rfl, rfl, hl, hc, hn, hm⟩
  · exact Kept.nil
  · refine ⟨fun x hx => ?_, fun w2 hw2 => .inr ⟨_, rfl, hl, hn, .inr ⟨g, 0, _, 65, _, rfl, hw2.nth 0 rfl, ?_, ?_⟩, by simp, fun a ha => ⟨g, 0, by simpa using ha.symm⟩⟩⟩
    · simp only [List.mem_singleton] at hx
      subst hx
      exact ⟨_, _, rfl⟩
    · rw [size_rowV, ← hl]; omega
    · rw [Nat.zero_add, ← hl, rowV]
      simp
theorem BldV.newroom (h : BldV w0 L e sz w q n c vs) (o : Obj) : BldV w0 ((w.heap.size, o) :: L) e sz (w.alloc o) q n c vs :=
  h.add ((Fr.refl [] w).alloc _) (World.at_alloc_new _ _ _ rfl) (Nat.le_refl _)
end
section
variable {w0 w : World} {A B C D : List (Nat × Obj)} {b : Nat} {o : Obj}
theorem own_set4 (h : OwB w0 (A ++ (B ++ (C ++ ((b, o) :: D)))) w) (o' : Obj) : OwB w0 (A ++ (B ++ (C ++ ((b, o') :: D)))) (w.put b o') := by
  have h2 : OwB w0 ((A ++ (B ++ C)) ++ ((b, o) :: D)) w := by simpa [List.append_assoc] using h
  simpa [List.append_assoc] using h2.set_mid o'
theorem own_front (h : OwB w0 (A ++ (B ++ C)) w) : OwB w0 (B ++ (A ++ C)) w := h.perm (List.perm_append_comm_assoc A B C)
end
/-- What stands between the batches. -/
structure OnceS (w : World) (lo tb : Nat) (L4 : List (Nat × Obj)) (b9 : Nat) (X : World) (p10 : Option Addr) (n10 c10 : Nat) (p11 : Option Addr) (n11 c11 : Nat) (S C : List Int) (hs : Bool) (fall : List Value) (p : Option Addr) (m cap : Nat) (last : Int) (ls : List Bn) (Ns Nc M : List (Nat × Obj)) (T : List Tm) : Prop where
  own : OwB w (M ++ (Ns ++ (Nc ++ ((b9, .cells (cShelf (.bool hs) fall (.slice p m cap) (.int .u16 last)).toArray 68) :: L4)))) X
  ks : Parked Ns 63 1 p10 n10 c10 (S.map (Value.int .u16))
  kc : Parked Nc 63 1 p11 n11 c11 (C.map (Value.int .u16))
  kl : Kept p m cap (bnsL ls) M
  tab : TabP lo tb X T
  inv : InvK S C ls last
  ml : ls.length = m
  sl : S.length = n10
  cl : C.length = n11
  fl : fall.length = 162
  fo : ∀ v ∈ fall, v.oneCell' = true
  f0 : hs = true → fall[65]? = some (.int .u16 0)
def OnceE (w : World) (lo tb : Nat) (L4 : List (Nat × Obj)) (b9 i : Nat) (X : World) (p10 : Option Addr) (n10 c10 : Nat) (p11 : Option Addr) (n11 c11 : Nat) : Prop :=
  ∃ S C hs fall p m cap last ls Ns Nc M T, S.length ≤ 10 * i ∧ OnceS w lo tb L4 b9 X p10 n10 c10 p11 n11 c11 S C hs fall p m cap last ls Ns Nc M T
theorem OnceS.oth {w X : World} {lo tb : Nat} {L4 : List (Nat × Obj)} {b9 : Nat} {p10 : Option Addr} {n10 c10 : Nat} {p11 : Option Addr} {n11 c11 : Nat} {S C : List Int} {hs : Bool} {fall : List Value} {p : Option Addr} {m cap : Nat} {last : Int} {ls : List Bn} {Ns Nc M : List (Nat × Obj)} {T : List Tm}
    (h : OnceS w lo tb L4 b9 X p10 n10 c10 p11 n11 c11 S C hs fall p m cap last ls Ns Nc M T) (h4 : ∀ q ∈ L4, other TT q.2) : ∀ q ∈ M ++ (Ns ++ (Nc ++ ((b9, .cells (cShelf (.bool hs) fall (.slice p m cap) (.int .u16 last)).toArray 68) :: L4))), q.1 < lo ∨ other TT q.2 := fun q hq => by
  rcases List.mem_append.1 hq with hq | hq
  · obtain ⟨cs, fr, e⟩ := h.kl.1 q hq
    rw [e]
    exact .inr ⟨by decide, by decide⟩
  rcases List.mem_append.1 hq with hq | hq
  · exact .inr (Parked.other h.ks ⟨by decide, by decide⟩ q hq)
  rcases List.mem_append.1 hq with hq | hq
  · exact .inr (Parked.other h.kc ⟨by decide, by decide⟩ q hq)
  rcases List.mem_cons.1 hq with rfl | hq
  · exact .inr ⟨by decide, by decide⟩
  · exact .inr (h4 q hq)
theorem bnsL_snoc (x y : Bn) (l : List Bn) : bnsL (x :: (l ++ [y])) = bnsL (x :: l) ++ (bnC y).toList := by
  rw [← List.cons_append, bnsL_append]
  congr 1
  simp [bnsL]
/-- A batch that grows. -/
def BatchE (w : World) (lo tb : Nat) (LL : List (Nat × Obj)) (X : World) (q : Option Addr) (n c : Nat) : Prop :=
  ∃ x l T, BldV w LL 65 162 X q n c (bnsL (x :: l)) ∧ BnOk x ∧ x.id = 0 ∧ (∀ y ∈ l, BnOk y) ∧ l.length + 1 = n ∧ TabP lo tb X T
end Go.Proofs.YtbhnfohoclcjdaaGreat
namespace Go.Proofs.YtbhnfohoclcjdaaGreat
open Go.RowKit Go.Dr Go.Kd
section
variable {w0 w w' : World} {L : List (Nat × Obj)} {p : Option Addr} {n c : Nat} {vs : List Value}
theorem Sv.lf (S : Sv 162 w p n c vs) : Lf w p n c vs := by
  cases p with
  | some a => exact .inr ⟨a, rfl, S⟩
  | none =>
    have h1 := S.nil rfl
    have h2 := S.cap_
    have h3 := S.len
    have h4 : n = 0 := by omega
    subst h4
    exact .inl ⟨rfl, rfl, h1, List.eq_nil_of_length_eq_zero (by omega)⟩
theorem Emp.kept (h : Emp w p c) : Kept p 0 c [] [] := ⟨by simp, fun w' _ => Lf.zero h.lf w'⟩
theorem Kept.sv {M : List (Nat × Obj)} (h : Kept p (n + 1) c vs M) (hM : Has M w) : ∃ a, p = some a ∧ Sv 162 w (some a) (n + 1) c vs := by
  rcases h.2 w hM with ⟨_, h1, _⟩ | h1
  · omega
  · exact h1
theorem claim_k {last : Int} {fall : List Value} {hs : Bool} {ls : List Bn} {M : List (Nat × Obj)} (hO : OwB w0 L w) (K : Kept p n c (bnsL ls) M) (hM : Has M w) (ok : ∀ x ∈ ls, BnOk x) (ml : ls.length = n) (hn : n ≤ 8)
    (hf : fall.length = 162) (hfo : ∀ v ∈ fall, v.oneCell' = true) (f0 : hs = true → fall[65]? = some (.int .u16 0)) :
    Calls Tryz.prog 31 #[.agg (cShelf (.bool hs) fall (.slice p n c) (.int .u16 last)).toArray] w fun e w' => ∃ q m' c' u okb id ls' M', e = .returned (.tuple #[.agg (cShelf (.bool hs) fall (.slice q m' c') (.int .u16 last)).toArray, .agg u, .bool okb]) ∧
      ls'.length = m' ∧ u.size = 162 ∧ ones u.toList = true ∧ u[65]? = some (.int .u16 id) ∧ OwB w0 (M' ++ L) w' ∧ Kept q m' c' (bnsL ls') M' ∧ Fr [] w w' ∧ ((∃ b, ls = b :: ls' ∧ okb = true ∧ id = b.id) ∨ (ls = [] ∧ ls' = [] ∧ okb = hs ∧ id = 0)) := by
  cases ls with
  | nil =>
    simp only [List.length_nil] at ml
    subst ml
    have hE : Emp w p c := (K.2 w hM).emp
    refine (claim_none hf hfo rfl hE).mono ?_
    rintro e w' ⟨q, c', u, rfl, h1, h2, h3, F⟩
    refine ⟨q, 0, c', u, hs, 0, [], [], rfl, rfl, ?_, ?_, ?_, hO.call F, h3.kept, F, .inr ⟨rfl, rfl, rfl, rfl⟩⟩
    · cases hs with
      | true => rw [h1 rfl, List.size_toArray, hf]
      | false => rw [h2 rfl]; kernel_rfl
    · cases hs with
      | true => rw [h1 rfl]; exact List.all_eq_true.2 hfo
      | false => rw [h2 rfl]; kernel_rfl
    · cases hs with
      | true => rw [h1 rfl, List.getElem?_toArray]; exact f0 rfl
      | false => rw [h2 rfl]; kernel_rfl
  | cons b ls =>
    simp only [List.length_cons] at ml
    subst ml
    obtain ⟨a, rfl, S⟩ := K.sv hM
    have okb := ok b (by simp)
    have hu : (bnC b).toList.length = 162 := by rw [Array.length_toList, bnC_size okb]
    refine (claim_g (us := bnsL ls) hf hfo rfl rfl (by simpa [bnsL] using S) hu (fun v hv => bnsL_one (b :: ls) v (by simpa [bnsL] using hv)) (by omega)).mono ?_
    rintro e w' ⟨q, c', rfl, S', hN, F⟩
    obtain ⟨M', h1, h2⟩ := (Sv.lf S').keep hN hO F
    exact ⟨q, ls.length, c', bnC b, true, b.id, ls, M', by simp, rfl, bnC_size okb, List.all_eq_true.2 (cBundle_one _ _ _ _ _ _ rfl rfl), cBundle_get_id _ _ _ _ _ _ okb.al okb.sl okb.ol okb.gl, h1, h2, F, .inl ⟨b, rfl, rfl, rfl⟩⟩
theorem row16_at {l : List Int} (B : BldV w0 L 63 1 w p n c (l.map (Value.int .u16))) {j : Nat} {x : Int} (hj : l[j]? = some x) :
    ∃ g cs fr, p = some ⟨g, 0, none⟩ ∧ w.blk g = some (.cells cs 63 fr) ∧ ∃ h : j < cs.size, cs[j] = .int .u16 x := by
  have hl := B.len
  have hjl := (List.getElem?_eq_some_iff.1 hj).1
  simp only [List.length_map, Nat.mul_one] at hl
  rcases B.row.2 with ⟨hv, h0⟩ | ⟨g, c', cur, hv, _, hg, hnc, hcm, hcs, ht⟩
  · simp only [Value.slice.injEq] at hv
    omega
  · simp only [Value.slice.injEq] at hv
    obtain ⟨rfl, _, rfl⟩ := hv
    have h1 : (List.take (n * 1) cur.toList)[j]? = some (.int .u16 x) := by rw [ht, List.getElem?_map, hj]; rfl
    have h2 : cur[j]? = some (.int .u16 x) := by
      rw [List.getElem?_take_of_lt (by omega)] at h1
      simpa using h1
    exact ⟨g, cur, _, rfl, by rw [World.blk_heap]; exact hg, Array.getElem?_eq_some_iff.1 h2⟩
end
end Go.Proofs.YtbhnfohoclcjdaaGreat
namespace Go.Proofs.YtbhnfohoclcjdaaGreat
open Go.RowKit Go.Dr Go.Kd
/-- What is claimed from a shelf. -/
def ClaimR (hs : Bool) (f : Bn) (ls : List Bn) (u : Array Value) (okb : Bool) (ls' : List Bn) : Prop :=
  (∃ b, ls = b :: ls' ∧ okb = true ∧ u = bnC b) ∨ (ls = [] ∧ ls' = [] ∧ okb = hs ∧ u = if hs = true then bnC f else Tryz.zeroCells65)
theorem ClaimR.same {hs : Bool} {f : Bn} {ls : List Bn} {u v : Array Value} {a b : Bool} {l m : List Bn} (h : ClaimR hs f ls u a l) (k : ClaimR hs f ls v b m) : u = v ∧ a = b ∧ l = m := by
  rcases h with ⟨x, h1, h2, h3⟩ | ⟨h1, h2, h3, h4⟩ <;> rcases k with ⟨y, k1, k2, k3⟩ | ⟨k1, k2, k3, k4⟩
  · rw [h1] at k1
    simp only [List.cons.injEq] at k1
    obtain ⟨rfl, rfl⟩ := k1
    exact ⟨h3.trans k3.symm, h2.trans k2.symm, rfl⟩
  · rw [h1] at k1; cases k1
  · rw [h1] at k1; cases k1
  · exact ⟨h4.trans k4.symm, h3.trans k3.symm, h2.trans k2.symm⟩
section
variable {w0 w w' : World} {L : List (Nat × Obj)} {p : Option Addr} {n c : Nat}
theorem Lf.some_of {vs : List Value} (h : Lf w p (n + 1) c vs) : ∃ a, p = some a ∧ Sv 162 w (some a) (n + 1) c vs := by
  rcases h with ⟨_, h1, _⟩ | h1
  · omega
  · exact h1
theorem claim_x {last : Int} {f : Bn} {hs : Bool} {ls : List Bn} (hO : OwB w0 L w) (K : Lf w p n c (bnsL ls)) (ok : ∀ x ∈ ls, BnOk x) (ml : ls.length = n) (hn : n ≤ 1000) (hf : BnOk f) :
    Calls Tryz.prog 31 #[.agg (shC hs f p n c last)] w fun e w' => ∃ q m' c' u okb ls' M', e = .returned (.tuple #[.agg (shC hs f q m' c' last), .agg u, .bool okb]) ∧
      ls'.length = m' ∧ OwB w0 (M' ++ L) w' ∧ Kept q m' c' (bnsL ls') M' ∧ Fr [] w w' ∧ ClaimR hs f ls u okb ls' := by
  have hl : (bnC f).toList.length = 162 := by rw [Array.length_toList, bnC_size hf]
  have ho : ∀ v ∈ (bnC f).toList, v.oneCell' = true := cBundle_one _ _ _ _ _ _ rfl rfl
  cases ls with
  | nil =>
    simp only [List.length_nil] at ml
    subst ml
    have hE : Emp w p c := K.emp
    refine (claim_none hl ho rfl hE).mono ?_
    rintro e w' ⟨q, c', u, rfl, h1, h2, h3, F⟩
    refine ⟨q, 0, c', u, hs, [], [], rfl, rfl, hO.call F, h3.kept, F, .inr ⟨rfl, rfl, rfl, ?_⟩⟩
    cases hs with
    | true => rw [h1 rfl, if_pos rfl]
    | false => rw [h2 rfl, if_neg (by decide)]
  | cons b ls =>
    simp only [List.length_cons] at ml
    subst ml
    obtain ⟨a, rfl, S⟩ := K.some_of
    have okb := ok b (by simp)
    have hu : (bnC b).toList.length = 162 := by rw [Array.length_toList, bnC_size okb]
    refine (claim_g (us := bnsL ls) hl ho rfl rfl (by simpa [bnsL] using S) hu (fun v hv => bnsL_one (b :: ls) v (by simpa [bnsL] using hv)) (by omega)).mono ?_
    rintro e w' ⟨q, c', rfl, S', hN, F⟩
    obtain ⟨M', h1, h2⟩ := (Sv.lf S').keep hN hO F
    exact ⟨q, ls.length, c', bnC b, true, ls, M', by simp, rfl, h1, h2, F, .inl ⟨b, rfl, rfl, rfl⟩⟩
end
section
variable {w : World}
set_option maxRecDepth 100000 in
set_option maxHeartbeats 2000000 in
theorem dclaim0 {last : Int} {f : Bn} {hs : Bool} {p : Option Addr} {c : Nat} (hf : BnOk f) :
    Calls Tryz.prog 32 #[.agg (shC hs f p 0 c last)] w fun e w' => e = .returned (.tuple #[.agg (shC hs f p 0 c last), .agg (if hs = true then bnC f else Tryz.zeroCells65), .bool hs]) ∧ Fr [] w w' := by
  obtain ⟨xs, hxs⟩ : ∃ xs, xs = shC hs f p 0 c last := ⟨_, rfl⟩
  obtain ⟨F, hF⟩ : ∃ F, F = bnC f := ⟨_, rfl⟩
  have X : ShF xs hs F p 0 c last := by rw [hxs, hF]; exact shF hf
  have szF : F.size = 162 := by rw [hF]; exact bnC_size hf
  have oneF : ones F.toList = true := by rw [hF]; exact List.all_eq_true.2 (cBundle_one _ _ _ _ _ _ rfl rfl)
  have allF : F.extract 0 162 = F := by rw [← szF]; exact Array.extract_size
  rw [← hxs, ← hF]
  clear hxs hF
  obtain ⟨sx, ⟨x0, x0'⟩, x1, ⟨x2, x2'⟩, ⟨x3, x3'⟩, xal, xon⟩ := X
  have z65 : Tryz.zeroCells65.size = 162 := by kernel_rfl
  have z68 : Tryz.zeroCells68.size = 165 := by kernel_rfl
  go_enter Tryz.func32, Tryz.ntmps32
  go_upto_region 1 with (fail)
  refine named_world (A := fun X => OwB w [(w.heap.size + 1 + 1, .cells Tryz.zeroCells65 65), (w.heap.size + 1, .cells Tryz.zeroCells68 68), (w.heap.size, .cells xs 68)] X) (Q := fun X => Code.wp _ _ _ _ X) ((((OwB.start w).allocN _ w.heap.size rfl).allocN _ (w.heap.size + 1) (by simp)).allocN _ (w.heap.size + 1 + 1) (by simp)) ?_
  intro V hV
  generalize w.heap.size + 1 + 1 = b3 at hV ⊢
  generalize w.heap.size + 1 = b2 at hV ⊢
  generalize w.heap.size = b1 at hV ⊢
  have f1 := hV.nth 2 rfl
  have f2 := hV.nth 1 rfl
  have f3 := hV.nth 0 rfl
  have t1 := World.at_lt f1
  have t2 := World.at_lt f2
  have t3 := World.at_lt f3
  have n12 := hV.ne 2 1 rfl rfl (by decide)
  have n13 := hV.ne 2 0 rfl rfl (by decide)
  have n23 := hV.ne 1 0 rfl rfl (by decide)
  have n21 := n12.symm
  have n31 := n13.symm
  have n32 := n23.symm
  have HV := Lib.hid hV
  clear hV
  cases hs with
  | false =>
    go_wp2_with fail
    refine ret_cell2_tmp rfl rfl rfl rfl ?_
    go_simp
    exact ⟨by kernel_rfl, by kernel_rfl, ((HV.out.set 1 _ rfl).set 0 _ rfl).fr⟩
  | true =>
    go_upto_region 4 with (fail)
    refine drawn_begin 5 (fun w' => w'.blk b1 = some (.cells xs 68)) (by kernel_rfl) ?_
    refine drawn_reads (fuel := 3) [0, 1, 2] rfl (by kernel_rfl) f1 ?_
    repeat (first | (refine rowK_step2 rfl rfl (fun K hK => ?_); go_wp2) | (refine rowK_step rfl (fun K hK => ?_); go_simp; refine hK _ ?_; clear hK K))
    refine rowK_nil ⟨fun w' e1 => ?_, ?_⟩
    · clear f1 f2 f3 t1 t2 t3
      have t1 := World.at_lt e1
      repeat (first | (refine rowWp_step2 rfl rfl (fun K hK => ?_); go_wp2) | (refine rowWp_step rfl (fun K hK => ?_); go_simp; refine hK _ ?_; clear hK K))
      exact rowWp_nil rfl
    refine drawn_next 3 (fuel := 2) rfl (by kernel_rfl) ?_
    intro K hK
    go_wp2_with fail
    refine ⟨by go_simp, ?_⟩
    refine named_world (A := fun X => OwB w [(b3, .cells Tryz.zeroCells65 65), (b2, .cells xs 68), (b1, .cells xs 68)] X) (Q := fun X => Go.Dr.wpAnyS Tryz.prog .any _ _ _ _ _ _ _ X) (HV.out.drew.set 1 _ rfl) ?_
    intro V1 hV1
    clear f1 f2 f3 t1 t2 t3 HV
    have f1 := hV1.nth 2 rfl
    have f2 := hV1.nth 1 rfl
    have f3 := hV1.nth 0 rfl
    have t1 := World.at_lt f1
    have t2 := World.at_lt f2
    have t3 := World.at_lt f3
    have HV1 := Lib.hid hV1
    clear hV1
    refine drawn_next 4 (fuel := 1) rfl (by kernel_rfl) ?_
    intro K hK
    go_wp2_with fail
    refine ⟨by go_simp, ?_⟩
    refine drawn_end rfl (by kernel_rfl) ?_
    intro K hK
    go_wp2_with fail
    refine ret_cell2_tmp rfl rfl rfl rfl ?_
    go_simp
    exact ⟨by kernel_rfl, by kernel_rfl, (HV1.out.set 0 _ rfl).fr⟩
end
end Go.Proofs.YtbhnfohoclcjdaaGreat
namespace Go.Proofs.YtbhnfohoclcjdaaGreat
open Go.RowKit Go.Dr Go.Kd
section
variable {w : World}
set_option maxRecDepth 100000 in
set_option maxHeartbeats 2000000 in
theorem dclaim1 {last : Int} {f y : Bn} {ls : List Bn} {hs : Bool} {a : Addr} {m c : Nat} (hf : BnOk f) (S : Sv 162 w (some a) m c (bnsL (y :: ls))) (hm : m = ls.length + 1) (hm1 : m ≤ 1000) (oky : BnOk y) (okl : ∀ x ∈ ls, BnOk x) :
    Calls Tryz.prog 32 #[.agg (shC hs f (some a) m c last)] w fun e w' => ∃ q m' c', e = .returned (.tuple #[.agg (shC hs f q m' c' last), .agg (bnC y), .bool true]) ∧ m' = ls.length ∧ BldV w [] 65 162 w' q m' c' (bnsL ls) := by
  obtain ⟨xs, hxs⟩ : ∃ xs, xs = shC hs f (some a) m c last := ⟨_, rfl⟩
  have X : ShF xs hs (bnC f) (some a) m c last := by rw [hxs]; exact shF hf
  obtain ⟨B, hB⟩ : ∃ B, B = bnC y := ⟨_, rfl⟩
  have szB : B.size = 162 := by rw [hB]; exact bnC_size oky
  have oneB : ones B.toList = true := by rw [hB]; exact List.all_eq_true.2 (cBundle_one _ _ _ _ _ _ rfl rfl)
  have allB : B.extract 0 162 = B := by rw [← szB]; exact Array.extract_size
  obtain ⟨g, o, cs, TT, fr, hp, g1, hs1, hs2, hx⟩ := S.elem (j := 0) (by omega)
  have hx2 : cs.extract o (o + 162) = B := by
    rw [Nat.zero_mul, Nat.add_zero] at hx
    rw [hx, hB, bnsL, List.flatMap_cons, List.drop_zero, List.take_append_of_le_length (by rw [Array.length_toList, bnC_size oky]; omega), List.take_of_length_le (by rw [Array.length_toList, bnC_size oky]; omega)]
  rw [Nat.zero_mul, Nat.add_zero] at hs2
  simp only [Option.some.injEq] at hp
  subst hp
  have hrest := sv_rest2 (u := (bnC y).toList) (us := bnsL ls) (by simpa [bnsL] using S) (by rw [Array.length_toList, bnC_size oky]) (by omega)
  have hcap := S.cap_
  have hlen : (bnC f).toList.length = 162 := by rw [Array.length_toList, bnC_size hf]
  rw [← hxs, ← hB]
  have HXS := Lib.hid hxs
  have HB := Lib.hid hB
  have HR := Lib.hid hrest
  have HM := Lib.hid hm
  have HOL := Lib.hid (bnsL_one ls)
  have HLen := Lib.hid hlen
  have HF := Lib.hid hf
  clear hxs hB S hrest hx hm hlen hf oky okl
  obtain ⟨sx, ⟨x0, x0'⟩, x1, ⟨x2, x2'⟩, ⟨x3, x3'⟩, xal, xon⟩ := X
  have z65 : Tryz.zeroCells65.size = 162 := by kernel_rfl
  have z68 : Tryz.zeroCells68.size = 165 := by kernel_rfl
  have hm0 : 0 < m := by have := HM.out; omega
  have d1 : ((m : Int) == 0) = false := by simp; omega
  have d1' : decide ((m : Int) = 0) = false := by simp; omega
  have d2 : decide ((1 : Int) ≤ (m : Int)) = true := by rw [decide_eq_true_eq]; omega
  have d3 : decide (0 < m) = true := by rw [decide_eq_true_eq]; omega
  have d4 : decide (1 ≤ m) = true := by rw [decide_eq_true_eq]; omega
  go_enter Tryz.func32, Tryz.ntmps32
  go_upto_region 1 with (fail)
  refine named_world (A := fun X => OwB w [(w.heap.size + 1 + 1, .cells Tryz.zeroCells65 65), (w.heap.size + 1, .cells Tryz.zeroCells68 68), (w.heap.size, .cells xs 68)] X) (Q := fun X => Code.wp _ _ _ _ X) ((((OwB.start w).allocN _ w.heap.size rfl).allocN _ (w.heap.size + 1) (by simp)).allocN _ (w.heap.size + 1 + 1) (by simp)) ?_
  intro V hV
  have ng : g < w.heap.size := World.at_lt g1
  have l1 := hV.low 2 rfl
  generalize w.heap.size + 1 + 1 = b3 at hV ⊢
  generalize w.heap.size + 1 = b2 at hV ⊢
  generalize hb1 : w.heap.size = b1 at hV l1 ⊢
  have f1 := hV.nth 2 rfl
  have t1 := World.at_lt f1
  have G := Lib.hid g1
  have fg := hV.fr.get g1 (by simp)
  have tg := World.at_lt fg
  have HV := Lib.hid hV
  clear hV g1
  go_upto_region 7 with (fail)
  refine named_world (A := fun X => OwB w [(V.heap.size, .cells B 65), (b3, .cells Tryz.zeroCells65 65), (b2, .cells Tryz.zeroCells68 68), (b1, .cells xs 68)] X) (Q := fun X => Code.wp _ _ _ _ X) (HV.out.allocN _ V.heap.size rfl) ?_
  intro V1 hV1
  clear f1 t1 fg tg
  generalize V.heap.size = b6 at hV1 ⊢
  have f1 := hV1.nth 3 rfl
  have t1 := World.at_lt f1
  have HV1 := Lib.hid hV1
  clear hV1 HV
  generalize hnil : (Value.slice none 0 0) = vn
  have HNil := Lib.hid hnil
  clear hnil
  go_wp2_with (refine wpList_app60F rfl _ _ rfl HNil.out.symm (BldV.nil HV1.out) rfl (HR.out.fr0 HV1.out.fr) HOL.out (by omega) ?_)
  all_goals
    intro q c' V2 hB2 hF2
    clear f1 t1 hF2
    obtain ⟨mm, hmm⟩ : ∃ mm, mm = m - 1 := ⟨_, rfl⟩
    rw [← hmm] at hB2 ⊢
    have hml : mm = ls.length := by rw [hmm, HM.out]; omega
    have HML := Lib.hid hml
    obtain ⟨ys, hys⟩ : ∃ ys, ys = shC hs f q mm c' last := ⟨_, rfl⟩
    have xset : xs.setIfInBounds 163 (.slice q mm c') = ys := by rw [HXS.out, hys]; exact cShelf_set_left _ _ _ _ _ HLen.out
    have Y : ShF ys hs (bnC f) q mm c' last := by rw [hys]; exact shF HF.out
    obtain ⟨sy, -, -, -, -, yal, yon⟩ := Y
    have HYS := Lib.hid hys
    have f1 := hB2.own.nth 3 rfl
    have t1 := World.at_lt f1
    have HB2 := Lib.hid hB2
    clear hB2 hys hmm hml
    go_upto_region 8 with (fail)
    refine named_world (A := fun X => BldV w [(b6, .cells B 65), (b3, .cells Tryz.zeroCells65 65), (b2, .cells Tryz.zeroCells68 68), (b1, .cells ys 68)] 65 162 X q mm c' (bnsL ls)) (Q := fun X => Code.wp _ _ _ _ X) (HB2.out.set 3 _ rfl) ?_
    intro V3 hB3
    clear f1 t1 xset HB2
    have f1 := hB3.own.nth 3 rfl
    have f2 := hB3.own.nth 2 rfl
    have f3 := hB3.own.nth 1 rfl
    have f6 := hB3.own.nth 0 rfl
    have t1 := World.at_lt f1
    have t2 := World.at_lt f2
    have t3 := World.at_lt f3
    have t6 := World.at_lt f6
    have n12 := hB3.own.ne 3 2 rfl rfl (by decide)
    have n13 := hB3.own.ne 3 1 rfl rfl (by decide)
    have n23 := hB3.own.ne 2 1 rfl rfl (by decide)
    have n26 := hB3.own.ne 2 0 rfl rfl (by decide)
    have n36 := hB3.own.ne 1 0 rfl rfl (by decide)
    have n21 := n12.symm
    have n31 := n13.symm
    have n32 := n23.symm
    have n62 := n26.symm
    have n63 := n36.symm
    have HB3 := Lib.hid hB3
    clear hB3
    refine drawn_begin 4 (fun w' => w'.blk b1 = some (.cells ys 68) ∧ w'.blk b6 = some (.cells B 65)) (by kernel_rfl) ?_
    refine drawn_reads (fuel := 3) [0, 1] rfl (by kernel_rfl) ⟨f1, f6⟩ ?_
    repeat (first | (refine rowK_step2 rfl rfl (fun K hK => ?_); go_wp2) | (refine rowK_step rfl (fun K hK => ?_); go_simp; refine hK _ ?_; clear hK K))
    refine rowK_nil ⟨fun w' e1 => ?_, ?_⟩
    · obtain ⟨e1, e2⟩ := e1
      clear f1 f2 f3 f6 t1 t2 t3 t6
      have t1 := World.at_lt e1
      have t2 := World.at_lt e2
      repeat (first | (refine rowWp_step2 rfl rfl (fun K hK => ?_); go_wp2) | (refine rowWp_step rfl (fun K hK => ?_); go_simp; refine hK _ ?_; clear hK K))
      exact rowWp_nil rfl
    refine drawn_next 2 (fuel := 2) rfl (by kernel_rfl) ?_
    intro K hK
    go_wp2_with fail
    refine ⟨⟨by go_simp, by go_simp⟩, ?_⟩
    refine named_world (A := fun X => BldV w [(b6, .cells B 65), (b3, .cells Tryz.zeroCells65 65), (b2, .cells ys 68), (b1, .cells ys 68)] 65 162 X q mm c' (bnsL ls)) (Q := fun X => Go.Dr.wpAnyS Tryz.prog .any _ _ _ _ _ _ _ X) ((HB3.out.call (Fr.refl [] V3).drew).set 2 _ rfl) ?_
    intro V4 hB4
    clear f1 f2 f3 f6 t1 t2 t3 t6 HB3
    have f1 := hB4.own.nth 3 rfl
    have f2 := hB4.own.nth 2 rfl
    have f3 := hB4.own.nth 1 rfl
    have f6 := hB4.own.nth 0 rfl
    have t1 := World.at_lt f1
    have t2 := World.at_lt f2
    have t3 := World.at_lt f3
    have HB4 := Lib.hid hB4
    clear hB4
    refine drawn_next 3 (fuel := 1) rfl (by kernel_rfl) ?_
    intro K hK
    go_wp2_with fail
    refine ⟨⟨by go_simp, by go_simp⟩, ?_⟩
    refine drawn_end rfl (by kernel_rfl) ?_
    intro K hK
    go_wp2_with fail
    refine ret_cell2_tmp rfl rfl rfl rfl ?_
    go_simp
    refine ⟨by kernel_rfl, by kernel_rfl, q, mm, c', HYS.out, HML.out, ?_⟩
    exact (HB4.out.set 1 _ rfl).sub (List.nil_sublist _)
end
section
variable {w0 w w' : World} {L : List (Nat × Obj)} {p : Option Addr} {n c : Nat}
theorem dclaim_x {last : Int} {f : Bn} {hs : Bool} {ls : List Bn} (hO : OwB w0 L w) (K : Lf w p n c (bnsL ls)) (ok : ∀ x ∈ ls, BnOk x) (ml : ls.length = n) (hn : n ≤ 1000) (hf : BnOk f) :
    Calls Tryz.prog 32 #[.agg (shC hs f p n c last)] w fun e w' => ∃ q m' c' u okb ls' M', e = .returned (.tuple #[.agg (shC hs f q m' c' last), .agg u, .bool okb]) ∧
      ls'.length = m' ∧ OwB w0 (M' ++ L) w' ∧ Kept q m' c' (bnsL ls') M' ∧ Fr [] w w' ∧ ClaimR hs f ls u okb ls' := by
  cases ls with
  | nil =>
    simp only [List.length_nil] at ml
    subst ml
    refine (dclaim0 hf).mono ?_
    rintro e w' ⟨rfl, F⟩
    exact ⟨p, 0, c, _, hs, [], [], rfl, rfl, hO.call F, K.emp.kept, F, .inr ⟨rfl, rfl, rfl, rfl⟩⟩
  | cons b ls =>
    simp only [List.length_cons] at ml
    subst ml
    obtain ⟨a, rfl, S⟩ := K.some_of
    refine (dclaim1 hf S rfl hn (ok b (by simp)) (fun x hx => ok x (by simp [hx]))).mono ?_
    rintro e w' ⟨q, m', c', rfl, rfl, B⟩
    obtain ⟨M', h1, h2⟩ := (BldV.lf B).keep (BldV.new59 B) hO B.own.fr
    exact ⟨q, _, c', bnC b, true, ls, M', rfl, rfl, h1, h2, B.own.fr, .inl ⟨b, rfl, rfl, rfl⟩⟩
end
end Go.Proofs.YtbhnfohoclcjdaaGreat
namespace Go.Proofs.YtbhnfohoclcjdaaGreat
open Go.RowKit Go.Dr Go.Kd
theorem Lf.sv {w : World} {p : Option Addr} {n c : Nat} {vs : List Value} (h : Lf w p n c vs) : Sv 162 w p n c vs := by
  rcases h with ⟨rfl, rfl, rfl, rfl⟩ | ⟨a, rfl, S⟩
  · exact ⟨rfl, Nat.le_refl _, .inl rfl, fun _ => rfl, by simp⟩
  · exact S
theorem fold_arr (base B : Array Value) (off n : Nat) (hn : n = B.size) (h : off + B.size ≤ base.size) : Array.foldl (fun cs x => cs.setIfInBounds (off + x.snd) x.fst) base B.zipIdx 0 n = spl base off B.toList := by
  subst hn
  rw [← foldl_spl off _ base (by simpa using h), show B.size = B.zipIdx.size by simp, ← Array.foldl_toList]
  simp
/-- What the document's Stock answers. -/
def DStockR (T : List Tm) (dv : Nat) (k1 k2 : List Int) (hs : Bool) (f : Bn) (ls : List Bn) (last : Int) (p : Option Addr) (m cap : Nat) (bs : List Bn) (w w' : World) (v : Value) : Prop :=
  ∃ r m' rc E hs' f' ls' last', v = .tuple #[.agg (shC hs' f' r m' rc last'), .int .i64 E] ∧ Fr [] w w' ∧ BnOk f' ∧ E = stockE T dv k1 k2 last m bs ∧
    ((E ≠ 0 ∧ r = p ∧ m' = m ∧ rc = cap ∧ hs' = hs ∧ f' = f ∧ ls' = ls ∧ last' = last) ∨
     (E = 0 ∧ BldV w [] 65 162 w' r m' rc (bnsL ls') ∧ hs' = true ∧ ∃ b l, bs = b :: l ∧ f' = b ∧ ls' = ls ++ l ∧ last' = lastF last (l.map Bn.id)))
section
variable {w : World}
set_option maxRecDepth 100000 in
set_option maxHeartbeats 4000000 in
theorem dstock_f {lo tb : Nat} {T : List Tm} {hs : Bool} {f : Bn} {ls bs : List Bn} {p q : Option Addr} {m n cap c : Nat} {last : Int} {dv : Nat} {k1 k2 : List Int} (h : DTabP lo tb w T) (hf : BnOk f)
    (SL : Lf w p m cap (bnsL ls)) (ml : ls.length = m) (hm : m ≤ 1000) (SB : Lf w q n c (bnsL bs)) (bl : bs.length = n) (hn : n ≤ 1000) (hbo : ∀ x ∈ bs, BnOk x) (hk1 : k1.length = 32) (hk2 : k2.length = 32) (hdv : dv < 256) (hl0 : 0 ≤ last) (hl1 : last < 65536) :
    Calls Tryz.prog 29 #[SU tb, .agg (shC hs f p m cap last), .int .u8 (dv : Int), .agg (ints .u8 k1), .agg (ints .u8 k2), .slice q n c] w fun e w' => ∃ v, e = .returned v ∧ DStockR T dv k1 k2 hs f ls last p m cap bs w w' v := by
  have H := Lib.hid h
  have HF := Lib.hid hf
  have HSL := Lib.hid SL
  have HSB := Lib.hid SB
  have HBL := Lib.hid bl
  have HBO := Lib.hid hbo
  have HML := Lib.hid ml
  obtain ⟨xs, hxs⟩ : ∃ xs, xs = shC hs f p m cap last := ⟨_, rfl⟩
  have X : ShF xs hs (bnC f) p m cap last := by rw [hxs]; exact shF hf
  rw [← hxs]
  have HXS := Lib.hid hxs
  have sk1 : (ints .u8 k1).size = 32 := by rw [size_ints, hk1]
  have sk2 : (ints .u8 k2).size = 32 := by rw [size_ints, hk2]
  clear h hf SL SB bl hbo hxs ml
  obtain ⟨sx, -, -, ⟨x2, x2'⟩, ⟨x3, x3'⟩, xal, xon⟩ := X
  have z68 : Tryz.zeroCells68.size = 165 := by kernel_rfl
  go_enter Tryz.func29, Tryz.ntmps29
  go_upto_region 1 with (fail)
  refine named_world (A := fun X => OwB w [(w.heap.size + 1 + 1 + 1 + 1, .cells Tryz.zeroCells68 68), (w.heap.size + 1 + 1 + 1, .cells (ints .u8 k2) 33), (w.heap.size + 1 + 1, .cells (ints .u8 k1) 33), (w.heap.size + 1, .cells xs 68), (w.heap.size, .cells #[.pointer (some ⟨tb, 0, none⟩)] 31)] X) (Q := fun X => Code.wp _ _ _ _ X) ((((((OwB.start w).allocN _ w.heap.size rfl).allocN _ (w.heap.size + 1) (by simp)).allocN _ (w.heap.size + 1 + 1) (by simp)).allocN _ (w.heap.size + 1 + 1 + 1) (by simp)).allocN _ (w.heap.size + 1 + 1 + 1 + 1) (by simp)) ?_
  intro V hV
  generalize w.heap.size + 1 + 1 + 1 + 1 = b12 at hV ⊢
  generalize w.heap.size + 1 + 1 + 1 = b10 at hV ⊢
  generalize w.heap.size + 1 + 1 = b9 at hV ⊢
  generalize w.heap.size + 1 = b7 at hV ⊢
  generalize w.heap.size = b6 at hV ⊢
  have HV := Lib.hid hV
  clear hV
  by_cases hn0 : n = 0
  · subst hn0
    have hbs : bs = [] := List.eq_nil_of_length_eq_zero HBL.out
    have HE : Hid (stockE T dv k1 k2 last m bs = 141) := Lib.hid (by rw [hbs]; rfl)
    clear hbs
    have f7 := HV.out.nth 3 rfl
    have f12 := HV.out.nth 0 rfl
    have t7 := World.at_lt f7
    have t12 := World.at_lt f12
    go_wp2_with fail
    refine ret_cell_tmp rfl rfl rfl ?_
    go_simp
    exact ⟨by kernel_rfl, p, m, cap, 141, hs, f, ls, last, by rw [HXS.out], (HV.out.set 0 _ rfl).fr, HF.out, HE.out.symm, .inl ⟨by decide, rfl, rfl, rfl, rfl, rfl, rfl, rfl⟩⟩
  · have dn0 : ((n : Int) == 0) = false := by simp; omega
    have dn2 : decide (0 < n) = true := by rw [decide_eq_true_eq]; omega
    have dn3 : decide ((0 : Int) < (n : Int)) = true := by rw [decide_eq_true_eq]; omega
    obtain ⟨x0, b, off, cs, TT, fr, hx0, rfl, fcw, hs1, hs2, hext⟩ := HSB.out.elem HBO.out HBL.out (j := 0) (by omega)
    have FCW := Lib.hid fcw
    clear fcw
    obtain ⟨l, hbs⟩ : ∃ l, bs = x0 :: l := by
      cases bs with
      | nil => cases hx0
      | cons z l => exact ⟨l, by simp at hx0; rw [hx0]⟩
    have ok0 := HBO.out x0 (by rw [hbs]; simp)
    have hid0 := el_ext (i := 65) hext hs2 (by omega)
    rw [cBundle_get_id _ _ _ _ _ _ ok0.al ok0.sl ok0.ol ok0.gl, Nat.zero_mul, Nat.add_zero] at hid0
    obtain ⟨hid1, hid2⟩ := Array.getElem?_eq_some_iff.1 hid0
    have HBS := Lib.hid hbs
    have HEX := Lib.hid hext
    have HOK0 := Lib.hid ok0
    have fc := HV.out.fr.get FCW.out (by simp)
    have tc := World.at_lt fc
    rw [Nat.zero_mul, Nat.add_zero] at hs2
    clear hbs hext hx0 ok0 hid0
    by_cases hid : x0.id = 0
    · have did : decide (x0.id > 0) = false := by rw [decide_eq_false_iff_not]; omega
      have did2 : decide (0 < x0.id) = false := did
      have HID := Lib.hid hid
      clear hid
      have f7 := HV.out.nth 3 rfl
      have t7 := World.at_lt f7
      obtain ⟨ids, hids⟩ : ∃ ids, ids = l.map Bn.id := ⟨_, rfl⟩
      have lids : ids.length = n - 1 := by
        have h1 := HBL.out
        rw [HBS.out, List.length_cons] at h1
        rw [hids, List.length_map]; omega
      have HIDS := Lib.hid hids
      have HLI := Lib.hid lids
      clear hids lids
      go_upto_region 5 with (fail)
      clear f7 t7 fc tc hid1 hid2 did did2
      go_loopw [14, 15] (fun v14 v15 wy => ∃ (i : Nat) (z : Int), 1 ≤ i ∧ i ≤ n ∧ v15 = .int .i64 (i : Int) ∧ v14 = .int .u16 z ∧ Hid (0 ≤ z ∧ z < 65536) ∧ Hid (risesF last ids = risesF z (ids.drop (i - 1)) ∧ lastF last ids = lastF z (ids.drop (i - 1))) ∧ Hid (OwB w [(b12, .cells Tryz.zeroCells68 68), (b10, .cells (ints .u8 k2) 33), (b9, .cells (ints .u8 k1) 33), (b7, .cells xs 68), (b6, .cells #[.pointer (some ⟨tb, 0, none⟩)] 31)] wy)) (fun _ v15 _ => (n - intOf v15).toNat)
      case atStart => exact ⟨1, last, by omega, by omega, rfl, rfl, Lib.hid ⟨hl0, hl1⟩, Lib.hid ⟨rfl, rfl⟩, HV⟩
      case round =>
        obtain ⟨i, z, hi1, hi9, rfl, rfl, hz, hri, hO⟩ := hrel
        by_cases hlt : i < n
        · have hd : decide ((i : Int) < (n : Int)) = true := by rw [decide_eq_true_eq]; omega
          obtain ⟨x, b', off', cs', TT', fr', hx, hq', fc', hs1', hs2', hext⟩ := HSB.out.elem HBO.out HBL.out (j := i) hlt
          simp only [Option.some.injEq, Addr.mk.injEq, and_true] at hq'
          obtain ⟨rfl, rfl⟩ := hq'
          rw [FCW.out] at fc'
          simp only [Option.some.injEq, Obj.cells.injEq] at fc'
          obtain ⟨rfl, rfl, rfl⟩ := fc'
          have fc := hO.out.fr.get FCW.out (by simp)
          have tc := World.at_lt fc
          have okx := HBO.out x (List.mem_of_getElem? hx)
          have xid := el_ext (i := 65) hext hs2' (by omega)
          rw [cBundle_get_id _ _ _ _ _ _ okx.al okx.sl okx.ol okx.gl] at xid
          obtain ⟨xid1, xid2⟩ := Array.getElem?_eq_some_iff.1 xid
          have hidi : ids[i - 1]? = some x.id := by
            have h2 : l[i - 1]? = some x := by
              obtain ⟨i', rfl⟩ : ∃ i', i = i' + 1 := ⟨i - 1, by omega⟩
              rw [HBS.out, List.getElem?_cons_succ] at hx
              exact hx
            rw [HIDS.out, List.getElem?_map, h2]; rfl
          have HIDI := Lib.hid hidi
          have HOX := Lib.hid okx
          have wi : IntKind.i64.wrap ((i : Int) + 1) = ((i + 1 : Nat) : Int) := by rw [IntKind.wrap_i64]; omega
          clear hext hx okx hidi
          by_cases hle : x.id ≤ z
          · have dl : decide (x.id ≤ z) = true := by rw [decide_eq_true_eq]; exact hle
            have HE : Hid (stockE T dv k1 k2 last m bs = 141) := Lib.hid (by
              rw [HBS.out]
              refine stockE_rise HID.out ?_
              rw [← HIDS.out, hri.out.1, risesF_drop HIDI.out, decide_eq_false (by omega)]
              rfl)
            have f7 := hO.out.nth 3 rfl
            have f12 := hO.out.nth 0 rfl
            have t7 := World.at_lt f7
            have t12 := World.at_lt f12
            go_wp2_with fail
            refine ret_cell_tmp rfl rfl rfl ?_
            go_simp
            exact ⟨by kernel_rfl, p, m, cap, 141, hs, f, ls, last, by rw [HXS.out], (hO.out.set 0 _ rfl).fr, HF.out, HE.out.symm, .inl ⟨by decide, rfl, rfl, rfl, rfl, rfl, rfl, rfl⟩⟩
          · have dl : decide (x.id ≤ z) = false := by rw [decide_eq_false_iff_not]; exact hle
            go_wp2_with fail
            go_roundw
            case rel =>
              refine ⟨i + 1, x.id, by omega, by omega, by first | rfl | simp, rfl, Lib.hid ⟨HOX.out.i0, HOX.out.i1⟩, Lib.hid ⟨?_, ?_⟩, hO⟩
              · rw [hri.out.1, risesF_drop HIDI.out, decide_eq_true (by omega), Bool.true_and, show i - 1 + 1 = i + 1 - 1 by omega]
              · rw [hri.out.2, lastF_drop HIDI.out, show i - 1 + 1 = i + 1 - 1 by omega]
            case measure => simp [intOf]; omega
        · obtain rfl : i = n := by omega
          have hd : decide ((i : Int) < (i : Int)) = false := by simp
          have hr1 : risesF last ids = true := by rw [hri.out.1, List.drop_eq_nil_of_le (by rw [HLI.out]; omega)]; rfl
          have hl9 : lastF last ids = z := by rw [hri.out.2, List.drop_eq_nil_of_le (by rw [HLI.out]; omega)]; rfl
          have HR1 := Lib.hid hr1
          have HL9 := Lib.hid hl9
          clear hr1 hl9
          go_upto_region 11 with (fail)
          clear hlt hd hi9
          go_loopw [16] (fun v16 wy => ∃ (j : Nat), j ≤ i ∧ v16 = .int .i64 (j : Int) ∧ Hid (∀ k y, k < j → bs[k]? = some y → goodB T dv k1 k2 y = true) ∧ Hid (OwB w [(b12, .cells Tryz.zeroCells68 68), (b10, .cells (ints .u8 k2) 33), (b9, .cells (ints .u8 k1) 33), (b7, .cells xs 68), (b6, .cells #[.pointer (some ⟨tb, 0, none⟩)] 31)] wy)) (fun v16 _ => (i - intOf v16).toNat)
          case atStart => exact ⟨0, by omega, rfl, Lib.hid (fun j y h => by omega), hO⟩
          case round =>
            clear hO
            obtain ⟨j, hj9, rfl, hgd, hO⟩ := hrel
            by_cases hlt : j < i
            · have hd : decide ((j : Int) < (i : Int)) = true := by rw [decide_eq_true_eq]; omega
              obtain ⟨x, b', off', cs', TT', fr', hx, hq', fc', hs1', hs2', hext⟩ := HSB.out.elem HBO.out HBL.out (j := j) hlt
              simp only [Option.some.injEq, Addr.mk.injEq, and_true] at hq'
              obtain ⟨rfl, rfl⟩ := hq'
              rw [FCW.out] at fc'
              simp only [Option.some.injEq, Obj.cells.injEq] at fc'
              obtain ⟨rfl, rfl, rfl⟩ := fc'
              have okx := HBO.out x (List.mem_of_getElem? hx)
              obtain ⟨X, hX⟩ : ∃ X, X = bnC x := ⟨_, rfl⟩
              rw [← hX] at hext
              have hszX : X.size = 162 := by rw [hX]; exact bnC_size okx
              have g0 := el_ext (i := 0) hext hs2' (by omega)
              have g0' : X[0]? = some (.int .u8 x.device) := by rw [hX]; exact cBundle_get_device _ _ _ _ _ _ okx.al okx.sl okx.ol okx.gl
              rw [g0', Nat.add_zero] at g0
              obtain ⟨g01, g02⟩ := Array.getElem?_eq_some_iff.1 g0
              have g1 : cs.extract (off + j * 162 + 1) (off + j * 162 + 1 + 32) = ints .u8 x.agree := by
                have e1 : X.extract 1 33 = ints .u8 x.agree := by rw [hX]; exact cBundle_ext_agree _ _ _ _ _ _ okx.al okx.sl okx.ol okx.gl
                rw [← e1, ← hext, Array.extract_extract]
                congr 1 <;> omega
              have g2 : cs.extract (off + j * 162 + 33) (off + j * 162 + 33 + 32) = ints .u8 x.signer := by
                have e1 : X.extract 33 65 = ints .u8 x.signer := by rw [hX]; exact cBundle_ext_signer _ _ _ _ _ _ okx.al okx.sl okx.ol okx.gl
                rw [← e1, ← hext, Array.extract_extract]
                congr 1 <;> omega
              obtain ⟨vb, hvb⟩ : ∃ vb, vb = verifyF T x.signer (bunText x) x.sig := ⟨_, rfl⟩
              have c1 : ∀ W : OwnW w [(b12, .cells Tryz.zeroCells68 68), (b10, .cells (ints .u8 k2) 33), (b9, .cells (ints .u8 k1) 33), (b7, .cells xs 68), (b6, .cells #[.pointer (some ⟨tb, 0, none⟩)] 31)], Calls Tryz.prog 62 #[SU tb, .agg X] W.w fun e w' => e = .returned (.bool vb) ∧ Fr [] W.w w' := fun W => by rw [hX, hvb]; exact dcheck_f (H.out.fr0 W.h.fr) okx
              have C1 := Lib.hid c1
              have lag := okx.al
              have lsg := okx.sl
              have HMX : Hid (x ∈ x0 :: l) := Lib.hid (by rw [← HBS.out]; exact List.mem_of_getElem? hx)
              have HX := Lib.hid hx
              have HVB := Lib.hid hvb
              have wj : IntKind.i64.wrap ((j : Int) + 1) = ((j + 1 : Nat) : Int) := by rw [IntKind.wrap_i64]; omega
              have hV := hO.out
              have hne : Nonempty (OwnW w [(b12, .cells Tryz.zeroCells68 68), (b10, .cells (ints .u8 k2) 33), (b9, .cells (ints .u8 k1) 33), (b7, .cells xs 68), (b6, .cells #[.pointer (some ⟨tb, 0, none⟩)] 31)]) := ⟨⟨_, hV⟩⟩
              have k6 : ∀ x : OwnW w [(b12, .cells Tryz.zeroCells68 68), (b10, .cells (ints .u8 k2) 33), (b9, .cells (ints .u8 k1) 33), (b7, .cells xs 68), (b6, .cells #[.pointer (some ⟨tb, 0, none⟩)] 31)], x.w.blk b6 = some (.cells #[.pointer (some ⟨tb, 0, none⟩)] 31) := fun x => x.nth rfl 4 rfl
              have k9 : ∀ x : OwnW w [(b12, .cells Tryz.zeroCells68 68), (b10, .cells (ints .u8 k2) 33), (b9, .cells (ints .u8 k1) 33), (b7, .cells xs 68), (b6, .cells #[.pointer (some ⟨tb, 0, none⟩)] 31)], x.w.blk b9 = some (.cells (ints .u8 k1) 33) := fun x => x.nth rfl 2 rfl
              have k10 : ∀ x : OwnW w [(b12, .cells Tryz.zeroCells68 68), (b10, .cells (ints .u8 k2) 33), (b9, .cells (ints .u8 k1) 33), (b7, .cells xs 68), (b6, .cells #[.pointer (some ⟨tb, 0, none⟩)] 31)], x.w.blk b10 = some (.cells (ints .u8 k2) 33) := fun x => x.nth rfl 1 rfl
              have kc : ∀ x : OwnW w [(b12, .cells Tryz.zeroCells68 68), (b10, .cells (ints .u8 k2) 33), (b9, .cells (ints .u8 k1) 33), (b7, .cells xs 68), (b6, .cells #[.pointer (some ⟨tb, 0, none⟩)] 31)], x.w.blk b = some (.cells cs TT fr) := fun x => x.h.fr.get FCW.out (by simp)
              have u6 : ∀ x : OwnW w [(b12, .cells Tryz.zeroCells68 68), (b10, .cells (ints .u8 k2) 33), (b9, .cells (ints .u8 k1) 33), (b7, .cells xs 68), (b6, .cells #[.pointer (some ⟨tb, 0, none⟩)] 31)], b6 < x.w.heap.size := fun x => World.at_lt (k6 x)
              have u9 : ∀ x : OwnW w [(b12, .cells Tryz.zeroCells68 68), (b10, .cells (ints .u8 k2) 33), (b9, .cells (ints .u8 k1) 33), (b7, .cells xs 68), (b6, .cells #[.pointer (some ⟨tb, 0, none⟩)] 31)], b9 < x.w.heap.size := fun x => World.at_lt (k9 x)
              have u10 : ∀ x : OwnW w [(b12, .cells Tryz.zeroCells68 68), (b10, .cells (ints .u8 k2) 33), (b9, .cells (ints .u8 k1) 33), (b7, .cells xs 68), (b6, .cells #[.pointer (some ⟨tb, 0, none⟩)] 31)], b10 < x.w.heap.size := fun x => World.at_lt (k10 x)
              have uc : ∀ x : OwnW w [(b12, .cells Tryz.zeroCells68 68), (b10, .cells (ints .u8 k2) 33), (b9, .cells (ints .u8 k1) 33), (b7, .cells xs 68), (b6, .cells #[.pointer (some ⟨tb, 0, none⟩)] 31)], b < x.w.heap.size := fun x => World.at_lt (kc x)
              have HGD := hgd
              clear hX okx hx hvb c1 g0' hgd
              obtain ⟨t, ht⟩ : ∃ t : Bool, t = !(goodB T dv k1 k2 x) := ⟨_, rfl⟩
              have HTT := Lib.hid ht
              clear ht
              go_upto_region 13 with (fail)
              go_cut [56, 57, 58, 59, 60, 61, 62, 63, 64, 65, 66, 67, 68, 69, 70, 71, 72, 73, 74, 75, 76, 77, 78, 79, 80, 81, 82, 83, 84, 85, 86, 87, 88, 89] (fun _ _ _ _ _ _ _ _ _ _ _ _ _ _ _ _ _ _ _ _ _ _ _ _ _ _ _ _ _ _ _ _ _ v89 wy => v89 = .bool t ∧ Hid (OwB w [(b12, .cells Tryz.zeroCells68 68), (b10, .cells (ints .u8 k2) 33), (b9, .cells (ints .u8 k1) 33), (b7, .cells xs 68), (b6, .cells #[.pointer (some ⟨tb, 0, none⟩)] 31)] wy))
              case first =>
                by_cases hA : x.device = (dv : Int)
                · have dA : (x.device != (dv : Int)) = false := by simp [hA]
                  have HA := Lib.hid hA
                  clear hA
                  by_cases hC : x.agree = k1
                  · have dC : decide (x.agree = k1) = true := by simp [hC]
                    have HC := Lib.hid hC
                    clear hC
                    by_cases hD : x.signer = k2
                    · have dD : decide (x.signer = k2) = true := by simp [hD]
                      have HD := Lib.hid hD
                      clear hD
                      have htv : t = !vb := by rw [HTT.out]; unfold goodB; rw [← HVB.out]; simp [HA.out, HC.out, HD.out]
                      have HTV := Lib.hid htv
                      clear htv
                      refine wp_region_own (by kernel_rfl) (by kernel_rfl) hV ?_
                      repeat (go_big_quiet_step (with_reducible first | exact Calls.own_of (C1.out _)))
                      refine wpQuiet_nil ?_
                      intro _ hw'
                      obtain ⟨⟨V9, hV9⟩, rfl⟩ := hw'
                      have HV9 := Lib.hid hV9
                      clear hne hV hV9 k6 k9 k10 kc u6 u9 u10 uc
                      go_wp2_with fail
                      go_meet
                      case rel => exact ⟨by rw [HTV.out], HV9⟩
                    · have dD : decide (x.signer = k2) = false := by simp [hD]
                      have htv : t = true := by rw [HTT.out]; unfold goodB; rw [decide_eq_true hD]; simp
                      subst htv
                      clear hD
                      refine wp_region_own (by kernel_rfl) (by kernel_rfl) hV ?_
                      repeat (go_big_quiet_step (with_reducible first | exact Calls.own_of (C1.out _)))
                      refine wpQuiet_nil ?_
                      intro _ hw'
                      obtain ⟨⟨V9, hV9⟩, rfl⟩ := hw'
                      have HV9 := Lib.hid hV9
                      clear hne hV hV9 k6 k9 k10 kc u6 u9 u10 uc
                      go_wp2_with fail
                      go_meet
                      case rel => exact ⟨rfl, HV9⟩
                  · have dC : decide (x.agree = k1) = false := by simp [hC]
                    have htv : t = true := by rw [HTT.out]; unfold goodB; rw [decide_eq_true hC]; simp
                    subst htv
                    clear hC
                    refine wp_region_own (by kernel_rfl) (by kernel_rfl) hV ?_
                    repeat (go_big_quiet_step (with_reducible first | exact Calls.own_of (C1.out _)))
                    refine wpQuiet_nil ?_
                    intro _ hw'
                    obtain ⟨⟨V9, hV9⟩, rfl⟩ := hw'
                    have HV9 := Lib.hid hV9
                    clear hne hV hV9 k6 k9 k10 kc u6 u9 u10 uc
                    go_wp2_with fail
                    go_meet
                    case rel => exact ⟨rfl, HV9⟩
                · have dA : (x.device != (dv : Int)) = true := by simp [hA]
                  have htv : t = true := by rw [HTT.out]; unfold goodB; rw [decide_eq_true hA]; simp
                  subst htv
                  clear hA
                  refine wp_region_own (by kernel_rfl) (by kernel_rfl) hV ?_
                  repeat (go_big_quiet_step (with_reducible first | exact Calls.own_of (C1.out _)))
                  refine wpQuiet_nil ?_
                  intro _ hw'
                  obtain ⟨⟨V9, hV9⟩, rfl⟩ := hw'
                  have HV9 := Lib.hid hV9
                  clear hne hV hV9 k6 k9 k10 kc u6 u9 u10 uc
                  go_wp2_with fail
                  go_meet
                  case rel => exact ⟨rfl, HV9⟩
              case rest =>
                obtain ⟨rfl, hO9⟩ := hcut
                clear hne hV k6 k9 k10 kc u6 u9 u10 uc
                cases t with
                | true =>
                  have HBAD : Hid (goodB T dv k1 k2 x = false) := Lib.hid (by have := HTT.out; simpa using this.symm)
                  have HE : Hid (stockE T dv k1 k2 last m bs = 191) := Lib.hid (by rw [HBS.out]; exact stockE_good HID.out (by rw [← HIDS.out]; exact HR1.out) (all_false HMX.out HBAD.out))
                  have f7 := hO9.out.nth 3 rfl
                  have f12 := hO9.out.nth 0 rfl
                  have t7 := World.at_lt f7
                  have t12 := World.at_lt f12
                  go_wp2_with fail
                  refine ret_cell_tmp rfl rfl rfl ?_
                  go_simp
                  exact ⟨by kernel_rfl, p, m, cap, 191, hs, f, ls, last, by rw [HXS.out], (hO9.out.set 0 _ rfl).fr, HF.out, HE.out.symm, .inl ⟨by decide, rfl, rfl, rfl, rfl, rfl, rfl, rfl⟩⟩
                | false =>
                  go_wp2_with fail
                  go_roundw
                  case rel =>
                    refine ⟨j + 1, by omega, by first | rfl | simp, Lib.hid (fun k y hk hy => ?_), hO9⟩
                    rcases Nat.lt_or_ge k j with h | h
                    · exact HGD.out k y h hy
                    · obtain rfl : k = j := by omega
                      have h2 := HX.out
                      rw [hy] at h2
                      injection h2 with h2
                      subst h2
                      have := HTT.out
                      simpa using this.symm
                  case measure => simp [intOf]; omega
            · obtain rfl : j = i := by omega
              have hd : decide ((j : Int) < (j : Int)) = false := by simp
              have HGA : Hid ((x0 :: l).all (goodB T dv k1 k2) = true) := Lib.hid (by
                rw [List.all_eq_true]
                intro y hy
                rw [← HBS.out] at hy
                obtain ⟨k, hk, rfl⟩ := List.getElem_of_mem hy
                exact hgd.out k _ (by rw [HBL.out] at hk; exact hk) (List.getElem?_eq_getElem hk))
              have f7 := hO.out.nth 3 rfl
              have t7 := World.at_lt f7
              have hll : l.length + 1 = j := by rw [← HBL.out, HBS.out]; rfl
              have HLL := Lib.hid hll
              clear hgd
              have wa : IntKind.i64.wrap ((m : Int) + (j : Int)) = (m : Int) + (j : Int) := by rw [IntKind.wrap_i64]; omega
              have wb : IntKind.i64.wrap ((m : Int) + (j : Int) - 1) = (m : Int) + (j : Int) - 1 := by rw [IntKind.wrap_i64]; omega
              by_cases hful : 8 < l.length + m
              · have d8 : decide ((m : Int) + (j : Int) - 1 > 8) = true := by rw [decide_eq_true_eq]; omega
                have d8' : decide ((8 : Int) < (m : Int) + (j : Int) - 1) = true := d8
                have HE : Hid (stockE T dv k1 k2 last m bs = 4) := Lib.hid (by rw [HBS.out]; exact stockE_full HID.out (by rw [← HIDS.out]; exact HR1.out) HGA.out hful)
                clear f7 t7 hll hful
                have f7 := hO.out.nth 3 rfl
                have f12 := hO.out.nth 0 rfl
                have t7 := World.at_lt f7
                have t12 := World.at_lt f12
                go_wp2_with fail
                refine ret_cell_tmp rfl rfl rfl ?_
                go_simp
                exact ⟨by kernel_rfl, p, m, cap, 4, hs, f, ls, last, by rw [HXS.out], (hO.out.set 0 _ rfl).fr, HF.out, HE.out.symm, .inl ⟨by decide, rfl, rfl, rfl, rfl, rfl, rfl, rfl⟩⟩
              · have d8 : decide ((m : Int) + (j : Int) - 1 > 8) = false := by rw [decide_eq_false_iff_not]; omega
                have d8' : decide ((8 : Int) < (m : Int) + (j : Int) - 1) = false := d8
                have HE : Hid (stockE T dv k1 k2 last m bs = 0) := Lib.hid (by rw [HBS.out]; exact stockE_ok HID.out (by rw [← HIDS.out]; exact HR1.out) HGA.out hful)
                have HSLV := Lib.hid (HSL.out.sv)
                have hml8 : m ≤ 8 := by omega
                clear hll hful
                have hcap : j ≤ c := by
                  rcases HSB.out with ⟨_, h0, _⟩ | ⟨a, _, S⟩
                  · omega
                  · exact S.cap_
                go_upto_region 18 with (fail)
                generalize hnil : (Value.slice none 0 0) = vn
                have HNil := Lib.hid hnil
                clear hnil
                go_wp2_with (refine wpList_app60F rfl _ _ rfl HNil.out.symm (BldV.nil hO.out) rfl (HSLV.out.fr0 hO.out.fr) (bnsL_one ls) (by omega) ?_)
                intro r rc V2 hB2 hF2
                have HB2 := Lib.hid hB2
                have fc := hB2.own.fr.get FCW.out (by simp)
                have tc := World.at_lt fc
                obtain ⟨B0, hB0⟩ : ∃ B0, B0 = bnC x0 := ⟨_, rfl⟩
                have hx0 : cs.extract off (off + 162) = B0 := by
                  have h := HEX.out
                  rw [Nat.zero_mul, Nat.add_zero] at h
                  rw [h, hB0]
                have szB0 : B0.size = 162 := by rw [hB0]; exact bnC_size HOK0.out
                have oneB0 : ones B0.toList = true := by rw [hB0]; exact List.all_eq_true.2 (cBundle_one _ _ _ _ _ _ rfl rfl)
                have allB0 : B0.extract 0 162 = B0 := by rw [← szB0]; exact Array.extract_size
                have HB0 := Lib.hid hB0
                have dj1 : decide ((1 : Int) ≤ (j : Int)) = true := by rw [decide_eq_true_eq]; omega
                have dj2 : decide (1 ≤ j) = true := by rw [decide_eq_true_eq]; omega
                have hj1 : 1 ≤ j := by omega
                have hSV := sv_rest2 (u := (bnC x0).toList) (us := bnsL l) (m := j) (c := c) (g := b) (o := off) (w := w) (by have h := HSB.out.sv; rw [HBS.out] at h; simpa [bnsL] using h) (by rw [Array.length_toList, bnC_size HOK0.out]) (by omega)
                have HSV := Lib.hid hSV
                clear hB2 hF2 hB0 hSV f7 t7
                go_upto_region 19 with (fail)
                have hz68b : Tryz.zeroCells68.size = 165 := z68
                by_cases hc1 : c = 1
                · subst hc1
                  have HSW : Hid (Sv 162 w (some ⟨b, off, none⟩) 0 (0) (bnsL l)) := Lib.hid (by have h := HSV.out; rw [if_pos rfl, show j - 1 = 0 by omega] at h; exact h)
                  refine drawn_begin 9 (fun w' => w'.blk b = some (.cells cs TT fr)) (by kernel_rfl) ?_
                  refine drawn_reads (fuel := 4) [0, 1, 2, 3, 4, 5, 7] rfl (by kernel_rfl) fc ?_
                  repeat (first | (refine rowK_step2 rfl rfl (fun K hK => ?_); go_wp2) | (refine rowK_step rfl (fun K hK => ?_); go_simp; refine hK _ ?_; clear hK K))
                  refine rowK_nil ⟨fun w' e1 => ?_, ?_⟩
                  · clear fc tc
                    have tc := World.at_lt e1
                    repeat (first | (refine rowWp_step2 rfl rfl (fun K hK => ?_); go_wp2) | (refine rowWp_step rfl (fun K hK => ?_); go_simp; refine hK _ ?_; clear hK K))
                    exact rowWp_nil rfl
                  refine drawn_next 6 (fuel := 3) rfl (by kernel_rfl) ?_
                  intro K hK
                  refine wpList_app60F rfl _ _ rfl rfl (HB2.out.call (Fr.refl [] V2).drew) rfl (HSW.out.fr0 HB2.out.own.fr.drew) (bnsL_one l) (by omega) ?_
                  intro r2 rc2 V3 hB3 hF3
                  have HB3 := Lib.hid hB3
                  clear fc tc hF3
                  have fc := hB3.own.fr.get FCW.out (by simp)
                  have tc := World.at_lt fc
                  clear hB3
                  refine wpList_nil ?_
                  refine hK _ _ ⟨fc, ?_⟩
                  clear hK K
                  obtain ⟨mm, hmm⟩ : ∃ mm, mm = m + 0 := ⟨_, rfl⟩
                  rw [← hmm] at HB3 ⊢
                  have HMM := Lib.hid hmm
                  clear hmm
                  obtain ⟨ys, hys⟩ : ∃ ys, ys = shC true x0 r2 mm rc2 z := ⟨_, rfl⟩
                  have Y : ShF ys true (bnC x0) r2 mm rc2 z := by rw [hys]; exact shF HOK0.out
                  obtain ⟨sy, -, -, -, -, yal, yon⟩ := Y
                  have eY : ((spl (Tryz.zeroCells68.setIfInBounds 0 (.bool true)) 1 B0.toList).setIfInBounds 163 (.slice r2 mm rc2)).setIfInBounds 164 (.int .u16 z) = ys := by
                    have hz : Tryz.zeroCells68 = (cShelf (.bool false) Tryz.zeroCells65.toList (.slice none 0 0) (.int .u16 0)).toArray := by kernel_rfl
                    have l0 : Tryz.zeroCells65.toList.length = 162 := by kernel_rfl
                    have l1 : B0.toList.length = 162 := by rw [Array.length_toList, szB0]
                    rw [hz, cShelf_set_has _ _ _ _ _ l0, cShelf_spl_fall _ _ _ _ _ l0 l1, cShelf_set_left _ _ _ _ _ l1, cShelf_set_last _ _ _ _ _ l1, hys, HB0.out]
                  have eF : Array.foldl (fun cs x => cs.setIfInBounds (1 + x.snd) x.fst) (Tryz.zeroCells68.setIfInBounds 0 (.bool true)) B0.zipIdx 0 162 = spl (Tryz.zeroCells68.setIfInBounds 0 (.bool true)) 1 B0.toList := fold_arr _ B0 1 162 szB0.symm (by rw [Array.size_setIfInBounds, hz68b, szB0]; omega)
                  have sS : (spl (Tryz.zeroCells68.setIfInBounds 0 (.bool true)) 1 B0.toList).size = 165 := (size_spl _ _ _ (by rw [Array.size_setIfInBounds, hz68b, Array.length_toList, szB0]; omega)).trans (by rw [Array.size_setIfInBounds, hz68b])
                  have HYS := Lib.hid hys
                  clear hys
                  refine drawn_reads (fuel := 2) [8] rfl (by kernel_rfl) fc ?_
                  repeat (first | (refine rowK_step2 rfl rfl (fun K hK => ?_); go_wp2) | (refine rowK_step rfl (fun K hK => ?_); go_simp; refine hK _ ?_; clear hK K))
                  refine rowK_nil ⟨fun w' e1 => ?_, ?_⟩
                  · clear fc tc
                    repeat (first | (refine rowWp_step2 rfl rfl (fun K hK => ?_); go_wp2) | (refine rowWp_step rfl (fun K hK => ?_); go_simp; refine hK _ ?_; clear hK K))
                    exact rowWp_nil rfl
                  have f12 := HB3.out.own.nth 0 rfl
                  have t12 := World.at_lt f12
                  refine drawn_end rfl (by kernel_rfl) ?_
                  intro K hK
                  go_wp2_with fail
                  refine ret_cell_tmp rfl rfl rfl ?_
                  go_simp
                  refine ⟨by kernel_rfl, r2, mm, rc2, 0, true, x0, ls ++ l, z, by rw [HYS.out], (HB3.out.own.set 0 _ rfl).fr, HOK0.out, HE.out.symm, .inr ⟨rfl, ?_, rfl, x0, l, HBS.out, rfl, rfl, by rw [← HL9.out, HIDS.out]⟩⟩
                  rw [bnsL_append]
                  exact (HB3.out.set 0 _ rfl).sub (List.nil_sublist _)
                · skip
                  have HSW : Hid (Sv 162 w (some ⟨b, off + 162, none⟩) (j - 1) (c - 1) (bnsL l)) := Lib.hid (by have h := HSV.out; rw [if_neg hc1] at h; exact h)
                  refine drawn_begin 9 (fun w' => w'.blk b = some (.cells cs TT fr)) (by kernel_rfl) ?_
                  refine drawn_reads (fuel := 4) [0, 1, 2, 3, 4, 5, 7] rfl (by kernel_rfl) fc ?_
                  repeat (first | (refine rowK_step2 rfl rfl (fun K hK => ?_); go_wp2) | (refine rowK_step rfl (fun K hK => ?_); go_simp; refine hK _ ?_; clear hK K))
                  refine rowK_nil ⟨fun w' e1 => ?_, ?_⟩
                  · clear fc tc
                    have tc := World.at_lt e1
                    repeat (first | (refine rowWp_step2 rfl rfl (fun K hK => ?_); go_wp2) | (refine rowWp_step rfl (fun K hK => ?_); go_simp; refine hK _ ?_; clear hK K))
                    exact rowWp_nil rfl
                  refine drawn_next 6 (fuel := 3) rfl (by kernel_rfl) ?_
                  intro K hK
                  refine wpList_app60F rfl _ _ rfl rfl (HB2.out.call (Fr.refl [] V2).drew) rfl (HSW.out.fr0 HB2.out.own.fr.drew) (bnsL_one l) (by omega) ?_
                  intro r2 rc2 V3 hB3 hF3
                  have HB3 := Lib.hid hB3
                  clear fc tc hF3
                  have fc := hB3.own.fr.get FCW.out (by simp)
                  have tc := World.at_lt fc
                  clear hB3
                  refine wpList_nil ?_
                  refine hK _ _ ⟨fc, ?_⟩
                  clear hK K
                  obtain ⟨mm, hmm⟩ : ∃ mm, mm = m + (j - 1) := ⟨_, rfl⟩
                  rw [← hmm] at HB3 ⊢
                  have HMM := Lib.hid hmm
                  clear hmm
                  obtain ⟨ys, hys⟩ : ∃ ys, ys = shC true x0 r2 mm rc2 z := ⟨_, rfl⟩
                  have Y : ShF ys true (bnC x0) r2 mm rc2 z := by rw [hys]; exact shF HOK0.out
                  obtain ⟨sy, -, -, -, -, yal, yon⟩ := Y
                  have eY : ((spl (Tryz.zeroCells68.setIfInBounds 0 (.bool true)) 1 B0.toList).setIfInBounds 163 (.slice r2 mm rc2)).setIfInBounds 164 (.int .u16 z) = ys := by
                    have hz : Tryz.zeroCells68 = (cShelf (.bool false) Tryz.zeroCells65.toList (.slice none 0 0) (.int .u16 0)).toArray := by kernel_rfl
                    have l0 : Tryz.zeroCells65.toList.length = 162 := by kernel_rfl
                    have l1 : B0.toList.length = 162 := by rw [Array.length_toList, szB0]
                    rw [hz, cShelf_set_has _ _ _ _ _ l0, cShelf_spl_fall _ _ _ _ _ l0 l1, cShelf_set_left _ _ _ _ _ l1, cShelf_set_last _ _ _ _ _ l1, hys, HB0.out]
                  have eF : Array.foldl (fun cs x => cs.setIfInBounds (1 + x.snd) x.fst) (Tryz.zeroCells68.setIfInBounds 0 (.bool true)) B0.zipIdx 0 162 = spl (Tryz.zeroCells68.setIfInBounds 0 (.bool true)) 1 B0.toList := fold_arr _ B0 1 162 szB0.symm (by rw [Array.size_setIfInBounds, hz68b, szB0]; omega)
                  have sS : (spl (Tryz.zeroCells68.setIfInBounds 0 (.bool true)) 1 B0.toList).size = 165 := (size_spl _ _ _ (by rw [Array.size_setIfInBounds, hz68b, Array.length_toList, szB0]; omega)).trans (by rw [Array.size_setIfInBounds, hz68b])
                  have HYS := Lib.hid hys
                  clear hys
                  refine drawn_reads (fuel := 2) [8] rfl (by kernel_rfl) fc ?_
                  repeat (first | (refine rowK_step2 rfl rfl (fun K hK => ?_); go_wp2) | (refine rowK_step rfl (fun K hK => ?_); go_simp; refine hK _ ?_; clear hK K))
                  refine rowK_nil ⟨fun w' e1 => ?_, ?_⟩
                  · clear fc tc
                    repeat (first | (refine rowWp_step2 rfl rfl (fun K hK => ?_); go_wp2) | (refine rowWp_step rfl (fun K hK => ?_); go_simp; refine hK _ ?_; clear hK K))
                    exact rowWp_nil rfl
                  have f12 := HB3.out.own.nth 0 rfl
                  have t12 := World.at_lt f12
                  refine drawn_end rfl (by kernel_rfl) ?_
                  intro K hK
                  go_wp2_with fail
                  refine ret_cell_tmp rfl rfl rfl ?_
                  go_simp
                  refine ⟨by kernel_rfl, r2, mm, rc2, 0, true, x0, ls ++ l, z, by rw [HYS.out], (HB3.out.own.set 0 _ rfl).fr, HOK0.out, HE.out.symm, .inr ⟨rfl, ?_, rfl, x0, l, HBS.out, rfl, rfl, by rw [← HL9.out, HIDS.out]⟩⟩
                  rw [bnsL_append]
                  exact (HB3.out.set 0 _ rfl).sub (List.nil_sublist _)
    · have hp := HOK0.out.i0
      have did : decide (x0.id > 0) = true := by rw [decide_eq_true_eq]; omega
      have did2 : decide (0 < x0.id) = true := did
      have HE : Hid (stockE T dv k1 k2 last m bs = 141) := Lib.hid (by rw [HBS.out]; exact stockE_id hid)
      have f7 := HV.out.nth 3 rfl
      have f12 := HV.out.nth 0 rfl
      have t7 := World.at_lt f7
      have t12 := World.at_lt f12
      go_wp2_with fail
      refine ret_cell_tmp rfl rfl rfl ?_
      go_simp
      exact ⟨by kernel_rfl, p, m, cap, 141, hs, f, ls, last, by rw [HXS.out], (HV.out.set 0 _ rfl).fr, HF.out, HE.out.symm, .inl ⟨by decide, rfl, rfl, rfl, rfl, rfl, rfl, rfl⟩⟩
end
end Go.Proofs.YtbhnfohoclcjdaaGreat
