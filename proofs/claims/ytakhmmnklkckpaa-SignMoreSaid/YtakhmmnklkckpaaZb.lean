/- The package field: carry, Add, Sub, Neg. '==' of two arrays of whole numbers. The package field: Of. The package field: Bytes. The package field: sums of products. The package field: Mul. The package field: what its calls do, modulo p; power, Inv. The package field: Root. -/
import Derived.Test.YtakhmmnklkckpaaZa
import Derived.Test.YtakhmmnklkckpaaChecked
import Derived.Deep.DeepCutAuto
import Derived.ChangeKeysEq
import Derived.Laws.BitsAllLaws
import Derived.Test.YtakhmmnklkckpaaZp
import Derived.Laws.Externs
import Derived.Laws.MathBits
namespace Go
section
variable {P : Program} {fn : Func} {R : Ending → World → Prop} {a : Act} {w : World}
/-- Is the type a struct or an array of so many cells? -/
def aggB (P : Program) (ty : TypeId) (n : Nat) : Bool :=
  (match P.underlying ty with | some (.struct _) => true | some (.array _ _) => true | _ => false) && (P.info? ty).map (·.size) == some n
theorem run_loadVar_agg {ty b : Nat} {cs : Array Value} {T : TypeId} {fr : Nat × Nat} (hb : w.blk b = some (.cells cs T fr)) (h : aggB P ty cs.size = true) :
    (loadVar ty ⟨b, 0, none⟩).run P w = .ok (.agg cs) w := by
  unfold aggB at h
  rw [Bool.and_eq_true] at h
  obtain ⟨h1, h2⟩ := h
  cases hu : P.underlying ty with
  | none => rw [hu] at h1; cases h1
  | some d =>
    rw [hu] at h1
    exact run_loadVar_row w b T ty cs fr d hb hu (by cases d <;> first | rfl | cases h1) (by simpa using h2)
/-- What lies there, as the call's result. -/
def cellRet (P : Program) (ty : TypeId) (o : Option Obj) (K : Value → Prop) : Prop :=
  match o with
  | some (.cells cs _ _) => aggB P ty cs.size = true ∧ K (.agg cs)
  | _ => False
theorem ret_cell {p ty b : Nat} (h : fn.results = #[.cell p ty]) (hp : a.tmps.getD p undef = .pointer (some ⟨b, 0, none⟩)) (hd : a.defers = [])
    (hR : cellRet P ty (w.blk b) (fun v => R (.returned v) w)) : bodyPost P fn R .ret a w := by
  unfold cellRet at hR
  split at hR
  · rename_i cs T fr hb
    refine bodyPost_ret (v := .agg cs) ?_ hd hR.2
    have hp' : a.tmps[p]?.getD undef = .pointer (some ⟨b, 0, none⟩) := by simpa using hp
    simp [results, h, hp', asAddr, run_loadVar_agg hb hR.1]
  · exact hR.elim
theorem ret_cell_tmp {p ty b u : Nat} (h : fn.results = #[.cell p ty, .tmp u]) (hp : a.tmps.getD p undef = .pointer (some ⟨b, 0, none⟩)) (hd : a.defers = [])
    (hR : cellRet P ty (w.blk b) (fun v => R (.returned (.tuple #[v, a.tmps.getD u undef])) w)) : bodyPost P fn R .ret a w := by
  unfold cellRet at hR
  split at hR
  · rename_i cs T fr hb
    refine bodyPost_ret (v := .tuple #[.agg cs, a.tmps.getD u undef]) ?_ hd hR.2
    have hp' : a.tmps[p]?.getD undef = .pointer (some ⟨b, 0, none⟩) := by simpa using hp
    simp [results, h, hp', asAddr, run_loadVar_agg hb hR.1]
  · exact hR.elim
end
attribute [go_sem] cellRet
theorem run_index_ints {P : Program} {t e n : Nat} (ht : P.underlying t = some (.array n e)) (h1 : ∀ w, (isAgg e).run P w = .ok false w) (h2 : ∀ w, (sizeOf e).run P w = .ok 1 w)
    (w : World) (k : IntKind) (l : List Int) (ki : IntKind) (i : Int) (h0 : 0 ≤ i) (hi : i < n) (hl : l.length = n) :
    (Instr.index t (.agg (ints k l)) (.int ki i)).run P w = .ok (.int k (el l i.toNat)) w := by
  have hh : 0 ≤ i ∧ i < (n : Int) := ⟨h0, hi⟩
  have hb : (ints k l)[i.toNat]? = some (.int k (el l i.toNat)) := getElem?_ints k l _ (by omega)
  simp [Instr.index, run_underlying ht, asIntOf, hh, part, h1, h2, hb, go_sem]
end Go
namespace Go.Proofs.Ytakhmmnklkckpaa
open Go.RowKit Go.Dr

@[go_sem] theorem agg28 : aggB Try.prog 28 5 = true := by kernel_rfl
@[go_sem] theorem agg22 : aggB Try.prog 22 32 = true := by kernel_rfl
@[go_sem] theorem agg80 : aggB Try.prog 80 2 = true := by kernel_rfl
@[go_sem] theorem zero26 (w : World) : (zeroValue 26).run Try.prog w = .ok (.agg (ints .u64 (zs 5))) w := by kernel_rfl
@[go_sem] theorem zero28 (w : World) : (zeroValue 28).run Try.prog w = .ok (.agg (ints .u64 (zs 5))) w := by kernel_rfl
@[go_sem] theorem zero22 (w : World) : (zeroValue 22).run Try.prog w = .ok (.agg (ints .u8 (zs 32))) w := by kernel_rfl
@[go_sem] theorem zero75 (w : World) : (zeroValue 75).run Try.prog w = .ok (.agg (ints .u64 (zs 4))) w := by kernel_rfl
@[go_sem] theorem zero80 (w : World) : (zeroValue 80).run Try.prog w = .ok (.agg (ints .u64 (zs 2))) w := by kernel_rfl
@[go_sem] theorem zero81 (w : World) : (zeroValue 81).run Try.prog w = .ok (.agg (ints .u64 (zs 10))) w := by kernel_rfl

@[go_sem] theorem ix22 (w : World) (l : List Int) (ki : IntKind) (i : Int) (h0 : 0 ≤ i) (hi : i < 32) (hl : l.length = 32) :
    (Instr.index 22 (.agg (ints .u8 l)) (.int ki i)).run Try.prog w = .ok (.int .u8 (el l i.toNat)) w :=
  run_index_ints Try.underlying22 (fun w => by kernel_rfl) (fun w => by kernel_rfl) w _ l ki i h0 hi hl
@[go_sem] theorem ix26 (w : World) (l : List Int) (ki : IntKind) (i : Int) (h0 : 0 ≤ i) (hi : i < 5) (hl : l.length = 5) :
    (Instr.index 26 (.agg (ints .u64 l)) (.int ki i)).run Try.prog w = .ok (.int .u64 (el l i.toNat)) w :=
  run_index_ints Try.underlying26 (fun w => by kernel_rfl) (fun w => by kernel_rfl) w _ l ki i h0 hi hl
/-- A number of the code. -/
@[go_sem] def fe (l : List Int) : Value := .agg (ints .u64 l)
/-- Five limbs, each below a bound. -/
structure Lim (B : Int) (l : List Int) : Prop where
  len : l.length = 5
  b0 : 0 ≤ el l 0 ∧ el l 0 < B
  b1 : 0 ≤ el l 1 ∧ el l 1 < B
  b2 : 0 ≤ el l 2 ∧ el l 2 < B
  b3 : 0 ≤ el l 3 ∧ el l 3 < B
  b4 : 0 ≤ el l 4 ∧ el l 4 < B
theorem Lim.at_ {B : Int} {l : List Int} (h : Lim B l) (k : Nat) (hk : k < 5) : 0 ≤ el l k ∧ el l k < B := by
  obtain ⟨_, h0, h1, h2, h3, h4⟩ := h
  match k, hk with
  | 0, _ => exact h0
  | 1, _ => exact h1
  | 2, _ => exact h2
  | 3, _ => exact h3
  | 4, _ => exact h4
theorem Lim.mk' {B : Int} {l : List Int} (hl : l.length = 5) (h : ∀ k, k < 5 → 0 ≤ el l k ∧ el l k < B) : Lim B l :=
  ⟨hl, h 0 (by omega), h 1 (by omega), h 2 (by omega), h 3 (by omega), h 4 (by omega)⟩
theorem Lim.mono {B C : Int} {l : List Int} (h : Lim B l) (hBC : B ≤ C) : Lim C l :=
  Lim.mk' h.len fun k hk => ⟨(h.at_ k hk).1, Int.lt_of_lt_of_le (h.at_ k hk).2 hBC⟩
theorem wrap64 (x : Int) (h0 : 0 ≤ x) (h1 : x < 18446744073709551616) : IntKind.u64.wrap x = x := by
  simp only [IntKind.wrap, IntKind.bits, IntKind.signed, Bool.false_and, Bool.false_eq_true, ↓reduceIte, Int.reducePow]
  omega
theorem wrapI (x : Int) (h0 : -9223372036854775808 ≤ x) (h1 : x < 9223372036854775808) : IntKind.i64.wrap x = x := by rw [IntKind.wrap_i64]; omega
theorem and51 (z : Int) (h0 : 0 ≤ z) (h1 : z < 18446744073709551616) : bits .and .u64 z 2251799813685247 = z % 2251799813685248 := by go_bits2
/-- What the limbs say. -/
def val (l : List Int) : Int := el l 0 + 2251799813685248 * el l 1 + 5070602400912917605986812821504 * el l 2 + 11417981541647679048466287755595961091061972992 * el l 3 + 25711008708143844408671393477458601640355247900524685364822016 * el l 4
def carryL (l : List Int) : List Int :=
  [el l 0 % 2251799813685248 + el l 4 / 2251799813685248 * 19, el l 1 % 2251799813685248 + el l 0 / 2251799813685248, el l 2 % 2251799813685248 + el l 1 / 2251799813685248,
   el l 3 % 2251799813685248 + el l 2 / 2251799813685248, el l 4 % 2251799813685248 + el l 3 / 2251799813685248]
theorem val_carryL (l : List Int) : val l = val (carryL l) + 57896044618658097711785492504343953926634992332820282019728792003956564819949 * (el l 4 / 2251799813685248) := by
  unfold val carryL
  simp only [el_zero, el_succ]
  omega
def addL (a b : List Int) : List Int := (List.range 5).map fun i => el a i + el b i
def fourP : List Int := [9007199254740916, 9007199254740988, 9007199254740988, 9007199254740988, 9007199254740988]
def subL (a b : List Int) : List Int := (List.range 5).map fun i => el fourP i + (el a i - el b i)
theorem wrap64_add (x y : Int) (h0 : 0 ≤ x + y) (h1 : x + y < 18446744073709551616) : IntKind.u64.wrap (x + IntKind.u64.wrap y) = x + y := by
  simp only [IntKind.wrap, IntKind.bits, IntKind.signed, Bool.false_and, Bool.false_eq_true, ↓reduceIte, Int.reducePow]
  omega
theorem fourP_at (k : Nat) (h : k < 5) : 9007199254740916 ≤ el fourP k ∧ el fourP k ≤ 9007199254740988 := by
  match k, h with
  | 0, _ | 1, _ | 2, _ | 3, _ | 4, _ => decide
section
variable {w : World}
theorem carry_walk (l : List Int) (h : Lim 18446744073709551616 l) :
    Calls Try.prog 67 #[fe l] w fun e w' => e = .returned (fe (carryL l)) ∧ Fr [] w w' := by
  obtain ⟨hl, h0, h1, h2, h3, h4⟩ := h
  have e0 := and51 _ h0.1 h0.2
  have e1 := and51 _ h1.1 h1.2
  have e2 := and51 _ h2.1 h2.2
  have e3 := and51 _ h3.1 h3.2
  have e4 := and51 _ h4.1 h4.2
  have g0 : IntKind.u64.wrap (el l 4 / 2251799813685248 * 19) = el l 4 / 2251799813685248 * 19 := wrap64 _ (by omega) (by omega)
  have g1 : IntKind.u64.wrap (el l 0 % 2251799813685248 + el l 4 / 2251799813685248 * 19) = el l 0 % 2251799813685248 + el l 4 / 2251799813685248 * 19 := wrap64 _ (by omega) (by omega)
  have g2 : IntKind.u64.wrap (el l 1 % 2251799813685248 + el l 0 / 2251799813685248) = el l 1 % 2251799813685248 + el l 0 / 2251799813685248 := wrap64 _ (by omega) (by omega)
  have g3 : IntKind.u64.wrap (el l 2 % 2251799813685248 + el l 1 / 2251799813685248) = el l 2 % 2251799813685248 + el l 1 / 2251799813685248 := wrap64 _ (by omega) (by omega)
  have g4 : IntKind.u64.wrap (el l 3 % 2251799813685248 + el l 2 / 2251799813685248) = el l 3 % 2251799813685248 + el l 2 / 2251799813685248 := wrap64 _ (by omega) (by omega)
  have g5 : IntKind.u64.wrap (el l 4 % 2251799813685248 + el l 3 / 2251799813685248) = el l 4 % 2251799813685248 + el l 3 / 2251799813685248 := wrap64 _ (by omega) (by omega)
  clear h0 h1 h2 h3 h4
  unfold fe
  go_enter Try.func67, Try.ntmps67
  go_wp2
  refine ret_cell rfl rfl rfl ?_
  go_simp
  exact ⟨rfl, ((((Fr.refl _ _).alloc _).alloc _).alloc _)⟩
theorem carry_any (l : List Int) (h : Lim 18446744073709551616 l) :
    Calls Try.prog 67 #[fe l] w fun e w' => ∃ c, e = .returned (fe c) ∧ c.length = 5 ∧ Hid (c = carryL l) ∧ Fr [] w w' :=
  (carry_walk l h).mono fun _ _ ⟨h1, h2⟩ => ⟨_, h1, rfl, Lib.hid rfl, h2⟩
theorem add_walk (a b : List Int) (ha : Lim 4503599627370496 a) (hb : Lim 4503599627370496 b) :
    Calls Try.prog 30 #[fe a, fe b] w fun e w' => ∃ c, e = .returned (fe c) ∧ c.length = 5 ∧ Hid (c = carryL (addL a b)) ∧ Fr [] w w' := by
  have hla := ha.len
  have hlb := hb.len
  have HA := Lib.hid ha
  have HB := Lib.hid hb
  clear ha hb
  unfold fe
  go_enter Try.func30, Try.ntmps30
  go_wp2
  go_loopw [7] (fun i wr => ∃ k : Nat, k ≤ 5 ∧ i = .int .i64 k ∧ Fr [w.heap.size + 3] ((((w.alloc (.cells (ints .u64 a) 28)).alloc (.cells (ints .u64 b) 28)).alloc (.cells (ints .u64 (zs 5)) 28)).alloc (.cells (ints .u64 (zs 5)) 28)) wr ∧
    wr.blk (w.heap.size + 3) = some (.cells (ints .u64 (upd (fun i => el a i + el b i) (zs 5) k)) 28 (0, 0))) (fun i _ => 5 - (intOf i).toNat)
  case atStart => exact ⟨0, by omega, rfl, Fr.refl _ _, by go_simp; rw [upd_zero]; rfl⟩
  case round =>
    obtain ⟨k, hk, rfl, FR, hc⟩ := hrel
    have h0 := FR.get (b := w.heap.size) (o := .cells (ints .u64 a) 28) (by go_simp) (by simp)
    have h1 := FR.get (b := w.heap.size + 1) (o := .cells (ints .u64 b) 28) (by go_simp) (by simp)
    have hz := FR.size
    simp only [World.size_alloc] at hz
    have h0l := World.at_lt h0
    have h1l := World.at_lt h1
    have hcl := World.at_lt hc
    have HF := Lib.hid FR
    clear FR
    have hlu := length_upd (fun i => el a i + el b i) (zs 5) k (by rw [length_zs]; exact hk)
    rw [length_zs] at hlu
    by_cases hlt : k < 5
    · have hk1 := HA.out.at_ k hlt
      have hk2 := HB.out.at_ k hlt
      have hw := wrap64 (el a k + el b k) (by omega) (by omega)
      have hset : (upd (fun i => el a i + el b i) (zs 5) k).set k (el a k + el b k) = upd (fun i => el a i + el b i) (zs 5) (k + 1) := set_upd (fun i => el a i + el b i) (zs 5) k (by rw [length_zs]; exact hlt)
      clear hk1 hk2
      go_wp2
      refine drawn_head 12 (by kernel_rfl) rfl rfl (by kernel_rfl) ?_
      change rowK _ _ _ [0,1,2,3,4,5,6,7,8,9,10,11] _ _
      repeat (refine rowK_step rfl (fun K hK => ?_); go_simp; refine hK _ ?_; clear hK K)
      refine rowK_nil ?_
      intro K hK
      go_wp2
      go_roundw
      case rel =>
        refine ⟨k + 1, by omega, by go_num, ?_, by rw [World.at_drew]; exact World.at_put_same _ _ _ hcl⟩
        refine Fr.drew (Fr.put HF.out _ _ ?_)
        simp
      case measure => simp [intOf]; omega
    · obtain rfl : k = 5 := by omega
      have hfull : upd (fun i => el a i + el b i) (zs 5) 5 = addL a b := upd_full _ _ _ (length_zs 5)
      rw [hfull] at hc hlu
      have h2 := HF.out.get (b := w.heap.size + 2) (o := .cells (ints .u64 (zs 5)) 28) (by go_simp) (by simp)
      have FA : Fr [] w wr := (((((Fr.refl [] w).alloc _).alloc _).alloc _).alloc _).seq HF.out (by simp)
      have HFA := Lib.hid FA
      have hs := HFA.out.size
      have hlim : Lim 18446744073709551616 (addL a b) := by
        refine Lim.mk' hlu fun k hk => ?_
        rw [addL, el_map_range _ _ _ hk]
        have hk1 := HA.out.at_ k hk
        have hk2 := HB.out.at_ k hk
        omega
      clear FA HF h0 h1 hfull
      go_wp2_with fail
      refine (carry_any (addL a b) hlim).mono ?_
      rintro e w1 ⟨c, rfl, hcl, HC, F1⟩
      have h3 := F1.get h2 (by simp)
      have FB := HFA.out.trans F1
      have h3l := World.at_lt h3
      have HFB := Lib.hid FB
      clear F1 FB HFA hc h2 hlim
      go_wp2
      refine ret_cell rfl rfl rfl ?_
      go_simp
      exact ⟨_, rfl, hcl, HC, HFB.out.put _ _ (by omega)⟩
theorem sub_walk (a b : List Int) (ha : Lim 4503599627370496 a) (hb : Lim 4503599627370496 b) :
    Calls Try.prog 32 #[fe a, fe b] w fun e w' => ∃ c, e = .returned (fe c) ∧ c.length = 5 ∧ Hid (c = carryL (subL a b)) ∧ Fr [] w w' := by
  have hla := ha.len
  have hlb := hb.len
  have HA := Lib.hid ha
  have HB := Lib.hid hb
  clear ha hb
  unfold fe
  go_enter Try.func32, Try.ntmps32
  go_wp2
  go_loopw [9] (fun i wr => ∃ k : Nat, k ≤ 5 ∧ i = .int .i64 k ∧ Fr [w.heap.size + 3] ((((w.alloc (.cells (ints .u64 a) 28)).alloc (.cells (ints .u64 b) 28)).alloc (.cells (ints .u64 (zs 5)) 28)).alloc (.cells (ints .u64 fourP) 28)) wr ∧
    wr.blk (w.heap.size + 3) = some (.cells (ints .u64 (upd (fun i => el fourP i + (el a i - el b i)) fourP k)) 28 (0, 0))) (fun i _ => 5 - (intOf i).toNat)
  case atStart => exact ⟨0, by omega, rfl, Fr.refl _ _, by go_simp; rw [upd_zero]; rfl⟩
  case round =>
    obtain ⟨k, hk, rfl, FR, hc⟩ := hrel
    have h0 := FR.get (b := w.heap.size) (o := .cells (ints .u64 a) 28) (by go_simp) (by simp)
    have h1 := FR.get (b := w.heap.size + 1) (o := .cells (ints .u64 b) 28) (by go_simp) (by simp)
    have hz := FR.size
    simp only [World.size_alloc] at hz
    have h0l := World.at_lt h0
    have h1l := World.at_lt h1
    have hcl := World.at_lt hc
    have HF := Lib.hid FR
    clear FR
    have hlu := length_upd (fun i => el fourP i + (el a i - el b i)) fourP k hk
    replace hlu : (upd (fun i => el fourP i + (el a i - el b i)) fourP k).length = 5 := hlu
    by_cases hlt : k < 5
    · have hk1 := HA.out.at_ k hlt
      have hk2 := HB.out.at_ k hlt
      have hk3 := fourP_at k hlt
      have hw := wrap64_add (el fourP k) (el a k - el b k) (by omega) (by omega)
      have hel : el (upd (fun i => el fourP i + (el a i - el b i)) fourP k) k = el fourP k := by rw [el_upd, if_neg (by omega)]
      have hset : (upd (fun i => el fourP i + (el a i - el b i)) fourP k).set k (el fourP k + (el a k - el b k)) = upd (fun i => el fourP i + (el a i - el b i)) fourP (k + 1) := set_upd (fun i => el fourP i + (el a i - el b i)) fourP k hlt
      clear hk1 hk2 hk3
      go_wp2
      refine drawn_head 16 (by kernel_rfl) rfl rfl (by kernel_rfl) ?_
      change rowK _ _ _ [0,1,2,3,4,5,6,7,8,9,10,11,12,13,14,15] _ _
      repeat (refine rowK_step rfl (fun K hK => ?_); go_simp; refine hK _ ?_; clear hK K)
      refine rowK_nil ?_
      intro K hK
      go_wp2
      go_roundw
      case rel =>
        refine ⟨k + 1, by omega, by go_num, ?_, by rw [World.at_drew]; exact World.at_put_same _ _ _ hcl⟩
        refine Fr.drew (Fr.put HF.out _ _ ?_)
        simp
      case measure => simp [intOf]; omega
    · obtain rfl : k = 5 := by omega
      have hfull : upd (fun i => el fourP i + (el a i - el b i)) fourP 5 = subL a b := upd_full _ _ _ rfl
      rw [hfull] at hc hlu
      have h2 := HF.out.get (b := w.heap.size + 2) (o := .cells (ints .u64 (zs 5)) 28) (by go_simp) (by simp)
      have FA : Fr [] w wr := (((((Fr.refl [] w).alloc _).alloc _).alloc _).alloc _).seq HF.out (by simp)
      have HFA := Lib.hid FA
      have hs := HFA.out.size
      have hlim : Lim 18446744073709551616 (subL a b) := by
        refine Lim.mk' hlu fun k hk => ?_
        rw [subL, el_map_range _ _ _ hk]
        have hk1 := HA.out.at_ k hk
        have hk2 := HB.out.at_ k hk
        have hk3 := fourP_at k hk
        omega
      clear FA HF h0 h1 hfull
      go_wp2_with fail
      refine (carry_any (subL a b) hlim).mono ?_
      rintro e w1 ⟨c, rfl, hcl, HC, F1⟩
      have h3 := F1.get h2 (by simp)
      have FB := HFA.out.trans F1
      have h3l := World.at_lt h3
      have HFB := Lib.hid FB
      clear F1 FB HFA hc h2 hlim
      go_wp2
      refine ret_cell rfl rfl rfl ?_
      go_simp
      exact ⟨_, rfl, hcl, HC, HFB.out.put _ _ (by omega)⟩
theorem neg_walk (a : List Int) (ha : Lim 4503599627370496 a) :
    Calls Try.prog 34 #[fe a] w fun e w' => ∃ c, e = .returned (fe c) ∧ c.length = 5 ∧ Hid (c = carryL (subL (zs 5) a)) ∧ Fr [] w w' := by
  have hla := ha.len
  have HA := Lib.hid ha
  clear ha
  go_enter Try.func34, Try.ntmps34
  go_wp2_with fail
  refine (sub_walk (zs 5) a ⟨rfl, by decide, by decide, by decide, by decide, by decide⟩ HA.out).mono ?_
  rintro e w1 ⟨c, rfl, hcl, HC, F1⟩
  have h3 := F1.get (b := w.heap.size + 1) (o := .cells (ints .u64 (zs 5)) 28) (by go_simp; rfl) (by simp)
  have h3l := World.at_lt h3
  have FB : Fr [] w w1 := (((Fr.refl [] w).alloc _).alloc _).trans F1
  have HFB := Lib.hid FB
  clear F1 FB
  go_wp2
  refine ret_cell rfl rfl rfl ?_
  go_simp
  exact ⟨_, rfl, hcl, HC, HFB.out.put _ _ (by omega)⟩
end
end Go.Proofs.Ytakhmmnklkckpaa
namespace Go
theorem run_eqItems_ints {P : Program} {e : TypeId} (d : Nat) (k ke : IntKind) (hue : P.underlying e = some (.int ke)) (h1 : ∀ w, (isAgg e).run P w = .ok false w) (a b : List Int) (hab : a.length = b.length) (w : World) :
    ∀ (is : List Nat), (∀ i ∈ is, i < a.length) → (Op.eqItems (d + 1) e 1 (ints k a) (ints k b) is).run P w = .ok (is.all fun i => el a i == el b i) w
  | [], _ => by simp [Op.eqItems]
  | i :: is, h => by
    have hi := h i (by simp)
    have ih := run_eqItems_ints d k ke hue h1 a b hab w is (fun j hj => h j (by simp [hj]))
    have pa : (part e (ints k a) (i * 1)).run P w = .ok (.int k (el a i)) w := by
      simp only [part, Sem.run_bind, h1, Result.andThen_ok, Bool.false_eq_true, ↓reduceIte, Nat.mul_one, getElem?_ints k a i hi, Sem.run_pure]
    have pb : (part e (ints k b) (i * 1)).run P w = .ok (.int k (el b i)) w := by
      simp only [part, Sem.run_bind, h1, Result.andThen_ok, Bool.false_eq_true, ↓reduceIte, Nat.mul_one, getElem?_ints k b i (by omega), Sem.run_pure]
    simp only [Op.eqItems, Sem.run_bind, pa, pb, Result.andThen_ok, run_equalIn_int w d e k ke (el a i) (el b i) hue, List.all_cons]
    cases hq : (el a i == el b i)
    · simp
    · simp only [Bool.not_true, Bool.false_eq_true, ↓reduceIte, ih, Bool.true_and]
theorem run_eq_ints {P : Program} {t e n : Nat} {i : TypeInfo} (d : Nat) (k ke : IntKind) (hu : P.underlying t = some (.array n e)) (hi : P.info? e = some i) (hc : P.cellsOf e = 1) (hue : P.underlying e = some (.int ke))
    (h1 : ∀ w, (isAgg e).run P w = .ok false w) (a b : List Int) (ha : a.length = n) (hb : b.length = n) (w : World) :
    (Op.equalIn (d + 2) t (.agg (ints k a)) (.agg (ints k b))).run P w = .ok (decide (a = b)) w := by
  rw [run_equalIn_array w (d + 1) _ _ hu hi, hc, run_eqItems_ints d k ke hue h1 a b (by omega) w _ (fun i hi => by rw [List.mem_range] at hi; omega)]
  congr 1
  rw [Bool.eq_iff_iff]
  simp only [List.all_eq_true, List.mem_range, beq_iff_eq, decide_eq_true_eq]
  constructor
  · intro h
    exact el_ext (by omega) (fun k hk => h k (by omega))
  · intro h j _
    rw [h]
end Go
namespace Go.Proofs.Ytakhmmnklkckpaa
open Go.RowKit Go.Dr
theorem exInfo5 : ∃ i, Try.prog.info? 5 = some i := info_of_underlying Try.underlying5
theorem exInfo3 : ∃ i, Try.prog.info? 3 = some i := info_of_underlying Try.underlying3
@[go_sem] theorem eq22 (a b : List Int) (ha : a.length = 32) (hb : b.length = 32) (w : World) : (Op.equalIn 10000 22 (.agg (ints .u8 a)) (.agg (ints .u8 b))).run Try.prog w = .ok (decide (a = b)) w :=
  let ⟨_, hi⟩ := exInfo5
  run_eq_ints 9998 .u8 .u8 Try.underlying22 hi (by kernel_rfl) Try.underlying5 (fun w => by kernel_rfl) a b ha hb w
@[go_sem] theorem eq32 (a b : List Int) (ha : a.length = 16) (hb : b.length = 16) (w : World) : (Op.equalIn 10000 32 (.agg (ints .i64 a)) (.agg (ints .i64 b))).run Try.prog w = .ok (decide (a = b)) w :=
  let ⟨_, hi⟩ := exInfo3
  run_eq_ints 9998 .i64 .i64 Try.underlying32 hi (by kernel_rfl) Try.underlying3 (fun w => by kernel_rfl) a b ha hb w
theorem beq_dec (a b : List Int) : (a == b) = decide (a = b) := by rw [Bool.eq_iff_iff, beq_iff_eq, decide_eq_true_eq]
/-- The numbers of a written-out row. -/
def litsOf : List Value → List Int
  | [] => []
  | .int _ x :: r => x :: litsOf r
  | _ :: r => 0 :: litsOf r
@[go_sem] theorem litsOf_nil : litsOf [] = [] := rfl
@[go_sem] theorem litsOf_cons (k : IntKind) (x : Int) (r : List Value) : litsOf (.int k x :: r) = x :: litsOf r := rfl
@[go_sem] theorem eq22_lit (a : List Int) (L : List Value) (hL : L = (litsOf L).map (Value.int .u8)) (ha : a.length = 32) (hl : L.length = 32) (w : World) :
    (Op.equalIn 10000 22 (.agg (ints .u8 a)) (.agg L.toArray)).run Try.prog w = .ok (a == litsOf L) w := by
  have h : L.toArray = ints .u8 (litsOf L) := by
    conv => lhs; rw [hL]
    rfl
  rw [h, eq22 a _ ha (by rw [hL] at hl; simpa using hl), beq_dec]
@[go_sem] theorem eq32_lit (a : List Int) (L : List Value) (hL : L = (litsOf L).map (Value.int .i64)) (ha : a.length = 16) (hl : L.length = 16) (w : World) :
    (Op.equalIn 10000 32 (.agg (ints .i64 a)) (.agg L.toArray)).run Try.prog w = .ok (a == litsOf L) w := by
  have h : L.toArray = ints .i64 (litsOf L) := by
    conv => lhs; rw [hL]
    rfl
  rw [h, eq32 a _ ha (by rw [hL] at hl; simpa using hl), beq_dec]
end Go.Proofs.Ytakhmmnklkckpaa
namespace Go.Proofs.Ytakhmmnklkckpaa
open Go.RowKit Go.Dr

theorem or_add (s : Nat) (x y : Int) (z : Nat) (hx : 0 ≤ x) (hx2 : x < ((2 ^ s : Nat) : Int)) (hx3 : x < 18446744073709551616) (hy : y = (2 ^ s * z : Nat)) (hy2 : y < 18446744073709551616) : bits .or .u64 x y = x + y := by
  obtain ⟨a, rfl⟩ : ∃ a : Nat, x = a := ⟨x.toNat, by omega⟩
  subst hy
  rw [u64_or_nat a (2 ^ s * z) (by omega) (by omega), Nat.or_comm, ← Nat.two_pow_add_eq_or_of_lt (by omega)]
  omega
theorem or_comm64 (x y : Int) : bits .or .u64 x y = bits .or .u64 y x := by simp only [bits, BitVec.or_comm]
/-- Bytes' number, the least first. -/
def le : List Int → Int
  | [] => 0
  | x :: r => x + 256 * le r
theorem le_append (l m : List Int) : le (l ++ m) = le l + 256 ^ l.length * le m := by
  induction l with
  | nil => simp [le]
  | cons x r ih => simp only [List.cons_append, le, ih, List.length_cons, Int.pow_succ]; grind
/-- Bytes. -/
def Byt (l : List Int) : Prop := ∀ x ∈ l, 0 ≤ x ∧ x < 256
theorem Byt.at_ {l : List Int} (h : Byt l) (k : Nat) (hk : k < l.length) : 0 ≤ el l k ∧ el l k < 256 := by
  have := h l[k] (List.getElem_mem hk)
  simpa [el, hk] using this
theorem le_lt (l : List Int) (h : Byt l) : 0 ≤ le l ∧ le l < 256 ^ l.length := by
  induction l with
  | nil => simp [le]
  | cons x r ih =>
    have hx := h x (by simp)
    have := ih (fun y hy => h y (by simp [hy]))
    simp only [le, List.length_cons, Int.pow_succ]
    omega
/-- The words of the first i bytes. -/
def wordsL (b : List Int) (i : Nat) : List Int := (List.range 4).map fun j => le (((b.take i).drop (8 * j)).take 8)
theorem word_lt {b : List Int} (h : Byt b) (i j : Nat) : 0 ≤ le (((b.take i).drop (8 * j)).take 8) ∧ le (((b.take i).drop (8 * j)).take 8) < 256 ^ (((b.take i).drop (8 * j)).take 8).length :=
  le_lt _ fun x hx => h x (List.mem_of_mem_take (List.mem_of_mem_drop (List.mem_of_mem_take hx)))
theorem word_step {b : List Int} (hb : b.length = 32) (i : Nat) (hi : i < 32) : ((b.take (i + 1)).drop (8 * (i / 8))).take 8 = ((b.take i).drop (8 * (i / 8))).take 8 ++ [el b i] := by
  have h1 : b.take (i + 1) = b.take i ++ [el b i] := by
    rw [List.take_add_one, el]
    simp [List.getElem?_eq_getElem (show i < b.length by omega)]
  rw [h1, List.drop_append_of_le_length (by simp; omega)]
  rw [List.take_of_length_le (l := (b.take i).drop (8 * (i / 8)) ++ [el b i]) (by simp; omega), List.take_of_length_le (l := (b.take i).drop (8 * (i / 8))) (by simp; omega)]
theorem word_other {b : List Int} (hb : b.length = 32) (i j : Nat) (hi : i < 32) (hj : j ≠ i / 8) : ((b.take (i + 1)).drop (8 * j)).take 8 = ((b.take i).drop (8 * j)).take 8 := by
  rcases Nat.lt_or_gt_of_ne hj with h | h
  · have h1 : b.take (i + 1) = b.take i ++ [el b i] := by
      rw [List.take_add_one, el]
      simp [List.getElem?_eq_getElem (show i < b.length by omega)]
    rw [h1, List.drop_append_of_le_length (by simp; omega), List.take_append_of_le_length (by simp; omega)]
  · rw [List.drop_of_length_le (l := b.take (i + 1)) (by simp; omega), List.drop_of_length_le (l := b.take i) (by simp; omega)]
theorem words_step {b : List Int} (hb : b.length = 32) (i : Nat) (hi : i < 32) :
    (wordsL b i).set (i / 8) (el (wordsL b i) (i / 8) + el b i * 256 ^ (i % 8)) = wordsL b (i + 1) := by
  apply el_ext
  · simp [wordsL]
  · intro j hj
    have hj4 : j < 4 := by simpa [wordsL] using hj
    rw [el_set _ _ _ _ (by simp [wordsL]; omega)]
    by_cases h : i / 8 = j
    · subst h
      rw [if_pos rfl, wordsL, wordsL, el_map_range _ _ _ hj4, el_map_range _ _ _ hj4, word_step hb i hi, le_append]
      have hlen : (((List.take i b).drop (8 * (i / 8))).take 8).length = i % 8 := by simp; omega
      rw [hlen]
      simp only [le]
      grind
    · rw [if_neg h, wordsL, wordsL, el_map_range _ _ _ hj4, el_map_range _ _ _ hj4, word_other hb i j hi (fun e => h e.symm)]
theorem pow256_le (r : Nat) (h : r < 8) : 0 < (256 : Int) ^ r ∧ (256 : Int) ^ r ≤ 72057594037927936 := by
  match r, h with
  | 0, _ | 1, _ | 2, _ | 3, _ | 4, _ | 5, _ | 6, _ | 7, _ => decide
theorem word_or {b : List Int} (hlb : b.length = 32) (hb : Byt b) (k : Nat) (hk : k < 32) :
    k / 8 < 4 ∧ IntKind.u64.wrap (el b k * 2 ^ (k % 8 * 8)) = el b k * 256 ^ (k % 8) ∧
      bits .or .u64 (el (wordsL b k) (k / 8)) (el b k * 256 ^ (k % 8)) = el (wordsL b k) (k / 8) + el b k * 256 ^ (k % 8) := by
  have hbk := hb.at_ k (by omega)
  have hp := pow256_le (k % 8) (by omega)
  have e2 : (2 : Int) ^ (k % 8 * 8) = 256 ^ (k % 8) := by rw [Nat.mul_comm, Int.pow_mul]; rfl
  have hbig : 0 ≤ el b k * 256 ^ (k % 8) ∧ el b k * 256 ^ (k % 8) < 18446744073709551616 := by
    refine ⟨Int.mul_nonneg hbk.1 (by omega), ?_⟩
    have : el b k * 256 ^ (k % 8) ≤ 255 * 72057594037927936 := Int.mul_le_mul (by omega) hp.2 (by omega) (by omega)
    omega
  refine ⟨by omega, by rw [e2]; exact wrap64 _ hbig.1 hbig.2, ?_⟩
  have hw := word_lt hb k (k / 8)
  have hlen : (((b.take k).drop (8 * (k / 8))).take 8).length = k % 8 := by simp; omega
  rw [hlen] at hw
  have hel : el (wordsL b k) (k / 8) = le (((b.take k).drop (8 * (k / 8))).take 8) := by rw [wordsL, el_map_range _ _ _ (by omega)]
  rw [hel]
  refine or_add (8 * (k % 8)) _ _ (el b k).toNat hw.1 ?_ (by omega) ?_ hbig.2
  · have e3 : ((2 ^ (8 * (k % 8)) : Nat) : Int) = 256 ^ (k % 8) := by rw [Int.natCast_pow, Int.pow_mul]; rfl
    rw [e3]; exact hw.2
  · have e3 : ((2 ^ (8 * (k % 8)) : Nat) : Int) = 256 ^ (k % 8) := by rw [Int.natCast_pow, Int.pow_mul]; rfl
    rw [Int.natCast_mul, e3, Int.toNat_of_nonneg hbk.1, Int.mul_comm]
/-- The limbs of four words. -/
def ofL (u : List Int) : List Int :=
  [el u 0 % 2251799813685248, (el u 0 / 2251799813685248 + el u 1 * 8192 % 18446744073709551616) % 2251799813685248, (el u 1 / 274877906944 + el u 2 * 67108864 % 18446744073709551616) % 2251799813685248,
   (el u 2 / 33554432 + el u 3 * 549755813888 % 18446744073709551616) % 2251799813685248, el u 3 / 4096 % 2251799813685248]
/-- What four words say. -/
def wval (u : List Int) : Int := el u 0 + 18446744073709551616 * el u 1 + 340282366920938463463374607431768211456 * el u 2 + 6277101735386680763835789423207666416102355444464034512896 * el u 3
structure Wds (u : List Int) : Prop where
  len : u.length = 4
  w0 : 0 ≤ el u 0 ∧ el u 0 < 18446744073709551616
  w1 : 0 ≤ el u 1 ∧ el u 1 < 18446744073709551616
  w2 : 0 ≤ el u 2 ∧ el u 2 < 18446744073709551616
  w3 : 0 ≤ el u 3 ∧ el u 3 < 18446744073709551616
theorem val_ofL {u : List Int} (h : Wds u) : val (ofL u) = wval u % 57896044618658097711785492504343953926634992332820282019728792003956564819968 := by
  obtain ⟨_, h0, h1, h2, h3⟩ := h
  unfold val ofL wval
  simp only [el_zero, el_succ]
  omega
theorem lim_ofL (u : List Int) : Lim 2251799813685248 (ofL u) := by
  refine ⟨rfl, ?_, ?_, ?_, ?_, ?_⟩ <;> (unfold ofL; simp only [el_zero, el_succ]; omega)
theorem or_sh (s : Nat) (c : Int) (hc : c = ((2 ^ s : Nat) : Int)) (x y : Int) (hx : 0 ≤ x) (hx2 : x < c) (hc2 : 0 < c) (hc3 : c < 18446744073709551616) (hd : 18446744073709551616 % c = 0) (_hy : 0 ≤ y) :
    bits .or .u64 x (IntKind.u64.wrap (y * c)) = x + y * c % 18446744073709551616 := by
  rw [IntKind.wrap_u64]
  have hm := Int.emod_nonneg (y * c) (show (18446744073709551616 : Int) ≠ 0 by decide)
  have hl := Int.emod_lt_of_pos (y * c) (show (0 : Int) < 18446744073709551616 by decide)
  have hdv : (y * c % 18446744073709551616) % c = 0 := by
    rw [Int.emod_emod_of_dvd _ (Int.dvd_of_emod_eq_zero hd), Int.mul_emod_left]
  generalize y * c % 18446744073709551616 = z at hm hl hdv ⊢
  obtain ⟨k, hk⟩ := Int.dvd_of_emod_eq_zero hdv
  have hk0 : 0 ≤ k := by
    rcases (by omega : k < 0 ∨ 0 ≤ k) with h | h
    · have : c * k < 0 := Int.mul_neg_of_pos_of_neg hc2 h
      omega
    · exact h
  refine or_add s x z k.toNat hx (by omega) (by omega) ?_ hl
  rw [hk, Int.natCast_mul, Int.toNat_of_nonneg hk0, hc]
theorem ors {u : List Int} (h : Wds u) :
    bits .or .u64 (el u 0 / 2251799813685248) (IntKind.u64.wrap (el u 1 * 8192)) = el u 0 / 2251799813685248 + el u 1 * 8192 % 18446744073709551616 ∧
    bits .or .u64 (el u 1 / 274877906944) (IntKind.u64.wrap (el u 2 * 67108864)) = el u 1 / 274877906944 + el u 2 * 67108864 % 18446744073709551616 ∧
    bits .or .u64 (el u 2 / 33554432) (IntKind.u64.wrap (el u 3 * 549755813888)) = el u 2 / 33554432 + el u 3 * 549755813888 % 18446744073709551616 := by
  obtain ⟨_, h0, h1, h2, h3⟩ := h
  refine ⟨or_sh 13 _ (by decide) _ _ (by omega) (by omega) (by decide) (by decide) (by decide) (by omega), or_sh 26 _ (by decide) _ _ (by omega) (by omega) (by decide) (by decide) (by decide) (by omega), or_sh 39 _ (by decide) _ _ (by omega) (by omega) (by decide) (by decide) (by decide) (by omega)⟩
theorem wds_words {b : List Int} (hb : Byt b) (k : Nat) : Wds (wordsL b k) := by
  have key : ∀ j, j < 4 → 0 ≤ el (wordsL b k) j ∧ el (wordsL b k) j < 18446744073709551616 := fun j hj => by
    rw [wordsL, el_map_range _ _ _ hj]
    have h := word_lt hb k j
    have h2 : ((256 : Int) ^ (((b.take k).drop (8 * j)).take 8).length) ≤ 18446744073709551616 := by
      have : (((b.take k).drop (8 * j)).take 8).length ≤ 8 := by simp; omega
      have := Nat.pow_le_pow_right (n := 256) (by omega) this
      have h3 : (((256 ^ (((b.take k).drop (8 * j)).take 8).length : Nat)) : Int) ≤ ((256 ^ 8 : Nat) : Int) := by exact_mod_cast this
      rw [Int.natCast_pow] at h3
      exact h3
    omega
  exact ⟨by simp [wordsL], key 0 (by omega), key 1 (by omega), key 2 (by omega), key 3 (by omega)⟩
theorem wval_words {b : List Int} (hl : b.length = 32) : wval (wordsL b 32) = le b := by
  have e : b = (b.drop 0).take 8 ++ ((b.drop 8).take 8 ++ ((b.drop 16).take 8 ++ (b.drop 24).take 8)) := by
    apply List.ext_getElem
    · simp; omega
    · intro i h1 h2
      simp only [List.getElem_append, List.getElem_take, List.getElem_drop, List.length_take, List.length_drop]
      (repeat' split) <;> (congr 1; omega)
  have l0 : ((b.drop 0).take 8).length = 8 := by simp; omega
  have l1 : ((b.drop 8).take 8).length = 8 := by simp; omega
  have l2 : ((b.drop 16).take 8).length = 8 := by simp; omega
  have e2 : le b = le ((b.drop 0).take 8) + 256 ^ 8 * (le ((b.drop 8).take 8) + 256 ^ 8 * (le ((b.drop 16).take 8) + 256 ^ 8 * le ((b.drop 24).take 8))) := by
    conv => lhs; rw [e]
    rw [le_append, le_append, le_append, l0, l1, l2]
  rw [e2]
  unfold wval wordsL
  rw [el_map_range _ _ _ (by omega), el_map_range _ _ _ (by omega), el_map_range _ _ _ (by omega), el_map_range _ _ _ (by omega), List.take_of_length_le (l := b) (by omega)]
  simp only [Nat.mul_zero, Nat.reduceMul]
  generalize le ((b.drop 0).take 8) = x0
  generalize le ((b.drop 8).take 8) = x1
  generalize le ((b.drop 16).take 8) = x2
  generalize le ((b.drop 24).take 8) = x3
  omega
section
variable {w : World}
set_option maxRecDepth 100000 in
theorem of_walk (b : List Int) (hlb : b.length = 32) (hb : Byt b) :
    Calls Try.prog 27 #[.agg (ints .u8 b)] w fun e w' => ∃ c, e = .returned (fe c) ∧ Hid (c = ofL (wordsL b 32)) ∧ Fr [] w w' := by
  have HB := Lib.hid hb
  clear hb
  go_enter Try.func27, Try.ntmps27
  go_wp2
  go_loopw [7] (fun i wr => ∃ k : Nat, k ≤ 32 ∧ i = .int .i64 k ∧ Fr [w.heap.size + 2] (((w.alloc (.cells (ints .u8 b) 22)).alloc (.cells (ints .u64 (zs 5)) 28)).alloc (.cells (ints .u64 (zs 4)) 75)) wr ∧
    wr.blk (w.heap.size + 2) = some (.cells (ints .u64 (wordsL b k)) 75 (0, 0))) (fun i _ => 32 - (intOf i).toNat)
  case atStart => exact ⟨0, by omega, rfl, Fr.refl _ _, by go_simp; rfl⟩
  case round =>
    obtain ⟨k, hk, rfl, FR, hc⟩ := hrel
    have hcl := World.at_lt hc
    have HF := Lib.hid FR
    clear FR
    have hlu : (wordsL b k).length = 4 := by simp [wordsL]
    by_cases hlt : k < 32
    · have hbk := HB.out.at_ k (by omega)
      obtain ⟨hq, hsh, hor⟩ := word_or hlb HB.out k hlt
      have hset := words_step hlb k hlt
      go_wp2
      refine drawn_head 12 (by kernel_rfl) rfl rfl (by kernel_rfl) ?_
      change rowK _ _ _ [0,1,2,3,4,5,6,7,8,9,10,11] _ _
      repeat (refine rowK_step2 rfl rfl (fun K hK => ?_); go_wp2)
      refine rowK_nil ?_
      intro K hK
      go_wp2
      go_roundw
      case rel =>
        refine ⟨k + 1, by omega, by go_num, ?_, by rw [World.at_drew]; exact World.at_put_same _ _ _ hcl⟩
        refine Fr.drew (Fr.put HF.out _ _ ?_)
        simp
      case measure => simp [intOf]; omega
    · obtain rfl : k = 32 := by omega
      have h2 := HF.out.get (b := w.heap.size + 1) (o := .cells (ints .u64 (zs 5)) 28) (by go_simp) (by simp)
      have h2l := World.at_lt h2
      have FA : Fr [] w wr := ((((Fr.refl [] w).alloc _).alloc _).alloc _).seq HF.out (by simp)
      have HFA := Lib.hid FA
      have hW := wds_words HB.out 32
      obtain ⟨o1, o2, o3⟩ := ors hW
      obtain ⟨u, hu⟩ : ∃ u, u = wordsL b 32 := ⟨_, rfl⟩
      rw [← hu] at hc hlu hW o1 o2 o3
      have HU := Lib.hid hu
      obtain ⟨_, w0, w1, w2, w3⟩ := hW
      have a0 := and51 (el u 0) w0.1 w0.2
      have a1 := and51 (el u 0 / 2251799813685248 + el u 1 * 8192 % 18446744073709551616) (by omega) (by omega)
      have a2 := and51 (el u 1 / 274877906944 + el u 2 * 67108864 % 18446744073709551616) (by omega) (by omega)
      have a3 := and51 (el u 2 / 33554432 + el u 3 * 549755813888 % 18446744073709551616) (by omega) (by omega)
      have a4 := and51 (el u 3 / 4096) (by omega) (by omega)
      clear FA HF hu w0 w1 w2 w3
      go_wp2
      refine ret_cell rfl rfl rfl ?_
      go_simp
      exact ⟨ofL u, rfl, by rw [HU.out]; exact Lib.hid rfl, HFA.out.put _ _ (by simp)⟩
/-- Of: the bytes' number modulo 2^255. -/
theorem of_any (b : List Int) (hlb : b.length = 32) (hb : Byt b) :
    Calls Try.prog 27 #[.agg (ints .u8 b)] w fun e w' => ∃ c, e = .returned (fe c) ∧ Lim 2251799813685248 c ∧ val c = le b % 57896044618658097711785492504343953926634992332820282019728792003956564819968 ∧ Fr [] w w' :=
  (of_walk b hlb hb).mono fun _ _ ⟨c, h1, h2, h3⟩ => ⟨c, h1, by rw [h2.out]; exact lim_ofL _, by rw [h2.out, val_ofL (wds_words hb 32), wval_words hlb], h3⟩
end
end Go.Proofs.Ytakhmmnklkckpaa
namespace Go.Proofs.Ytakhmmnklkckpaa
open Go.RowKit Go.Dr

theorem lim_carry {l : List Int} (h : Lim 18446744073709551616 l) : Lim 4503599627370496 (carryL l) := by
  obtain ⟨_, h0, h1, h2, h3, h4⟩ := h
  refine ⟨rfl, ?_, ?_, ?_, ?_, ?_⟩ <;> (unfold carryL; simp only [el_zero, el_succ]; omega)
/-- Behind a second carry. -/
structure Tight (l : List Int) : Prop where
  len : l.length = 5
  b0 : 0 ≤ el l 0 ∧ el l 0 < 2251799813685267
  b1 : 0 ≤ el l 1 ∧ el l 1 ≤ 2251799813685248
  b2 : 0 ≤ el l 2 ∧ el l 2 ≤ 2251799813685248
  b3 : 0 ≤ el l 3 ∧ el l 3 ≤ 2251799813685248
  b4 : 0 ≤ el l 4 ∧ el l 4 ≤ 2251799813685248
theorem tight_carry {l : List Int} (h : Lim 4503599627370496 l) : Tight (carryL l) := by
  obtain ⟨_, h0, h1, h2, h3, h4⟩ := h
  refine ⟨rfl, ?_, ?_, ?_, ?_, ?_⟩ <;> (unfold carryL; simp only [el_zero, el_succ]; omega)
theorem Tight.at_ {l : List Int} (h : Tight l) (k : Nat) (hk : k < 5) : 0 ≤ el l k ∧ el l k < 2251799813685267 := by
  obtain ⟨_, h0, h1, h2, h3, h4⟩ := h
  match k, hk with
  | 0, _ => omega
  | 1, _ => omega
  | 2, _ => omega
  | 3, _ => omega
  | 4, _ => omega
/-- What is carried, beginning with 19. -/
def qch (l : List Int) : Nat → Int
  | 0 => 19
  | k + 1 => (el l k + qch l k) / 2251799813685248
theorem qch_lt {l : List Int} (h : Tight l) : ∀ k, k ≤ 5 → 0 ≤ qch l k ∧ qch l k ≤ 19
  | 0, _ => by unfold qch; omega
  | k + 1, hk => by
    have h1 := qch_lt h k (by omega)
    have h2 := h.at_ k (by omega)
    unfold qch
    omega
/-- The limbs, each put in order and the rest carried to the next one. -/
def rip (l : List Int) : Nat → List Int
  | 0 => l
  | k + 1 => ((rip l k).set (k + 1) (el (rip l k) (k + 1) + el (rip l k) k / 2251799813685248)).set k (el (rip l k) k % 2251799813685248)
theorem length_rip (l : List Int) : ∀ k, (rip l k).length = l.length
  | 0 => rfl
  | k + 1 => by simp [rip, length_rip l k]
theorem rip_lt {l : List Int} (hl : l.length = 5) (h : ∀ j, j < 5 → 0 ≤ el l j ∧ el l j < 4503599627370496) : ∀ k, k ≤ 4 → ∀ j, j < 5 → 0 ≤ el (rip l k) j ∧ el (rip l k) j < 4503599627370496 * 2 ∧ (k < j → el (rip l k) j < 4503599627370496) ∧ (j < k → el (rip l k) j < 2251799813685248)
  | 0, _, j, hj => by have := h j hj; unfold rip; omega
  | k + 1, hk, j, hj => by
    have ih := rip_lt hl h k (by omega)
    have i1 := ih k (by omega)
    have i2 := ih (k + 1) (by omega)
    have i3 := ih j hj
    unfold rip
    rw [el_set _ _ _ _ (by simp [length_rip]; omega), el_set _ _ _ _ (by simp [length_rip]; omega)]
    split
    · omega
    · split
      · omega
      · omega
theorem val_rip (y : List Int) (hy : y.length = 5) : val ((rip y 4).set 4 (el (rip y 4) 4 % 2251799813685248)) = val y % 57896044618658097711785492504343953926634992332820282019728792003956564819968 := by
  match y, hy with
  | [y0, y1, y2, y3, y4], _ =>
    simp only [rip, el_zero, el_succ, List.set_cons_zero, List.set_cons_succ, val]
    omega
/-- The words of five limbs. -/
def wordsZ (z : List Int) : List Int :=
  [el z 0 + el z 1 * 2251799813685248 % 18446744073709551616, el z 1 / 8192 + el z 2 * 274877906944 % 18446744073709551616, el z 2 / 67108864 + el z 3 * 33554432 % 18446744073709551616,
   el z 3 / 549755813888 + el z 4 * 4096 % 18446744073709551616]
theorem orsZ {z : List Int} (h : Lim 2251799813685248 z) :
    bits .or .u64 (el z 0) (IntKind.u64.wrap (el z 1 * 2251799813685248)) = el z 0 + el z 1 * 2251799813685248 % 18446744073709551616 ∧
    bits .or .u64 (el z 1 / 8192) (IntKind.u64.wrap (el z 2 * 274877906944)) = el z 1 / 8192 + el z 2 * 274877906944 % 18446744073709551616 ∧
    bits .or .u64 (el z 2 / 67108864) (IntKind.u64.wrap (el z 3 * 33554432)) = el z 2 / 67108864 + el z 3 * 33554432 % 18446744073709551616 ∧
    bits .or .u64 (el z 3 / 549755813888) (IntKind.u64.wrap (el z 4 * 4096)) = el z 3 / 549755813888 + el z 4 * 4096 % 18446744073709551616 := by
  obtain ⟨_, h0, h1, h2, h3, h4⟩ := h
  refine ⟨or_sh 51 _ (by decide) _ _ (by omega) (by omega) (by decide) (by decide) (by decide) (by omega), or_sh 38 _ (by decide) _ _ (by omega) (by omega) (by decide) (by decide) (by decide) (by omega),
    or_sh 25 _ (by decide) _ _ (by omega) (by omega) (by decide) (by decide) (by decide) (by omega), or_sh 12 _ (by decide) _ _ (by omega) (by omega) (by decide) (by decide) (by decide) (by omega)⟩
theorem wds_wordsZ {z : List Int} (h : Lim 2251799813685248 z) : Wds (wordsZ z) := by
  obtain ⟨_, h0, h1, h2, h3, h4⟩ := h
  refine ⟨rfl, ?_, ?_, ?_, ?_⟩ <;> (unfold wordsZ; simp only [el_zero, el_succ]; omega)
theorem wval_wordsZ {z : List Int} (h : Lim 2251799813685248 z) : wval (wordsZ z) = val z := by
  obtain ⟨_, h0, h1, h2, h3, h4⟩ := h
  unfold wordsZ wval val; simp only [el_zero, el_succ]; omega
theorem Wds.at_ {u : List Int} (h : Wds u) (k : Nat) (hk : k < 4) : 0 ≤ el u k ∧ el u k < 18446744073709551616 := by
  obtain ⟨_, h0, h1, h2, h3⟩ := h
  match k, hk with
  | 0, _ => exact h0
  | 1, _ => exact h1
  | 2, _ => exact h2
  | 3, _ => exact h3
def bytesL (n : Int) : List Int := (List.range 32).map fun i => n / 256 ^ i % 256
theorem byte_of {u : List Int} (h : Wds u) (i : Nat) (hi : i < 32) : el u (i / 8) / 2 ^ (i % 8 * 8) % 256 = wval u / 256 ^ i % 256 := by
  obtain ⟨_, h0, h1, h2, h3⟩ := h
  unfold wval
  have hc : i = 0 ∨ i = 1 ∨ i = 2 ∨ i = 3 ∨ i = 4 ∨ i = 5 ∨ i = 6 ∨ i = 7 ∨ i = 8 ∨ i = 9 ∨ i = 10 ∨ i = 11 ∨ i = 12 ∨ i = 13 ∨ i = 14 ∨ i = 15 ∨ i = 16 ∨ i = 17 ∨ i = 18 ∨ i = 19 ∨ i = 20 ∨ i = 21 ∨ i = 22 ∨ i = 23 ∨ i = 24 ∨ i = 25 ∨ i = 26 ∨ i = 27 ∨ i = 28 ∨ i = 29 ∨ i = 30 ∨ i = 31 := by omega
  rcases hc with rfl | rfl | rfl | rfl | rfl | rfl | rfl | rfl | rfl | rfl | rfl | rfl | rfl | rfl | rfl | rfl | rfl | rfl | rfl | rfl | rfl | rfl | rfl | rfl | rfl | rfl | rfl | rfl | rfl | rfl | rfl | rfl
  all_goals
    simp only [Nat.reduceDiv, Nat.reduceMod, Nat.reduceMul, Int.reducePow, Nat.zero_mul, Int.pow_zero, Int.ediv_one]
    omega
theorem val_norm {d : List Int} (h : Tight d) : val (d.set 0 (el d 0 + 19 * qch d 5)) % 57896044618658097711785492504343953926634992332820282019728792003956564819968 = val d % prI := by
  obtain ⟨hl, h0, h1, h2, h3, h4⟩ := h
  have hq : qch d 5 = (val d + 19) / 57896044618658097711785492504343953926634992332820282019728792003956564819968 := by
    unfold qch qch qch qch qch qch val
    omega
  have hv : 0 ≤ val d ∧ val d < 57896044618658097711785492504343953926634992332820282019728792003956564819968 + 57896044618658097711785492504343953926634992332820282019728792003956564819 := by unfold val; omega
  have he : val (d.set 0 (el d 0 + 19 * qch d 5)) = val d + 19 * qch d 5 := by
    unfold val
    simp only [el_set _ _ _ _ (show 0 < d.length by omega)]
    rw [if_pos trivial, if_neg (by omega), if_neg (by omega), if_neg (by omega), if_neg (by omega)]
    omega
  rw [he, hq]
  clear he hq
  generalize val d = v at hv
  unfold prI
  rcases (by omega : v < 57896044618658097711785492504343953926634992332820282019728792003956564819949 ∨ 57896044618658097711785492504343953926634992332820282019728792003956564819949 ≤ v) with h | h
  · have hk : (v + 19) / 57896044618658097711785492504343953926634992332820282019728792003956564819968 = 0 := by omega
    rw [hk]; omega
  · have hk : (v + 19) / 57896044618658097711785492504343953926634992332820282019728792003956564819968 = 1 := by omega
    rw [hk]; omega
section
variable {w : World}
set_option maxRecDepth 100000 in
theorem bytes_walk (a : List Int) (ha : Lim 4503599627370496 a) :
    Calls Try.prog 26 #[fe a] w fun e w' => e = .returned (.agg (ints .u8 (bytesL (val a % prI)))) ∧ Fr [] w w' := by
  have hla := ha.len
  have HA := Lib.hid ha
  have h64 := Lib.hid (ha.mono (show (4503599627370496 : Int) ≤ 18446744073709551616 by decide))
  clear ha
  go_enter Try.func26, Try.ntmps26
  go_wp2_with fail
  refine (carry_any a h64.out).mono ?_
  rintro e w1 ⟨c, rfl, hcl, HC, F1⟩
  go_wp2_with fail
  refine (carry_any c ?_).mono ?_
  · rw [HC.out]; exact (lim_carry h64.out).mono (by decide)
  rintro e w2 ⟨d, rfl, hdl, HD, F2⟩
  have hT : Tight d := by rw [HD.out, HC.out]; exact tight_carry (lim_carry h64.out)
  have F0 : Fr [] w w2 := ((((Fr.refl [] w).alloc _).alloc _).trans F1).trans F2
  have h0 := (F1.trans F2).get (b := w.heap.size) (o := .cells (ints .u64 a) 28) (by go_simp) (by simp)
  have h1 := (F1.trans F2).get (b := w.heap.size + 1) (o := .cells (ints .u8 (zs 32)) 22) (by go_simp; rfl) (by simp)
  have h0l := World.at_lt h0
  have h1l := World.at_lt h1
  have HF0 := Lib.hid F0
  have HT := Lib.hid hT
  clear F1 F2 F0 hT
  go_wp2
  obtain ⟨W, hW⟩ : ∃ W, W = w2.put w.heap.size (.cells (ints .u64 d) 28) := ⟨_, rfl⟩
  rw [← hW]
  have hd : W.blk w.heap.size = some (.cells (ints .u64 d) 28) := by rw [hW]; exact World.at_put_same _ _ _ h0l
  have h1' : W.blk (w.heap.size + 1) = some (.cells (ints .u8 (zs 32)) 22) := by rw [hW, World.at_put_other _ _ _ _ (by omega)]; exact h1
  have F3 : Fr [] w W := by rw [hW]; exact HF0.out.put _ _ (by omega)
  have HF3 := Lib.hid F3
  clear hW F3 h0 h1 h0l h1l HF0
  go_loopw [3, 16] (fun q i wr => ∃ k : Nat, k ≤ 5 ∧ i = .int .i64 k ∧ q = .int .u64 (qch d k) ∧ wr = W) (fun _ i _ => 5 - (intOf i).toNat)
  case atStart => exact ⟨0, by omega, rfl, rfl, rfl⟩
  case round =>
    obtain ⟨k, hk, rfl, rfl, rfl⟩ := hrel
    by_cases hlt : k < 5
    · have e1 := HT.out.at_ k hlt
      have e2 := qch_lt HT.out k hk
      have e3 : (el d k + qch d k) / 2251799813685248 = qch d (k + 1) := rfl
      go_wp2
      go_roundw
      case rel => exact ⟨k + 1, by omega, by go_num, rfl, trivial⟩
      case measure => simp [intOf]; omega
    · obtain rfl : k = 5 := by omega
      rw [show ((5 : Nat) : Int) = 5 from rfl]
      obtain ⟨q, hq⟩ : ∃ q, q = qch d 5 := ⟨_, rfl⟩
      have e2 := qch_lt HT.out 5 hk
      have e1 := HT.out.at_ 0 (by omega)
      rw [← hq] at e2 ⊢
      have HQ := Lib.hid hq
      clear hq
      go_wp2
      obtain ⟨y, hy⟩ : ∃ y, y = d.set 0 (el d 0 + 19 * q) := ⟨_, rfl⟩
      obtain ⟨W, hW⟩ : ∃ W, W = wr.put w.heap.size (.cells (ints .u64 y) 28) := ⟨_, rfl⟩
      rw [← hy, ← hW]
      have hyl : y.length = 5 := by rw [hy, List.length_set]; exact hdl
      have hy53 : ∀ j, j < 5 → 0 ≤ el y j ∧ el y j < 4503599627370496 := fun j hj => by
        rw [hy, el_set _ _ _ _ (by omega)]
        have := HT.out.at_ j hj
        split <;> omega
      have h0l := World.at_lt hd
      have hd2 : W.blk w.heap.size = some (.cells (ints .u64 y) 28) := by rw [hW]; exact World.at_put_same _ _ _ h0l
      have h12 : W.blk (w.heap.size + 1) = some (.cells (ints .u8 (zs 32)) 22) := by rw [hW, World.at_put_other _ _ _ _ (by omega)]; exact h1'
      have F3 : Fr [] w W := by rw [hW]; exact HF3.out.put _ _ (by omega)
      have HF4 := Lib.hid F3
      have HY := Lib.hid hy
      have HB := Lib.hid hy53
      clear hW F3 h0l hd h1' HF3 hy hy53 e1 e2 hdl
      go_loopw [32] (fun i wr => ∃ k : Nat, k ≤ 4 ∧ i = .int .i64 k ∧ Fr [w.heap.size] W wr ∧ wr.blk w.heap.size = some (.cells (ints .u64 (rip y k)) 28 (0, 0))) (fun i _ => 4 - (intOf i).toNat)
      case atStart => exact ⟨0, by omega, rfl, Fr.refl _ _, hd2⟩
      case round =>
        obtain ⟨k, hk, rfl, FR, hc⟩ := hrel
        have hlr : (rip y k).length = 5 := by rw [length_rip]; exact hyl
        have hcl := World.at_lt hc
        have HF5 := Lib.hid FR
        clear FR hd2
        by_cases hlt : k < 4
        · have b1 := rip_lt hyl HB.out k (by omega) k (by omega)
          have b2 := rip_lt hyl HB.out k (by omega) (k + 1) (by omega)
          have b3 := b2.2.2.1 (by omega)
          have e0 := and51 (el (rip y k) k) (by omega) (by omega)
          have e1 : el ((rip y k).set (k + 1) (el (rip y k) (k + 1) + el (rip y k) k / 2251799813685248)) k = el (rip y k) k := by rw [el_set _ _ _ _ (by omega), if_neg (by omega)]
          have e2 : ((rip y k).set (k + 1) (el (rip y k) (k + 1) + el (rip y k) k / 2251799813685248)).set k (el (rip y k) k % 2251799813685248) = rip y (k + 1) := rfl
          have hk5 : k + 1 < 5 := by omega
          clear b3
          go_wp2
          refine drawn_head 13 (by kernel_rfl) rfl rfl (by kernel_rfl) ?_
          change rowK _ _ _ [0,1,2,3,4,5,6,7,8,9,10,11,12] _ _
          repeat (refine rowK_step2 rfl rfl (fun K hK => ?_); go_wp2)
          refine rowK_nil ?_
          intro K hK
          go_wp2
          go_roundw
          case rel =>
            refine ⟨k + 1, by omega, by go_num, ?_, by rw [World.at_drew]; exact World.at_put_same _ _ _ hcl⟩
            refine Fr.drew (HF5.out.put _ _ ?_)
            simp
          case measure => simp [intOf]; omega
        · obtain rfl : k = 4 := by omega
          rw [show ((4 : Nat) : Int) = 4 from rfl]
          have b4 := rip_lt hyl HB.out 4 (by omega) 4 (by omega)
          have e4 := and51 (el (rip y 4) 4) (by omega) (by omega)
          clear b4
          obtain ⟨z, hz⟩ : ∃ z, z = (rip y 4).set 4 (el (rip y 4) 4 % 2251799813685248) := ⟨_, rfl⟩
          have hzl : z.length = 5 := by rw [hz, List.length_set]; exact hlr
          have hZ : Lim 2251799813685248 z := by
            refine Lim.mk' hzl fun j hj => ?_
            have := rip_lt hyl HB.out 4 (by omega) j hj
            rw [hz, el_set _ _ _ _ (by omega)]
            split <;> omega
          obtain ⟨o1, o2, o3, o4⟩ := orsZ hZ
          have h1w := HF5.out.get h12 (by simp)
          have h1wl := World.at_lt h1w
          have FW := HF4.out.seq HF5.out (by simp)
          have HFW := Lib.hid FW
          have HZ := Lib.hid hz
          have HLZ := Lib.hid hZ
          replace hz := hz.symm
          clear hZ FW h12
          go_wp2
          rw [show (#[Value.int .u64 (el z 0 + el z 1 * 2251799813685248 % 18446744073709551616), .int .u64 (el z 1 / 8192 + el z 2 * 274877906944 % 18446744073709551616),
            .int .u64 (el z 2 / 67108864 + el z 3 * 33554432 % 18446744073709551616), .int .u64 (el z 3 / 549755813888 + el z 4 * 4096 % 18446744073709551616)] : Array Value) = ints .u64 (wordsZ z) from rfl]
          have hU := wds_wordsZ HLZ.out
          have hUl := hU.len
          obtain ⟨U, hUe⟩ : ∃ U, U = wordsZ z := ⟨_, rfl⟩
          rw [← hUe] at hU hUl ⊢
          have HUE := Lib.hid hUe
          have HU := Lib.hid hU
          clear hUe hU o1 o2 o3 o4 e4
          obtain ⟨V, hV⟩ : ∃ V, V = (((wr.put w.heap.size (.cells (ints .u64 z) 28)).alloc (.cells (ints .u64 z) 26)).alloc (.cells (ints .u64 U) 75)).alloc (.cells (ints .u8 (zs 32)) 22) := ⟨_, rfl⟩
          refine Eq.mp (congrArg (fun X => Code.wp _ _ _ _ X) hV) ?_
          have vU : V.blk (wr.heap.size + 1) = some (.cells (ints .u64 U) 75) := by rw [hV]; go_simp
          have vO : V.blk (wr.heap.size + 2) = some (.cells (ints .u8 (zs 32)) 22) := by rw [hV]; go_simp
          have h1v : V.blk (w.heap.size + 1) = some (.cells (ints .u8 (zs 32)) 22) := by rw [hV]; go_simp
          have FV : Fr [] w V := by rw [hV]; exact (((HFW.out.put _ _ (by omega)).alloc _).alloc _).alloc _
          have HFV := Lib.hid FV
          clear hV FV h1w HFW hc
          go_loopw [92] (fun i wv => ∃ k : Nat, k ≤ 32 ∧ i = .int .i64 k ∧ Fr [wr.heap.size + 2] V wv ∧ wv.blk (wr.heap.size + 2) = some (.cells (ints .u8 (upd (fun i => el U (i / 8) / 2 ^ (i % 8 * 8) % 256) (zs 32) k)) 22 (0, 0))) (fun i _ => 32 - (intOf i).toNat)
          case atStart => exact ⟨0, by omega, rfl, Fr.refl _ _, by rw [upd_zero]; exact vO⟩
          case round =>
            obtain ⟨k, hk, rfl, FR, hc⟩ := hrel
            have hcl := World.at_lt hc
            have vU' := FR.get vU (by simp)
            have vUl := World.at_lt vU'
            have h1v' := FR.get h1v (by simp; omega)
            have h1vl := World.at_lt h1v'
            have HF6 := Lib.hid FR
            clear FR vU vO h1v
            have hlu := length_upd (fun i => el U (i / 8) / 2 ^ (i % 8 * 8) % 256) (zs 32) k (by rw [length_zs]; exact hk)
            rw [length_zs] at hlu
            by_cases hlt : k < 32
            · have hset : (upd (fun i => el U (i / 8) / 2 ^ (i % 8 * 8) % 256) (zs 32) k).set k (el U (k / 8) / 2 ^ (k % 8 * 8) % 256) = upd (fun i => el U (i / 8) / 2 ^ (i % 8 * 8) % 256) (zs 32) (k + 1) :=
                set_upd (fun i => el U (i / 8) / 2 ^ (i % 8 * 8) % 256) (zs 32) k (by rw [length_zs]; exact hlt)
              have hq : k / 8 < 4 := by omega
              have hb1 := HU.out.at_ (k / 8) hq
              go_wp2
              go_roundw
              case rel =>
                refine ⟨k + 1, by omega, by go_num, ?_, World.at_put_same _ _ _ hcl⟩
                refine HF6.out.put _ _ ?_
                simp
              case measure => simp [intOf]; omega
            · obtain rfl : k = 32 := by omega
              have hfull : upd (fun i => el U (i / 8) / 2 ^ (i % 8 * 8) % 256) (zs 32) 32 = bytesL (wval U) := by
                rw [upd_full _ _ _ (length_zs 32), bytesL]
                exact List.map_congr_left fun i hi => byte_of HU.out i (List.mem_range.1 hi)
              rw [hfull] at hc hlu
              have FX := HFV.out.seq HF6.out (by simp; omega)
              have HFX := Lib.hid FX
              clear FX hfull
              go_wp2
              refine ret_cell rfl rfl rfl ?_
              go_simp
              refine ⟨?_, HFX.out.put _ _ (by omega)⟩
              have hv : wval U = val a % prI := by
                rw [HUE.out, wval_wordsZ HLZ.out, HZ.out, val_rip y hyl, HY.out, HQ.out, val_norm HT.out, HD.out, HC.out]
                rw [val_carryL a, val_carryL (carryL a)]
                simp only [prI, Int.add_mul_emod_self_left]
              rw [hv]
end
end Go.Proofs.Ytakhmmnklkckpaa
namespace Go.Proofs.Ytakhmmnklkckpaa
open Go.RowKit Go.Dr

theorem add64_key0 (X Y : Nat) (w : World) : (callFunc 72 #[.int .u64 (X : Int), .int .u64 (Y : Int), .int .u64 0]).run Try.prog w =
      .ok (.value (Extern.MathBitsCarry.pair ((X + Y + 0) % Extern.MathBitsCarry.m64) ((X + Y + 0) / Extern.MathBitsCarry.m64))) w := by kernel_rfl
theorem add64_key1 (X Y : Nat) (w : World) : (callFunc 72 #[.int .u64 (X : Int), .int .u64 (Y : Int), .int .u64 1]).run Try.prog w =
      .ok (.value (Extern.MathBitsCarry.pair ((X + Y + 1) % Extern.MathBitsCarry.m64) ((X + Y + 1) / Extern.MathBitsCarry.m64))) w := by kernel_rfl
theorem add64 (x y c : Int) (hx : 0 ≤ x) (hy : 0 ≤ y) (hc0 : 0 ≤ c) (hc : c ≤ 1) (w : World) : (callFunc 72 #[.int .u64 x, .int .u64 y, .int .u64 c]).run Try.prog w =
    .ok (.value (.tuple #[.int .u64 ((x + y + c) % 18446744073709551616), .int .u64 ((x + y + c) / 18446744073709551616)])) w := by
  have key : ∀ (X Y : Nat) (k : Nat), k ≤ 1 → (callFunc 72 #[.int .u64 (X : Int), .int .u64 (Y : Int), .int .u64 (k : Int)]).run Try.prog w =
      .ok (.value (Extern.MathBitsCarry.pair ((X + Y + k) % Extern.MathBitsCarry.m64) ((X + Y + k) / Extern.MathBitsCarry.m64))) w := by
    intro X Y k hk
    match k, hk with
    | 0, _ => exact add64_key0 X Y w
    | 1, _ => exact add64_key1 X Y w
  obtain ⟨k, rfl⟩ := Int.eq_ofNat_of_zero_le hc0
  obtain ⟨X, rfl⟩ := Int.eq_ofNat_of_zero_le hx
  obtain ⟨Y, rfl⟩ := Int.eq_ofNat_of_zero_le hy
  rw [key X Y k (by omega)]
  simp only [Extern.MathBitsCarry.pair, Extern.MathBitsCarry.m64]
  congr 5
theorem add64_0 (x y : Int) (hx : 0 ≤ x) (hy : 0 ≤ y) (w : World) : (callFunc 72 #[.int .u64 x, .int .u64 y, .int .u64 0]).run Try.prog w =
    .ok (.value (.tuple #[.int .u64 ((x + y) % 18446744073709551616), .int .u64 ((x + y) / 18446744073709551616)])) w := by
  simpa using add64 x y 0 hx hy (Int.le_refl 0) (by decide) w
theorem and_mod32 (z : Int) : bits .and .u64 (z % 18446744073709551616) 4294967295 = z % 18446744073709551616 % 4294967296 :=
  and_low32 _ (by omega) (by omega)
section
variable {w : World}
theorem mul64_any (x y : Int) (hx0 : 0 ≤ x) (hx : x < 18446744073709551616) (hy0 : 0 ≤ y) (hy : y < 18446744073709551616) :
    Calls Try.prog 98 #[.int .u64 x, .int .u64 y] w fun e w' => e = .returned (.tuple #[.int .u64 (x * y / 18446744073709551616), .int .u64 (x * y % 18446744073709551616)]) ∧ w' = w := by
  go_enter Try.func98, Try.ntmps98
  go_wp2
  simp only [and_low32 x hx0 hx, and_low32 y hy0 hy, and_mod32, IntKind.wrap_u64]
  rw [mul64_arith x y hx0 hx hy0 hy]
  go_ret2
  exact ⟨rfl, rfl⟩
/-- more: w + a b, where that is below 2^128. -/
theorem more_any (hi lo a b : Int) (h0 : 0 ≤ hi) (l0 : 0 ≤ lo) (l1 : lo < 18446744073709551616) (a0 : 0 ≤ a) (a1 : a < 18446744073709551616) (b0 : 0 ≤ b) (b1 : b < 18446744073709551616)
    (hs : hi * 18446744073709551616 + lo + a * b < 340282366920938463463374607431768211456) :
    Calls Try.prog 71 #[.agg #[.int .u64 hi, .int .u64 lo], .int .u64 a, .int .u64 b] w fun e w' =>
      e = .returned (.agg #[.int .u64 ((hi * 18446744073709551616 + lo + a * b) / 18446744073709551616), .int .u64 ((hi * 18446744073709551616 + lo + a * b) % 18446744073709551616)]) ∧ Fr [] w w' := by
  have hm : 0 ≤ a * b := Int.mul_nonneg a0 b0
  go_enter Try.func71, Try.ntmps71
  go_wp2_with fail
  refine (mul64_any a b a0 a1 b0 b1).mono ?_
  rintro e w1 ⟨rfl, rfl⟩
  generalize hme : a * b = m at hm hs ⊢
  have e1 := add64_0 lo (m % 18446744073709551616) l0 (by omega)
  have e2 := add64 hi (m / 18446744073709551616) ((lo + m % 18446744073709551616) / 18446744073709551616) h0 (by omega) (by omega) (by omega)
  have g1 : (lo + m % 18446744073709551616) % 18446744073709551616 = (hi * 18446744073709551616 + lo + m) % 18446744073709551616 := by omega
  have g2 : (hi + m / 18446744073709551616 + (lo + m % 18446744073709551616) / 18446744073709551616) % 18446744073709551616 = (hi * 18446744073709551616 + lo + m) / 18446744073709551616 := by omega
  clear hs hm l1 a1 b1
  go_wp2_with (first | simp only [] | simp only [e2])
  refine ret_cell rfl rfl rfl ?_
  go_simp
  exact ((Fr.refl _ _).alloc _).alloc _
theorem more_at (s a b : Int) (h0 : 0 ≤ s) (a0 : 0 ≤ a) (a1 : a < 18446744073709551616) (b0 : 0 ≤ b) (b1 : b < 18446744073709551616) (hs : s + a * b < 340282366920938463463374607431768211456) :
    Calls Try.prog 71 #[.agg #[.int .u64 (s / 18446744073709551616), .int .u64 (s % 18446744073709551616)], .int .u64 a, .int .u64 b] w fun e w' =>
      e = .returned (.agg #[.int .u64 ((s + a * b) / 18446744073709551616), .int .u64 ((s + a * b) % 18446744073709551616)]) ∧ Fr [] w w' := by
  have e : s / 18446744073709551616 * 18446744073709551616 + s % 18446744073709551616 = s := by omega
  have := more_any (w := w) (s / 18446744073709551616) (s % 18446744073709551616) a b (by omega) (by omega) (by omega) a0 a1 b0 b1 (by rw [e]; exact hs)
  rw [e] at this
  exact this
end
end Go.Proofs.Ytakhmmnklkckpaa
namespace Go.Proofs.Ytakhmmnklkckpaa
open Go.RowKit Go.Dr

/-- Where a product goes, and what it is. -/
def jj (n : Nat) : Nat := if 5 ≤ n / 5 + n % 5 then n / 5 + n % 5 - 5 else n / 5 + n % 5
def prd (a b : List Int) (n : Nat) : Int := if 5 ≤ n / 5 + n % 5 then el a (n / 5) * (19 * el b (n % 5)) else el a (n / 5) * el b (n % 5)
/-- The sums behind so many products. -/
def acc (a b : List Int) : Nat → Nat → Int
  | 0, _ => 0
  | n + 1, j => acc a b n j + (if jj n = j then prd a b n else 0)
/-- Sums as pairs of words. -/
def flat (f : Nat → Int) : List Int := (List.range 10).map fun t => if t % 2 = 0 then f (t / 2) / 18446744073709551616 else f (t / 2) % 18446744073709551616
theorem length_flat (f : Nat → Int) : (flat f).length = 10 := by simp [flat]
theorem el_flat (f : Nat → Int) (t : Nat) (h : t < 10) : el (flat f) t = if t % 2 = 0 then f (t / 2) / 18446744073709551616 else f (t / 2) % 18446744073709551616 := by
  rw [flat, el_map_range _ _ _ h]
theorem two_of (l : List Int) (i : Nat) (h : i + 2 ≤ l.length) : (l.take (i + 2)).drop i = [el l i, el l (i + 1)] := by
  apply el_ext
  · simp; omega
  · intro k hk
    have hk2 : k < 2 := by simp at hk; omega
    rw [el_drop]
    match k, hk2 with
    | 0, _ => simp [el]
    | 1, _ => simp [el]
theorem flat_get (f : Nat → Int) (j : Nat) (hj : j < 5) : ints .u64 (((flat f).take (j * 2 + 2)).drop (j * 2)) = #[.int .u64 (f j / 18446744073709551616), .int .u64 (f j % 18446744073709551616)] := by
  rw [two_of _ _ (by rw [length_flat]; omega), el_flat _ _ (by omega), el_flat _ _ (by omega), if_pos (by omega), if_neg (by omega)]
  rw [show j * 2 / 2 = j from by omega, show (j * 2 + 1) / 2 = j from by omega]
  rfl
theorem flat_put (f g : Nat → Int) (j : Nat) (hj : j < 5) (v : Int) (hv : g j = v) (ho : ∀ k, k ≠ j → g k = f k) :
    spl (ints .u64 (flat f)) (j * 2) [.int .u64 (v / 18446744073709551616), .int .u64 (v % 18446744073709551616)] = ints .u64 (flat g) := by
  have := spl_ints .u64 (flat f) (j * 2) [v / 18446744073709551616, v % 18446744073709551616]
  rw [show ([.int .u64 (v / 18446744073709551616), .int .u64 (v % 18446744073709551616)] : List Value) = [v / 18446744073709551616, v % 18446744073709551616].map (Value.int .u64) from rfl, this]
  congr 1
  apply el_ext
  · rw [length_lay _ _ _ (by rw [length_flat]; simp; omega), length_flat, length_flat]
  · intro k hk
    rw [length_lay _ _ _ (by rw [length_flat]; simp; omega), length_flat] at hk
    rw [el_flat _ _ hk]
    unfold lay
    rw [List.append_assoc, el_append, el_append, el_drop]
    simp only [List.length_take, length_flat, List.length_cons, List.length_nil]
    have hmin : min (j * 2) 10 = j * 2 := by omega
    rw [hmin]
    by_cases h1 : k < j * 2
    · rw [if_pos h1, ho (k / 2) (by omega), ← el_flat _ _ hk]
      simp [el, h1]
    · rw [if_neg h1]
      by_cases h2 : k - j * 2 < 2
      · rw [if_pos (by omega)]
        rcases (by omega : k = j * 2 ∨ k = j * 2 + 1) with rfl | rfl
        · rw [if_pos (by omega), show j * 2 / 2 = j from by omega, Nat.sub_self, hv]; rfl
        · rw [if_neg (by omega), show (j * 2 + 1) / 2 = j from by omega, show j * 2 + 1 - j * 2 = 1 from by omega, hv]; rfl
      · rw [if_neg (by omega), ho (k / 2) (by omega), ← el_flat _ _ hk]
        congr 1
        omega
theorem prd_lt {a b : List Int} (ha : Lim 4503599627370496 a) (hb : Lim 4503599627370496 b) (n : Nat) (hn : n < 25) : 0 ≤ prd a b n ∧ prd a b n ≤ 385365782469381738054997774434304 := by
  have h1 := ha.at_ (n / 5) (by omega)
  have h2 := hb.at_ (n % 5) (by omega)
  have h3 : 0 ≤ el a (n / 5) * el b (n % 5) := Int.mul_nonneg h1.1 h2.1
  have h4 : el a (n / 5) * el b (n % 5) ≤ 4503599627370496 * 4503599627370496 := Int.mul_le_mul (by omega) (by omega) h2.1 (by omega)
  unfold prd
  split
  · rw [show el a (n / 5) * (19 * el b (n % 5)) = 19 * (el a (n / 5) * el b (n % 5)) from by grind]; omega
  · omega
theorem acc_lt {a b : List Int} (ha : Lim 4503599627370496 a) (hb : Lim 4503599627370496 b) (j : Nat) : ∀ n, n ≤ 25 → 0 ≤ acc a b n j ∧ acc a b n j ≤ n * 385365782469381738054997774434304
  | 0, _ => by simp [acc]
  | n + 1, hn => by
    have ih := acc_lt ha hb j n (by omega)
    have hp := prd_lt ha hb n (by omega)
    unfold acc
    split <;> omega
theorem acc_next (a b : List Int) (k m : Nat) (_hm : m < 5) :
    (∀ v, prd a b (5 * k + m) = v → acc a b (5 * k + (m + 1)) (jj (5 * k + m)) = acc a b (5 * k + m) (jj (5 * k + m)) + v) ∧ (∀ j, j ≠ jj (5 * k + m) → acc a b (5 * k + (m + 1)) j = acc a b (5 * k + m) j) := by
  constructor
  · intro v hv
    show acc a b (5 * k + m + 1) _ = _
    rw [acc, if_pos rfl, hv]
  · intro j hj
    show acc a b (5 * k + m + 1) _ = _
    rw [acc, if_neg (fun h => hj h.symm)]; omega
theorem jj_at (k m : Nat) (hm : m < 5) : jj (5 * k + m) = if 5 ≤ k + m then k + m - 5 else k + m := by
  unfold jj
  rw [show (5 * k + m) / 5 = k from by omega, show (5 * k + m) % 5 = m from by omega]
theorem prd_at (a b : List Int) (k m : Nat) (hm : m < 5) : prd a b (5 * k + m) = if 5 ≤ k + m then el a k * (19 * el b m) else el a k * el b m := by
  unfold prd
  rw [show (5 * k + m) / 5 = k from by omega, show (5 * k + m) % 5 = m from by omega]
/-- What is carried. -/
def ov (S : Nat → Int) : Nat → Int
  | 0 => 0
  | k + 1 => (S k + ov S k) / 2251799813685248
theorem ov_lt {S : Nat → Int} (h : ∀ j, 0 ≤ S j ∧ S j ≤ 9634144561734543451374944360857600) : ∀ k, 0 ≤ ov S k ∧ ov S k < 9223372036854775808
  | 0 => by unfold ov; omega
  | k + 1 => by
    have h1 := ov_lt h k
    have h2 := h k
    unfold ov
    omega
theorem mul_facts (s o : Int) (hs : 0 ≤ s ∧ s ≤ 9634144561734543451374944360857600) (ho : 0 ≤ o ∧ o < 9223372036854775808) :
    (s % 18446744073709551616 + o) % 18446744073709551616 = (s + o) % 18446744073709551616 ∧
    s / 18446744073709551616 + (s % 18446744073709551616 + o) / 18446744073709551616 = (s + o) / 18446744073709551616 ∧
    bits .and .u64 ((s + o) % 18446744073709551616) 2251799813685247 = (s + o) % 2251799813685248 ∧
    bits .or .u64 ((s + o) / 18446744073709551616 * 8192) ((s + o) % 18446744073709551616 / 2251799813685248) = (s + o) / 2251799813685248 := by
  refine ⟨by omega, by omega, ?_, ?_⟩
  · rw [and51 _ (by omega) (by omega)]; omega
  · rw [or_comm64, or_add 13 _ _ ((s + o) / 18446744073709551616).toNat (by omega) (by omega) (by omega) ?_ (by omega)]
    · omega
    · rw [Int.natCast_mul, Int.toNat_of_nonneg (by omega), Int.mul_comm]; rfl
theorem acc25 (a b : List Int) : acc a b 25 0 = el a 0 * el b 0 + el a 1 * (19 * el b 4) + el a 2 * (19 * el b 3) + el a 3 * (19 * el b 2) + el a 4 * (19 * el b 1) ∧ acc a b 25 1 = el a 0 * el b 1 + el a 1 * el b 0 + el a 2 * (19 * el b 4) + el a 3 * (19 * el b 3) + el a 4 * (19 * el b 2) ∧ acc a b 25 2 = el a 0 * el b 2 + el a 1 * el b 1 + el a 2 * el b 0 + el a 3 * (19 * el b 4) + el a 4 * (19 * el b 3) ∧ acc a b 25 3 = el a 0 * el b 3 + el a 1 * el b 2 + el a 2 * el b 1 + el a 3 * el b 0 + el a 4 * (19 * el b 4) ∧ acc a b 25 4 = el a 0 * el b 4 + el a 1 * el b 3 + el a 2 * el b 2 + el a 3 * el b 1 + el a 4 * el b 0 := by
  refine ⟨?_, ?_, ?_, ?_, ?_⟩ <;> simp [acc, jj, prd]
theorem mul_val {a b : List Int} (ha : Lim 4503599627370496 a) (hb : Lim 4503599627370496 b) {d : List Int}
    (hd : d = ((List.range 5).map fun i => (acc a b 25 i + ov (acc a b 25) i) % 2251799813685248).set 0 ((acc a b 25 0 + ov (acc a b 25) 0) % 2251799813685248 + ov (acc a b 25) 5 * 19)) :
    Lim 18446744073709551616 d ∧ val d % prI = val a * val b % prI ∧ 0 ≤ ov (acc a b 25) 5 ∧ ov (acc a b 25) 5 < 48038396025285291 := by
  have hS : ∀ j, 0 ≤ acc a b 25 j ∧ acc a b 25 j ≤ 9634144561734543451374944360857600 := fun j => by have := acc_lt ha hb j 25 (by omega); omega
  have hov := ov_lt hS
  obtain ⟨s0, s1, s2, s3, s4⟩ := acc25 a b
  have e5 : ov (acc a b 25) 5 = (acc a b 25 4 + ov (acc a b 25) 4) / 2251799813685248 := rfl
  have e4 : ov (acc a b 25) 4 = (acc a b 25 3 + ov (acc a b 25) 3) / 2251799813685248 := rfl
  have e3 : ov (acc a b 25) 3 = (acc a b 25 2 + ov (acc a b 25) 2) / 2251799813685248 := rfl
  have e2 : ov (acc a b 25) 2 = (acc a b 25 1 + ov (acc a b 25) 1) / 2251799813685248 := rfl
  have e1 : ov (acc a b 25) 1 = (acc a b 25 0 + ov (acc a b 25) 0) / 2251799813685248 := rfl
  have e0 : ov (acc a b 25) 0 = 0 := rfl
  have h4 : acc a b 25 4 ≤ 5 * 20282409603651670423947251286016 := by
    rw [s4]
    have q : ∀ i k, i < 5 → k < 5 → el a i * el b k ≤ 4503599627370496 * 4503599627370496 := fun i k hi hk =>
      Int.mul_le_mul (by have := ha.at_ i hi; omega) (by have := hb.at_ k hk; omega) (hb.at_ k hk).1 (by omega)
    have := q 0 4 (by omega) (by omega)
    have := q 1 3 (by omega) (by omega)
    have := q 2 2 (by omega) (by omega)
    have := q 3 1 (by omega) (by omega)
    have := q 4 0 (by omega) (by omega)
    omega
  have o4 := hov 4
  have h5 : 0 ≤ ov (acc a b 25) 5 ∧ ov (acc a b 25) 5 < 48038396025285291 := by have := hS 4; omega
  have hdl : d.length = 5 := by rw [hd]; simp
  have hel : ∀ k, k < 5 → el d k = if 0 = k then (acc a b 25 0 + ov (acc a b 25) 0) % 2251799813685248 + ov (acc a b 25) 5 * 19 else (acc a b 25 k + ov (acc a b 25) k) % 2251799813685248 := fun k hk => by
    rw [hd, el_set _ _ _ _ (by simp), el_map_range _ _ _ hk]
  have d0 : el d 0 = (acc a b 25 0 + ov (acc a b 25) 0) % 2251799813685248 + ov (acc a b 25) 5 * 19 := by rw [hel 0 (by omega), if_pos rfl]
  have d1 : el d 1 = (acc a b 25 1 + ov (acc a b 25) 1) % 2251799813685248 := by rw [hel 1 (by omega), if_neg (by omega)]
  have d2 : el d 2 = (acc a b 25 2 + ov (acc a b 25) 2) % 2251799813685248 := by rw [hel 2 (by omega), if_neg (by omega)]
  have d3 : el d 3 = (acc a b 25 3 + ov (acc a b 25) 3) % 2251799813685248 := by rw [hel 3 (by omega), if_neg (by omega)]
  have d4 : el d 4 = (acc a b 25 4 + ov (acc a b 25) 4) % 2251799813685248 := by rw [hel 4 (by omega), if_neg (by omega)]
  refine ⟨⟨hdl, by omega, by omega, by omega, by omega, by omega⟩, ?_, h5⟩
  have hval : val d + prI * ov (acc a b 25) 5 = acc a b 25 0 + 2251799813685248 * acc a b 25 1 + 5070602400912917605986812821504 * acc a b 25 2 + 11417981541647679048466287755595961091061972992 * acc a b 25 3 + 25711008708143844408671393477458601640355247900524685364822016 * acc a b 25 4 := by
    unfold val prI
    omega
  have hprod : val a * val b = acc a b 25 0 + 2251799813685248 * acc a b 25 1 + 5070602400912917605986812821504 * acc a b 25 2 + 11417981541647679048466287755595961091061972992 * acc a b 25 3 + 25711008708143844408671393477458601640355247900524685364822016 * acc a b 25 4 + prI * (1 * (el a 1 * el b 4) + 1 * (el a 2 * el b 3) + 2251799813685248 * (el a 2 * el b 4) + 1 * (el a 3 * el b 2) + 2251799813685248 * (el a 3 * el b 3) + 5070602400912917605986812821504 * (el a 3 * el b 4) + 1 * (el a 4 * el b 1) + 2251799813685248 * (el a 4 * el b 2) + 5070602400912917605986812821504 * (el a 4 * el b 3) + 11417981541647679048466287755595961091061972992 * (el a 4 * el b 4)) := by
    rw [s0, s1, s2, s3, s4]
    unfold val prI
    grind
  rw [hprod, ← hval, Int.add_assoc, ← Int.mul_add, Int.add_mul_emod_self_left]
section
variable {w : World}
set_option maxRecDepth 100000 in
/-- Mul. -/
theorem mul_any (a b : List Int) (ha : Lim 4503599627370496 a) (hb : Lim 4503599627370496 b) :
    Calls Try.prog 36 #[fe a, fe b] w fun e w' => ∃ c, e = .returned (fe c) ∧ Lim 4503599627370496 c ∧ val c % prI = val a * val b % prI ∧ Fr [] w w' := by
  have hla := ha.len
  have hlb := hb.len
  have HA := Lib.hid ha
  have HB := Lib.hid hb
  clear ha hb
  unfold fe
  go_enter Try.func36, Try.ntmps36
  go_wp2
  have h10 : (#[.int .u64 0, .int .u64 0, .int .u64 0, .int .u64 0, .int .u64 0, .int .u64 0, .int .u64 0, .int .u64 0, .int .u64 0, .int .u64 0] : Array Value) = ints .u64 (flat (acc a b 0)) := rfl
  obtain ⟨V, hV⟩ : ∃ V, V = (((w.alloc (.cells (ints .u64 a) 28)).alloc (.cells (ints .u64 b) 28)).alloc (.cells (ints .u64 (zs 5)) 28)).alloc (.cells (ints .u64 (flat (acc a b 0))) 81) := ⟨_, rfl⟩
  refine Eq.mp (congrArg (fun X => Code.wp _ _ _ _ X) hV) ?_
  have h0 : V.blk w.heap.size = some (.cells (ints .u64 a) 28) := by rw [hV]; go_simp
  have h1 : V.blk (w.heap.size + 1) = some (.cells (ints .u64 b) 28) := by rw [hV]; go_simp
  have h2 : V.blk (w.heap.size + 2) = some (.cells (ints .u64 (zs 5)) 28) := by rw [hV]; go_simp
  have h3 : V.blk (w.heap.size + 3) = some (.cells (ints .u64 (flat (acc a b 0))) 81) := by rw [hV]; go_simp
  have FV : Fr [] w V := by rw [hV]; exact ((((Fr.refl _ _).alloc _).alloc _).alloc _).alloc _
  have HFV := Lib.hid FV
  have H0 := Lib.hid h0
  have H1 := Lib.hid h1
  have H2 := Lib.hid h2
  clear hV FV h10 h0 h1 h2
  go_loopw [18] (fun i wr => ∃ k : Nat, k ≤ 5 ∧ i = .int .i64 k ∧ Fr [w.heap.size + 3] V wr ∧ wr.blk (w.heap.size + 3) = some (.cells (ints .u64 (flat (acc a b (5 * k)))) 81 (0, 0))) (fun i _ => 5 - (intOf i).toNat)
  case atStart => exact ⟨0, by omega, rfl, Fr.refl _ _, h3⟩
  case round =>
    obtain ⟨k, hk, rfl, FR, hc⟩ := hrel
    clear h3
    by_cases hlt : k < 5
    · have h1 := FR.get H1.out (by simp)
      have h1l := World.at_lt h1
      have HFR := Lib.hid FR
      clear FR
      go_wp2
      rw [show decide ((k : Int) < 5) = true from by simp; omega]
      go_loopw [24] (fun i wv => ∃ m : Nat, m ≤ 5 ∧ i = .int .i64 m ∧ Fr [w.heap.size + 3] V wv ∧ wv.blk (w.heap.size + 3) = some (.cells (ints .u64 (flat (acc a b (5 * k + m)))) 81 (0, 0))) (fun i _ => 5 - (intOf i).toNat)
      case atStart => exact ⟨0, by omega, rfl, HFR.out, hc⟩
      case round =>
        obtain ⟨m, hm, rfl, FR, hd⟩ := hrel
        clear hc h1 h1l
        have hdl := World.at_lt hd
        have HFR2 := Lib.hid FR
        clear FR
        by_cases hlm : m < 5
        · have x1 := HA.out.at_ k hlt
          have x2 := HB.out.at_ m hlm
          have hfl := length_flat (acc a b (5 * k + m))
          have hal := acc_lt HA.out HB.out (jj (5 * k + m)) (5 * k + m) (by omega)
          have hpl := prd_lt HA.out HB.out (5 * k + m) (by omega)
          have hpa := prd_at a b k m hlm
          have hja := jj_at k m hlm
          obtain ⟨hv, ho⟩ := acc_next a b k m hlm
          by_cases hge : 5 ≤ k + m
          · rw [if_pos hge] at hpa hja
            rw [hpa] at hpl
            rw [hja] at hal hv ho
            have hv' := hv _ hpa
            have hg := flat_get (acc a b (5 * k + m)) (k + m - 5) (by omega)
            have hp := flat_put (acc a b (5 * k + m)) (acc a b (5 * k + (m + 1))) (k + m - 5) (by omega) _ hv' ho
            have hm5 : (k + m - 5) * 2 + 2 ≤ 10 := by omega
            have hal' : acc a b (5 * k + m) (k + m - 5) + el a k * (19 * el b m) < 340282366920938463463374607431768211456 := by omega
            have HAL := Lib.hid hal
            have HV := Lib.hid hal'
            clear hal hpl hpa hja hv ho hv' hal'
            go_wp2_with fail
            refine (more_at (acc a b (5 * k + m) (k + m - 5)) (el a k) (19 * el b m) HAL.out.1 (by omega) (by omega) (by omega) (by omega) HV.out).mono ?_
            rintro e wx ⟨rfl, FX⟩
            have hd' := FX.get hd (by simp)
            have hdl' := World.at_lt hd'
            have HX := Lib.hid (HFR2.out.trans (FX.mono (fun _ h => by cases h)))
            clear FX hd hdl hg
            go_wp2
            go_roundw
            case rel => exact ⟨m + 1, by omega, by go_num, HX.out.put _ _ (by simp), World.at_put_same _ _ _ hdl'⟩
            case measure => simp [intOf]; omega
          · rw [if_neg hge] at hpa hja
            rw [hpa] at hpl
            rw [hja] at hal hv ho
            have hv' := hv _ hpa
            have hg := flat_get (acc a b (5 * k + m)) (k + m) (by omega)
            have hp := flat_put (acc a b (5 * k + m)) (acc a b (5 * k + (m + 1))) (k + m) (by omega) _ hv' ho
            have hm5 : (k + m) * 2 + 2 ≤ 10 := by omega
            have hal' : acc a b (5 * k + m) (k + m) + el a k * el b m < 340282366920938463463374607431768211456 := by omega
            have HAL := Lib.hid hal
            have HV := Lib.hid hal'
            clear hal hpl hpa hja hv ho hv' hal'
            go_wp2_with fail
            refine (more_at (acc a b (5 * k + m) (k + m)) (el a k) (el b m) HAL.out.1 (by omega) (by omega) (by omega) (by omega) HV.out).mono ?_
            rintro e wx ⟨rfl, FX⟩
            have hd' := FX.get hd (by simp)
            have hdl' := World.at_lt hd'
            have HX := Lib.hid (HFR2.out.trans (FX.mono (fun _ h => by cases h)))
            clear FX hd hdl hg
            go_wp2
            go_roundw
            case rel => exact ⟨m + 1, by omega, by go_num, HX.out.put _ _ (by simp), World.at_put_same _ _ _ hdl'⟩
            case measure => simp [intOf]; omega
        · obtain rfl : m = 5 := by omega
          go_wp2
          go_roundw
          case rel => exact ⟨k + 1, by omega, by go_num, HFR2.out, hd⟩
          case measure => simp [intOf]; omega
    · obtain rfl : k = 5 := by omega
      rw [show ((5 : Nat) : Int) = 5 from rfl]
      obtain ⟨S, hS⟩ : ∃ S, S = acc a b 25 := ⟨_, rfl⟩
      rw [show 5 * 5 = 25 from rfl, ← hS] at hc
      have h2 := FR.get H2.out (by simp)
      have hcl := World.at_lt hc
      have h2l := World.at_lt h2
      have FW := HFV.out.seq FR (by simp)
      have HFW := Lib.hid FW
      have HS := Lib.hid hS
      clear FR FW hS
      go_wp2
      obtain ⟨W, hW⟩ : ∃ W, W = wr.alloc (.cells (ints .u64 (zs 5)) 28) := ⟨_, rfl⟩
      refine Eq.mp (congrArg (fun X => Code.wp _ _ _ _ X) hW) ?_
      have k2 : W.blk (w.heap.size + 2) = some (.cells (ints .u64 (zs 5)) 28) := by rw [hW]; go_simp
      have k3 : W.blk (w.heap.size + 3) = some (.cells (ints .u64 (flat S)) 81) := by rw [hW]; go_simp
      have k4 : W.blk wr.heap.size = some (.cells (ints .u64 (zs 5)) 28) := by rw [hW]; go_simp
      have FY : Fr [] w W := by rw [hW]; exact HFW.out.alloc _
      have HFY := Lib.hid FY
      have hSb : ∀ j, 0 ≤ S j ∧ S j ≤ 9634144561734543451374944360857600 := fun j => by rw [HS.out]; have := acc_lt HA.out HB.out j 25 (by omega); omega
      have HSB := Lib.hid hSb
      have hsz := HFW.out.size
      have hne : wr.heap.size ≠ w.heap.size + 2 := by omega
      clear hW FY HFW h2 hc hSb
      go_loopw [11, 61] (fun o i wv => ∃ k : Nat, k ≤ 5 ∧ i = .int .i64 k ∧ o = .int .u64 (ov S k) ∧ Fr [wr.heap.size] W wv ∧ wv.blk wr.heap.size = some (.cells (ints .u64 (upd (fun i => (S i + ov S i) % 2251799813685248) (zs 5) k)) 28 (0, 0))) (fun _ i _ => 5 - (intOf i).toNat)
      case atStart => exact ⟨0, by omega, rfl, rfl, Fr.refl _ _, by rw [upd_zero]; exact k4⟩
      case round =>
        obtain ⟨k, hk, rfl, rfl, FR, hc⟩ := hrel
        clear k4
        have hcl := World.at_lt hc
        have k2' := FR.get k2 (by simp; omega)
        have k3' := FR.get k3 (by simp; omega)
        have k3l := World.at_lt k3'
        have HFR := Lib.hid FR
        have hlu := length_upd (fun i => (S i + ov S i) % 2251799813685248) (zs 5) k (by rw [length_zs]; exact hk)
        rw [length_zs] at hlu
        clear FR k2 k3
        by_cases hlt : k < 5
        · have hset : (upd (fun i => (S i + ov S i) % 2251799813685248) (zs 5) k).set k ((S k + ov S k) % 2251799813685248) = upd (fun i => (S i + ov S i) % 2251799813685248) (zs 5) (k + 1) :=
            set_upd (fun i => (S i + ov S i) % 2251799813685248) (zs 5) k (by rw [length_zs]; exact hlt)
          have b1 := HSB.out k
          have b2 := ov_lt HSB.out k
          obtain ⟨f1, f2, f3, f4⟩ := mul_facts (S k) (ov S k) b1 b2
          have hfl := length_flat S
          have g1 : el (flat S) (k * 2 + 1) = S k % 18446744073709551616 := by rw [el_flat _ _ (by omega), if_neg (by omega)]; congr 2; omega
          have g2 : el (flat S) (k * 2) = S k / 18446744073709551616 := by rw [el_flat _ _ (by omega), if_pos (by omega)]; congr 2; omega
          have g3 : k * 2 + 1 < 10 := by omega
          have g4 : k * 2 < 10 := by omega
          have e1 := add64_0 (S k % 18446744073709551616) (ov S k) (by omega) b2.1
          have hov : (S k + ov S k) / 2251799813685248 = ov S (k + 1) := rfl
          go_wp2_with (simp only [e1])
          go_roundw
          case rel => exact ⟨k + 1, by omega, by go_num, rfl, HFR.out.put _ _ (by simp), World.at_put_same _ _ _ hcl⟩
          case measure => simp [intOf]; omega
        · obtain rfl : k = 5 := by omega
          have hfull : upd (fun i => (S i + ov S i) % 2251799813685248) (zs 5) 5 = (List.range 5).map fun i => (S i + ov S i) % 2251799813685248 := upd_full _ _ _ (length_zs 5)
          rw [hfull] at hc hlu
          obtain ⟨c, hce⟩ : ∃ c, c = (List.range 5).map fun i => (S i + ov S i) % 2251799813685248 := ⟨_, rfl⟩
          rw [← hce] at hc hlu
          have hc0 : el c 0 = (S 0 + ov S 0) % 2251799813685248 := by rw [hce, el_map_range _ _ _ (by omega)]
          obtain ⟨d, hde⟩ : ∃ d, c.set 0 (el c 0 + ov S 5 * 19) = d := ⟨_, rfl⟩
          obtain ⟨m1, m2, m3⟩ := mul_val HA.out HB.out (d := d) (by rw [← hde, hc0, hce, HS.out])
          rw [← HS.out] at m3
          have hc1 : 0 ≤ el c 0 ∧ el c 0 < 2251799813685248 := by rw [hc0]; omega
          have hdl : d.length = 5 := m1.len
          have FX := HFY.out.seq HFR.out (by simp; omega)
          have HFX := Lib.hid FX
          have M1 := Lib.hid m1
          have M2 := Lib.hid m2
          clear FX hfull hce hc0 m1 m2 k3' k3l
          go_wp2_with fail
          refine (carry_any d M1.out).mono ?_
          rintro e w1 ⟨z, rfl, hzl, HZ, F1⟩
          have k5 := F1.get (b := w.heap.size + 2) (o := .cells (ints .u64 (zs 5)) 28) (by go_simp) (by simp)
          have k5l := World.at_lt k5
          have FZ : Fr [] w w1 := (HFX.out.put _ _ (by omega)).trans F1
          have HFZ := Lib.hid FZ
          clear FZ F1 hc hcl m3 hc1 k2'
          go_wp2
          refine ret_cell rfl rfl rfl ?_
          go_simp
          have hzz : Lim 4503599627370496 z ∧ val z % prI = val a * val b % prI := by
            rw [HZ.out]
            refine ⟨lim_carry M1.out, ?_⟩
            rw [← M2.out, val_carryL d, prI, Int.add_mul_emod_self_left]
          exact ⟨z, rfl, hzz.1, hzz.2, HFZ.out.put _ _ (by omega)⟩
end
end Go.Proofs.Ytakhmmnklkckpaa
namespace Go.Proofs.Ytakhmmnklkckpaa
open Go.RowKit Go.Dr

/-- The limbs of a number modulo p. -/
structure Is (l : List Int) (x : Fp) : Prop where
  lim : Lim 4503599627370496 l
  eq : toFp (val l) = x
theorem Is.len {l : List Int} {x : Fp} (h : Is l x) : l.length = 5 := h.lim.len
theorem is_carry {l : List Int} (h : Lim 18446744073709551616 l) {x : Fp} (hx : toFp (val l) = x) : Is (carryL l) x :=
  ⟨lim_carry h, by rw [← hx]; exact toFp_eq (by rw [val_carryL l, prI, Int.add_mul_emod_self_left])⟩
theorem lim_addL {a b : List Int} (ha : Lim 4503599627370496 a) (hb : Lim 4503599627370496 b) : Lim 18446744073709551616 (addL a b) ∧ val (addL a b) = val a + val b := by
  constructor
  · refine Lim.mk' (by simp [addL]) fun k hk => ?_
    rw [addL, el_map_range _ _ _ hk]
    have := ha.at_ k hk
    have := hb.at_ k hk
    omega
  · unfold val addL
    rw [el_map_range _ _ _ (by omega), el_map_range _ _ _ (by omega), el_map_range _ _ _ (by omega), el_map_range _ _ _ (by omega), el_map_range _ _ _ (by omega)]
    omega
theorem lim_subL {a b : List Int} (ha : Lim 4503599627370496 a) (hb : Lim 4503599627370496 b) : Lim 18446744073709551616 (subL a b) ∧ val (subL a b) = val a - val b + prI * 4 := by
  constructor
  · refine Lim.mk' (by simp [subL]) fun k hk => ?_
    rw [subL, el_map_range _ _ _ hk]
    have := ha.at_ k hk
    have := hb.at_ k hk
    have := fourP_at k hk
    omega
  · unfold val subL
    rw [el_map_range _ _ _ (by omega), el_map_range _ _ _ (by omega), el_map_range _ _ _ (by omega), el_map_range _ _ _ (by omega), el_map_range _ _ _ (by omega)]
    simp only [fourP, el_zero, el_succ, prI]
    omega
/-- The bytes of a number modulo p. -/
def bytesF (x : Fp) : List Int := bytesL (x.val : Int)
section
variable {w : World} {a b : List Int} {x y : Fp}
theorem of_f {b : List Int} (hlb : b.length = 32) (hb : Byt b) :
    Calls Try.prog 27 #[.agg (ints .u8 b)] w fun e w' => ∃ c, e = .returned (fe c) ∧ Is c (toFp (le b % 57896044618658097711785492504343953926634992332820282019728792003956564819968)) ∧ Fr [] w w' :=
  (of_any b hlb hb).mono fun _ _ ⟨c, h1, h2, h3, h4⟩ => ⟨c, h1, ⟨h2.mono (by decide), by rw [h3]⟩, h4⟩
theorem bytes_f (ha : Is a x) : Calls Try.prog 26 #[fe a] w fun e w' => e = .returned (.agg (ints .u8 (bytesF x))) ∧ Fr [] w w' := by
  have := bytes_walk (w := w) a ha.lim
  rw [← val_toFp, ha.eq] at this
  exact this
theorem add_f (ha : Is a x) (hb : Is b y) : Calls Try.prog 30 #[fe a, fe b] w fun e w' => ∃ c, e = .returned (fe c) ∧ Is c (x + y) ∧ Fr [] w w' :=
  (add_walk a b ha.lim hb.lim).mono fun _ _ ⟨c, h1, _, h3, h4⟩ => ⟨c, h1, by
    have h := lim_addL ha.lim hb.lim
    rw [h3.out]
    exact is_carry h.1 (by rw [h.2, toFp_add, ha.eq, hb.eq]), h4⟩
theorem sub_of (ha : Is a x) (hb : Is b y) : Is (carryL (subL a b)) (x - y) := by
  have h := lim_subL ha.lim hb.lim
  refine is_carry h.1 ?_
  rw [← ha.eq, ← hb.eq, ← toFp_sub, h.2]
  exact toFp_eq (by rw [Int.add_mul_emod_self_left])
theorem sub_f (ha : Is a x) (hb : Is b y) : Calls Try.prog 32 #[fe a, fe b] w fun e w' => ∃ c, e = .returned (fe c) ∧ Is c (x - y) ∧ Fr [] w w' :=
  (sub_walk a b ha.lim hb.lim).mono fun _ _ ⟨c, h1, _, h3, h4⟩ => ⟨c, h1, by rw [h3.out]; exact sub_of ha hb, h4⟩
theorem is_zero : Is (zs 5) 0 := ⟨⟨rfl, by decide, by decide, by decide, by decide, by decide⟩, by decide⟩
theorem neg_f (ha : Is a x) : Calls Try.prog 34 #[fe a] w fun e w' => ∃ c, e = .returned (fe c) ∧ Is c (-x) ∧ Fr [] w w' :=
  (neg_walk a ha.lim).mono fun _ _ ⟨c, h1, _, h3, h4⟩ => ⟨c, h1, by
    rw [h3.out, show -x = 0 - x from by grobner]; exact sub_of is_zero ha, h4⟩
theorem mul_f (ha : Is a x) (hb : Is b y) : Calls Try.prog 36 #[fe a, fe b] w fun e w' => ∃ c, e = .returned (fe c) ∧ Is c (x * y) ∧ Fr [] w w' :=
  (mul_any a b ha.lim hb.lim).mono fun _ _ ⟨c, h1, h2, h3, h4⟩ => ⟨c, h1, ⟨h2, by rw [toFp_eq h3, toFp_mul, ha.eq, hb.eq]⟩, h4⟩
end
/-- Is the bit set in 2^n - k? -/
def bitB (_n k i : Nat) : Bool := decide ((k - 1) / 2 ^ i % 2 = 0) || decide (10 < i)
section
variable {w : World}
theorem i64_and1 (n : Int) : bits .and .i64 n 1 = n % 2 := by
  have h1 : (BitVec.ofInt 64 1).toNat = 2 ^ 1 - 1 := by decide
  have key : (BitVec.ofInt 64 n &&& BitVec.ofInt 64 1).toNat = (n % ((2 ^ 64 : Nat) : Int)).toNat % 2 ^ 1 := by
    rw [BitVec.toNat_and, BitVec.toNat_ofInt, h1, Nat.and_two_pow_sub_one_eq_mod]
  show IntKind.i64.wrap ((BitVec.ofInt 64 n &&& BitVec.ofInt 64 1).toNat : Nat) = n % 2
  rw [key, IntKind.wrap_i64]
  omega
theorem bit_any {b : Nat} (n i k : Nat) (hi : i ≤ 255) (hk : 1 ≤ k) (hk2 : k ≤ 2048) (hb : w.blk b = some (.cells #[.int .i64 k] 3)) :
    Calls Try.prog 99 #[.int .i64 i, .pointer (some ⟨b, 0, none⟩)] w fun e w' => e = .returned (.bool (bitB n k i)) ∧ w' = w := by
  by_cases h10 : 10 < i
  · have hB : bitB n k i = true := by unfold bitB; simp [h10]
    rw [hB]
    have h10' : decide (10 < (i : Int)) = true := by simp; omega
    go_enter Try.func99, Try.ntmps99
    go_wp2
    all_goals (go_ret; simp)
  · have hB : bitB n k i = (((k : Int) - 1) / 2 ^ i % 2 == 0) := by
      unfold bitB
      have e : ((k : Int) - 1) / 2 ^ i % 2 = (((k - 1) / 2 ^ i % 2 : Nat) : Int) := by
        rw [Int.natCast_emod, Int.natCast_ediv, Int.natCast_pow]
        congr 2
        omega
      rw [e]
      simp only [h10, decide_false, Bool.or_false]
      rw [Bool.eq_iff_iff]
      simp only [decide_eq_true_eq, beq_iff_eq]
      omega
    rw [hB]
    have ha := i64_and1 (((k : Int) - 1) / 2 ^ i)
    have h64 : i ≤ 64 := by omega
    have h10' : decide (10 < (i : Int)) = false := by simp; omega
    go_enter Try.func99, Try.ntmps99
    go_wp2
    all_goals (go_ret; simp [*])
set_option maxRecDepth 100000 in
theorem power_walk (a : List Int) (x : Fp) (ha : Is a x) (n k : Nat) (hn : 1 ≤ n) (hn2 : n ≤ 255) (hk : 1 ≤ k) (hk2 : k ≤ 2048)
    (hbits : ∀ i, i < n → bitB n k i = decide ((2 ^ n - k) / 2 ^ i % 2 = 1)) :
    Calls Try.prog 73 #[fe a, .int .i64 n, .int .i64 k] w fun e w' => ∃ c, e = .returned (fe c) ∧ Is c (pw x (2 ^ n - k)) ∧ Fr [] w w' := by
  have hla := ha.len
  have HA := Lib.hid ha
  have HB := Lib.hid hbits
  clear ha hbits
  unfold fe
  go_enter Try.func73, Try.ntmps73
  go_wp2
  obtain ⟨V, hV⟩ : ∃ V, V = ((((w.alloc (.cells (ints .u64 a) 28)).alloc (.cells #[.int .i64 k] 3)).alloc (.cells (ints .u64 (zs 5)) 28)).alloc (.cells (ints .u64 [1, 0, 0, 0, 0]) 28)) := ⟨_, rfl⟩
  refine Eq.mp (congrArg (fun X => Code.wp _ _ _ _ X) hV) ?_
  have h0 : V.blk w.heap.size = some (.cells (ints .u64 a) 28) := by rw [hV]; go_simp
  have h1 : V.blk (w.heap.size + 1) = some (.cells #[.int .i64 k] 3) := by rw [hV]; go_simp
  have h2 : V.blk (w.heap.size + 2) = some (.cells (ints .u64 (zs 5)) 28) := by rw [hV]; go_simp
  have h3 : V.blk (w.heap.size + 3) = some (.cells (ints .u64 [1, 0, 0, 0, 0]) 28) := by rw [hV]; go_simp
  have FV : Fr [] w V := by rw [hV]; exact ((((Fr.refl _ _).alloc _).alloc _).alloc _).alloc _
  have HFV := Lib.hid FV
  clear hV FV
  have one : Is [1, 0, 0, 0, 0] (pw x ((2 ^ n - k) / 2 ^ n)) := by
    have hp := Nat.two_pow_pos n
    rw [Nat.div_eq_of_lt (by omega), pw_zero]
    exact ⟨⟨rfl, by decide, by decide, by decide, by decide, by decide⟩, by decide⟩
  have H0 := Lib.hid h0
  have H1 := Lib.hid h1
  have H2 := Lib.hid h2
  go_loopw [9] (fun iv wr => ∃ (j : Nat) (c : List Int), j ≤ n ∧ iv = .int .i64 ((j : Int) - 1) ∧ Fr [w.heap.size + 3] V wr ∧ wr.blk (w.heap.size + 3) = some (.cells (ints .u64 c) 28 (0, 0)) ∧ Is c (pw x ((2 ^ n - k) / 2 ^ j))) (fun iv _ => (intOf iv + 1).toNat)
  case atStart => exact ⟨n, _, Nat.le_refl n, rfl, Fr.refl _ _, h3, one⟩
  case round =>
    obtain ⟨j, c, hj, rfl, FR, hc, hC⟩ := hrel
    have HC := Lib.hid hC
    have hcl := hC.len
    have hcb := World.at_lt hc
    clear h0 h1 h2 h3 one hC
    by_cases h0 : 1 ≤ j
    · have k1 := FR.get H1.out (by simp)
      have k0 := FR.get H0.out (by simp)
      have HFR := Lib.hid FR
      clear FR
      go_wp2_with fail
      refine (mul_f HC.out HC.out).mono ?_
      rintro e w1 ⟨d, rfl, hD, F1⟩
      have hc1 := F1.get hc (by simp)
      have hc1b := World.at_lt hc1
      have k1' := F1.get k1 (by simp)
      have k0' := F1.get k0 (by simp)
      have hdl := hD.len
      have HD := Lib.hid hD
      have HF1 := Lib.hid (HFR.out.trans (F1.mono (fun _ h => by cases h)))
      clear F1 hD hc k1 k0 hcb
      have hj1 : ((j - 1 : Nat) : Int) = (j : Int) - 1 := by omega
      go_wp2_with fail
      rw [← hj1]
      refine (bit_any n (j - 1) k (by omega) hk hk2 (b := w.heap.size + 1) (by rw [World.at_put_other _ _ _ _ (by omega)]; exact k1')).mono ?_
      rintro e w2 ⟨rfl, rfl⟩
      have hE : (2 ^ n - k) / 2 ^ (j - 1) = 2 * ((2 ^ n - k) / 2 ^ j) + (2 ^ n - k) / 2 ^ (j - 1) % 2 := by
        have : 2 ^ j = 2 ^ (j - 1) * 2 := by rw [← Nat.pow_succ, show (j - 1).succ = j from by omega]
        rw [this, ← Nat.div_div_eq_div_mul]
        omega
      have hbit := HB.out (j - 1) (by omega)
      obtain ⟨W, hW⟩ : ∃ W, W = w1.put (w.heap.size + 1 + 1 + 1) (.cells (ints .u64 d) 28) := ⟨_, rfl⟩
      rw [← hW]
      have g0 : W.blk w.heap.size = some (.cells (ints .u64 a) 28) := by rw [hW, World.at_put_other _ _ _ _ (by omega)]; exact k0'
      have g3 : W.blk (w.heap.size + 3) = some (.cells (ints .u64 d) 28) := by rw [hW]; exact World.at_put_same _ _ _ hc1b
      have FW : Fr [w.heap.size + 3] V W := by rw [hW]; exact HF1.out.put _ _ (by simp)
      have HFW := Lib.hid FW
      have g3b := World.at_lt g3
      clear hW FW k0' k1' hc1 hc1b HF1
      cases hb : bitB n k (j - 1) with
      | true =>
        rw [hb] at hbit
        have hE1 : (2 ^ n - k) / 2 ^ (j - 1) % 2 = 1 := of_decide_eq_true hbit.symm
        have HE := Lib.hid hE
        have HE1 := Lib.hid hE1
        clear hE hE1 hbit hb
        simp only []
        go_wp2_with fail
        refine (mul_f HD.out HA.out).mono ?_
        rintro e w2 ⟨z, rfl, hZ, F2⟩
        have g4 := F2.get g3 (by simp)
        have g4b := World.at_lt g4
        have hzl := hZ.len
        have HZ := Lib.hid hZ
        have HF2 := Lib.hid (HFW.out.trans (F2.mono (fun _ h => by cases h)))
        clear F2 hZ g3 g0 g3b
        go_wp2
        go_roundw
        case rel =>
          refine ⟨j - 1, z, by omega, by rw [hj1], HF2.out.put _ _ (by simp), World.at_put_same _ _ _ g4b, ?_⟩
          rw [HE.out, HE1.out, pw_succ, Nat.two_mul, pw_add]
          exact HZ.out
        case measure => simp [intOf]; omega
      | false =>
        rw [hb] at hbit
        have hE1 : (2 ^ n - k) / 2 ^ (j - 1) % 2 = 0 := by have := of_decide_eq_false hbit.symm; omega
        have HE := Lib.hid hE
        have HE1 := Lib.hid hE1
        clear hE hE1 hbit hb g0
        simp only []
        go_wp2
        go_roundw
        case rel =>
          refine ⟨j - 1, d, by omega, by rw [hj1], HFW.out, g3, ?_⟩
          rw [HE.out, HE1.out, Nat.add_zero, Nat.two_mul, pw_add]
          exact HD.out
        case measure => simp [intOf]; omega
    · obtain rfl : j = 0 := by omega
      have h2 := FR.get H2.out (by simp)
      have FX := HFV.out.seq FR (by simp)
      have h2l := World.at_lt h2
      have HFX := Lib.hid FX
      clear FR FX
      go_wp2
      refine ret_cell rfl rfl rfl ?_
      go_simp
      refine ⟨c, rfl, ?_, HFX.out.put _ _ (by omega)⟩
      have := HC.out
      rwa [Nat.pow_zero, Nat.div_one] at this
theorem bits_of {n k : Nat} (h : ((List.range n).all fun i => bitB n k i == decide ((2 ^ n - k) / 2 ^ i % 2 = 1)) = true) : ∀ i, i < n → bitB n k i = decide ((2 ^ n - k) / 2 ^ i % 2 = 1) := fun i hi => by
  have := List.all_eq_true.1 h i (List.mem_range.2 hi)
  simpa using this
theorem power255 {a : List Int} {x : Fp} (ha : Is a x) : Calls Try.prog 73 #[fe a, .int .i64 255, .int .i64 21] w fun e w' => ∃ c, e = .returned (fe c) ∧ Is c (inv x) ∧ Fr [] w w' := by
  have := power_walk (w := w) a x ha 255 21 (by omega) (by omega) (by omega) (by omega) (bits_of (by kernel_rfl))
  rw [show 2 ^ 255 - 21 = pm2 from by unfold pm2; omega] at this
  exact this
theorem power252 {a : List Int} {x : Fp} (ha : Is a x) : Calls Try.prog 73 #[fe a, .int .i64 252, .int .i64 2] w fun e w' => ∃ c, e = .returned (fe c) ∧ Is c (pw x pEight) ∧ Fr [] w w' := by
  have := power_walk (w := w) a x ha 252 2 (by omega) (by omega) (by omega) (by omega) (bits_of (by kernel_rfl))
  rw [show 2 ^ 252 - 2 = pEight from by unfold pEight; omega] at this
  exact this
theorem power253 {a : List Int} {x : Fp} (ha : Is a x) : Calls Try.prog 73 #[fe a, .int .i64 253, .int .i64 5] w fun e w' => ∃ c, e = .returned (fe c) ∧ Is c (pw x pQuart) ∧ Fr [] w w' := by
  have := power_walk (w := w) a x ha 253 5 (by omega) (by omega) (by omega) (by omega) (bits_of (by kernel_rfl))
  rw [show 2 ^ 253 - 5 = pQuart from by unfold pQuart; omega] at this
  exact this
theorem inv_f {a : List Int} {x : Fp} (ha : Is a x) : Calls Try.prog 40 #[fe a] w fun e w' => ∃ c, e = .returned (fe c) ∧ Is c (inv x) ∧ Fr [] w w' := by
  have hla := ha.len
  have HA := Lib.hid ha
  clear ha
  go_enter Try.func40, Try.ntmps40
  go_wp2_with fail
  refine (power255 HA.out).mono ?_
  rintro e w1 ⟨c, rfl, hC, F1⟩
  have h3 := F1.get (b := w.heap.size + 1) (o := .cells (ints .u64 (zs 5)) 28) (by go_simp; rfl) (by simp)
  have h3l := World.at_lt h3
  have hcl := hC.len
  have HC := Lib.hid hC
  have HFB := Lib.hid ((((Fr.refl [] w).alloc _).alloc _).trans F1)
  clear F1 hC
  go_wp2
  refine ret_cell rfl rfl rfl ?_
  go_simp
  exact ⟨_, rfl, HC.out, HFB.out.put _ _ (by omega)⟩
end
end Go.Proofs.Ytakhmmnklkckpaa
namespace Go.Proofs.Ytakhmmnklkckpaa
open Go.RowKit Go.Dr

theorem le_digits (n : Nat) : ∀ m, le ((List.range m).map fun i => (n : Int) / 256 ^ i % 256) = ((n % 256 ^ m : Nat) : Int)
  | 0 => by simp [le, Nat.mod_one]
  | m + 1 => by
    rw [List.range_succ, List.map_append, le_append, le_digits n m]
    simp only [List.map_cons, List.map_nil, le, List.length_map, List.length_range]
    rw [Nat.pow_succ, Nat.mod_mul]
    rw [Int.natCast_add, Int.natCast_mul, Int.natCast_pow, Int.natCast_emod (n / 256 ^ m), Int.natCast_ediv, Int.natCast_pow]
    grind
theorem le_bytesF (x : Fp) : le (bytesF x) = x.val := by
  rw [bytesF, bytesL, le_digits]
  have := x.isLt
  rw [Nat.mod_eq_of_lt (by omega)]
theorem bytesF_inj {x y : Fp} : bytesF x = bytesF y ↔ x = y :=
  ⟨fun h => fp_ext (by rw [← le_bytesF, ← le_bytesF, h]), fun h => by rw [h]⟩
theorem length_bytesF (x : Fp) : (bytesF x).length = 32 := by simp [bytesF, bytesL]
theorem el_bytesF0 (x : Fp) : el (bytesF x) 0 = (x.val : Int) % 256 := by
  rw [bytesF, bytesL, el_map_range _ _ _ (by omega), Int.pow_zero, Int.ediv_one]
theorem u8_and1 (n : Int) (h0 : 0 ≤ n) (h1 : n < 256) : bits .and .u8 n 1 = n % 2 := by go_bits2
/-- The candidate for a root; is it one? The even one. -/
def rCand (x : Fp) : Fp := if pw x pEight * pw x pEight = -x then pw x pEight * im else pw x pEight
def rootOk (x : Fp) : Bool := decide (rCand x * rCand x = x)
def oddF (x : Fp) : Bool := decide (x.val % 2 = 1)
def evenOf (x : Fp) : Fp := if oddF x then -x else x
def rootF (x : Fp) : Fp := if rootOk x then evenOf (rCand x) else 0
theorem rootF_odd {x : Fp} (h : rootOk x = true) (h2 : oddF (rCand x) = true) : rootF x = -rCand x := by rw [rootF, if_pos h, evenOf, if_pos h2]
theorem rootF_even {x : Fp} (h : rootOk x = true) (h2 : oddF (rCand x) = false) : rootF x = rCand x := by rw [rootF, if_pos h, evenOf, if_neg (by rw [h2]; exact Bool.false_ne_true)]
theorem rootF_none {x : Fp} (h : rootOk x = false) : rootF x = 0 := by rw [rootF, if_neg (by rw [h]; exact Bool.false_ne_true)]
section
variable {w : World}
set_option maxRecDepth 100000 in
set_option maxHeartbeats 4000000 in
theorem root_walk (a : List Int) (x : Fp) (ha : Is a x) :
    Calls Try.prog 38 #[fe a] w fun e w' => ∃ c, e = .returned (.tuple #[fe c, .bool (rootOk x)]) ∧ Is c (rootF x) ∧ Fr [] w w' := by
  have hla := ha.len
  have HA := Lib.hid ha
  clear ha
  unfold fe
  go_enter Try.func38, Try.ntmps38
  go_wp2_with fail
  refine (power252 HA.out).mono ?_
  rintro e w1 ⟨r, rfl, hR, F1⟩
  have h0 := F1.get (b := w.heap.size) (o := .cells (ints .u64 a) 28) (by go_simp) (by simp)
  have h1 := F1.get (b := w.heap.size + 1) (o := .cells (ints .u64 (zs 5)) 28) (by go_simp; rfl) (by simp)
  have hrl := hR.len
  have HR := Lib.hid hR
  have HF1 := Lib.hid ((((Fr.refl [] w).alloc _).alloc _).trans F1)
  have h0l := World.at_lt h0
  have h1l := World.at_lt h1
  clear F1 hR
  go_wp2_with fail
  refine (mul_f HR.out HR.out).mono ?_
  rintro e w2 ⟨s, rfl, hS, F2⟩
  have HS := Lib.hid hS
  have k0 := F2.get (b := w.heap.size) (o := .cells (ints .u64 a) 28) (by go_simp) (by simp)
  have k1 := F2.get (b := w.heap.size + 1) (o := .cells (ints .u64 (zs 5)) 28) (by go_simp) (by simp)
  have k2 := F2.get (b := w1.heap.size) (o := .cells (ints .u64 r) 28) (by go_simp) (by simp)
  have HF2 := Lib.hid ((HF1.out.alloc _).trans F2)
  clear F2 hS h0 h1
  go_wp2_with fail
  refine (bytes_f HS.out).mono ?_
  rintro e w3 ⟨rfl, F3⟩
  have m0 := F3.get k0 (by simp)
  have m1 := F3.get k1 (by simp)
  have m2 := F3.get k2 (by simp)
  have HF3 := Lib.hid (HF2.out.trans F3)
  obtain ⟨sq, hsq⟩ : ∃ l, l = bytesF (pw x pEight * pw x pEight) := ⟨_, rfl⟩
  rw [← hsq]
  have hsl : sq.length = 32 := by rw [hsq, bytesF, bytesL]; simp
  have HSQ := Lib.hid hsq
  clear F3 k0 k1 k2 hsq
  go_wp2
  obtain ⟨W, hW⟩ : ∃ W, W = w3.alloc (.cells (ints .u8 sq) 22) := ⟨_, rfl⟩
  refine Eq.mp (congrArg (fun X => Code.wp _ _ _ _ X) hW) ?_
  have g0 : W.blk w.heap.size = some (.cells (ints .u64 a) 28) := by rw [hW, World.at_alloc_lt _ _ _ (World.at_lt m0)]; exact m0
  have g1 : W.blk (w.heap.size + 1) = some (.cells (ints .u64 (zs 5)) 28) := by rw [hW, World.at_alloc_lt _ _ _ (World.at_lt m1)]; exact m1
  have g2 : W.blk w1.heap.size = some (.cells (ints .u64 r) 28) := by rw [hW, World.at_alloc_lt _ _ _ (World.at_lt m2)]; exact m2
  have g3 : W.blk w3.heap.size = some (.cells (ints .u8 sq) 22) := by rw [hW, World.at_alloc_new _ _ _ rfl]
  have HF4 := Lib.hid (show Fr [] w W by rw [hW]; exact HF3.out.alloc _)
  have n1 := World.at_lt m0
  have n2 := World.at_lt m1
  have n3 := World.at_lt m2
  have n4 : w1.heap.size ≠ w.heap.size := fun e => by omega
  have n6 : w1.heap.size ≠ w.heap.size + 1 := by omega
  have n7 : w3.heap.size ≠ w.heap.size := by omega
  have n8 : w3.heap.size ≠ w.heap.size + 1 := by omega
  have n9 : w3.heap.size ≠ w1.heap.size := by omega
  have n5 : w1.heap.size ≠ w3.heap.size := by omega
  clear hW m0 m1 m2 HF1 HF2 HF3
  have sW : Has [(w.heap.size, .cells (ints .u64 a) 28), (w.heap.size + 1, .cells (ints .u64 (zs 5)) 28), (w1.heap.size, .cells (ints .u64 r) 28), (w3.heap.size, .cells (ints .u8 sq) 22)] W :=
    .cons g0 (.cons g1 (.cons g2 (.cons g3 (.nil _))))
  obtain ⟨L, hL⟩ : ∃ L : List (Nat × Obj), L = [(w.heap.size, .cells (ints .u64 a) 28), (w.heap.size + 1, .cells (ints .u64 (zs 5)) 28), (w1.heap.size, .cells (ints .u64 r) 28), (w3.heap.size, .cells (ints .u8 sq) 22)] := ⟨_, rfl⟩
  rw [← hL] at sW
  have HL := Lib.hid hL
  clear hL
  go_cut [16] (fun v wc => v = .bool (decide (sq = bytesF (-x))) ∧ Has L wc ∧ Fr [] W wc)
  case first =>
    refine drawn_begin 5 (Has L) (by kernel_rfl) ?_
    refine drawn_reads (fuel := 3) [0, 1] rfl (by kernel_rfl) sW.drew ?_
    repeat (refine rowK_step2 rfl rfl (fun K hK => ?_); go_wp2)
    refine rowK_nil ⟨fun w' hw' => ?_, ?_⟩
    · rw [HL.out] at hw'
      have e1 := hw'.nth 0 rfl
      have e2 := hw'.nth 3 rfl
      repeat (refine rowWp_step2 rfl rfl (fun K hK => ?_); go_wp2)
      exact rowWp_nil rfl
    refine drawn_next 2 (fuel := 2) rfl (by kernel_rfl) ?_
    intro K hK
    go_wp2_with fail
    refine (neg_f HA.out).mono ?_
    rintro e wa ⟨y, rfl, hy, FA⟩
    have sA := sW.drew.fr0 FA
    simp only []
    go_wp2
    refine ⟨sA, ?_⟩
    refine drawn_next 3 (fuel := 1) rfl (by kernel_rfl) ?_
    intro K hK
    go_wp2_with fail
    refine (bytes_f hy).mono ?_
    rintro e wb ⟨rfl, FB⟩
    have sB := sA.fr0 FB
    have FC : Fr [] W wb := ((Fr.refl [] W).drew.trans FA).trans FB
    have HFC := Lib.hid FC
    have hbl : (bytesF (-x)).length = 32 := by rw [bytesF, bytesL]; simp
    clear FA FB FC
    simp only []
    go_wp2
    refine ⟨sB, ?_⟩
    refine drawn_reads (fuel := 0) [4] rfl (by kernel_rfl) sB ?_
    repeat (refine rowK_step2 rfl rfl (fun K hK => ?_); go_wp2)
    refine rowK_nil ⟨fun w' hw' => ?_, ?_⟩
    · repeat (refine rowWp_step2 rfl rfl (fun K hK => ?_); go_wp2)
      exact rowWp_nil rfl
    refine drawn_end (ol := []) rfl (by kernel_rfl) ?_
    intro K hK
    go_wp2
    go_meet
    case rel => exact ⟨rfl, sB, HFC.out⟩
  case rest =>
    obtain ⟨rfl, sC, FC⟩ := hcut
    have hdec : decide (sq = bytesF (-x)) = decide (pw x pEight * pw x pEight = -x) := by rw [HSQ.out, Bool.eq_iff_iff]; simp only [decide_eq_true_eq, bytesF_inj]
    rw [hdec]
    have HF5 := Lib.hid (HF4.out.trans FC)
    clear hdec FC g0 g1 g2 g3 sW n1 n2
    go_upto_if 16 with (fail)
    go_cut [] (fun wc => ∃ c q, Is c (rCand x) ∧ q = bytesF (rCand x * rCand x) ∧ Has [(w.heap.size, .cells (ints .u64 a) 28), (w.heap.size + 1, .cells (ints .u64 (zs 5)) 28), (w1.heap.size, .cells (ints .u64 c) 28), (w3.heap.size, .cells (ints .u8 q) 22)] wc ∧ Fr [] w wc)
    case first =>
      by_cases hc : pw x pEight * pw x pEight = -x
      · refine wp_cond_true (by rw [decide_eq_true hc]; rfl) ?_
        have HC := Lib.hid (show rCand x = pw x pEight * im from if_pos hc)
        clear hc
        have sC' := sC
        rw [HL.out] at sC'
        have c2 := sC'.nth 2 rfl
        go_wp2
        refine drawn_begin 5 (Has L) (by kernel_rfl) ?_
        refine drawn_reads (fuel := 3) [0, 1, 2] rfl (by kernel_rfl) sC.drew ?_
        repeat (refine rowK_step2 rfl rfl (fun K hK => ?_); go_wp2)
        refine rowK_nil ⟨fun w' hw' => ?_, ?_⟩
        · rw [HL.out] at hw'
          have e1 := hw'.nth 2 rfl
          repeat (refine rowWp_step2 rfl rfl (fun K hK => ?_); go_wp2)
          exact rowWp_nil rfl
        refine drawn_next 3 (fuel := 2) rfl (by kernel_rfl) ?_
        intro K hK
        go_wp2_with fail
        refine (power253 (a := [2, 0, 0, 0, 0]) (x := 2) ⟨⟨rfl, by decide, by decide, by decide, by decide, by decide⟩, by decide⟩).mono ?_
        rintro e wa ⟨y, rfl, hy, FA⟩
        have sA := sC.drew.fr0 FA
        have hyl := hy.len
        simp only []
        go_wp2
        refine ⟨sA, ?_⟩
        refine drawn_next 4 (fuel := 1) rfl (by kernel_rfl) ?_
        intro K hK
        go_wp2_with fail
        refine (mul_f HR.out hy).mono ?_
        rintro e wb ⟨z, rfl, hz, FB⟩
        have sB := sA.fr0 FB
        have hzl := hz.len
        have HZ := Lib.hid hz
        have HFC := Lib.hid (((HF5.out.drew).trans FA).trans FB)
        clear FA FB hy hyl sA hz c2 sC' hsl
        have sB' := sB
        rw [HL.out] at sB'
        have d0 := sB'.nth 0 rfl
        have d1 := sB'.nth 1 rfl
        have d2 := sB'.nth 2 rfl
        have d3 := sB'.nth 3 rfl
        have d2l := World.at_lt d2
        have d3l := World.at_lt d3
        simp only []
        go_wp2
        refine ⟨sB, ?_⟩
        refine drawn_end rfl (by kernel_rfl) ?_
        intro K hK
        go_wp2_with fail
        refine (mul_f HZ.out HZ.out).mono ?_
        rintro e wd ⟨z2, rfl, hz2, FD⟩
        have HZ2 := Lib.hid hz2
        have p0 := FD.get (b := w.heap.size) (o := .cells (ints .u64 a) 28) (by go_simp) (by simp)
        have p1 := FD.get (b := w.heap.size + 1) (o := .cells (ints .u64 (zs 5)) 28) (by go_simp) (by simp)
        have p2 := FD.get (b := w1.heap.size) (o := .cells (ints .u64 z) 28) (by go_simp) (by simp)
        have p3 := FD.get (b := w3.heap.size) (o := .cells (ints .u8 sq) 22) (by go_simp) (by simp)
        have HFD := Lib.hid ((HFC.out.put _ _ (by omega)).trans FD)
        clear FD d0 d1 d2 d3 d2l d3l hz2 sB sB'
        go_wp2_with fail
        refine (bytes_f HZ2.out).mono ?_
        rintro e we ⟨rfl, FE⟩
        have q0 := FE.get p0 (by simp)
        have q1 := FE.get p1 (by simp)
        have q2 := FE.get p2 (by simp)
        have q3 := FE.get p3 (by simp)
        have hlb := length_bytesF (pw x pEight * pw 2 pQuart * (pw x pEight * pw 2 pQuart))
        have HFE := Lib.hid (HFD.out.trans FE)
        have q3l := World.at_lt q3
        have hsl : sq.length = 32 := by rw [HSQ.out]; exact length_bytesF _
        clear FE p0 p1 p2 p3
        go_wp2
        go_meet
        case rel =>
          refine ⟨z, _, ?_, rfl, ?_, HFE.out.put _ _ (by omega)⟩
          · rw [HC.out]; exact HZ.out
          · rw [HC.out]
            refine Has.cons ?_ (Has.cons ?_ (Has.cons ?_ (Has.cons ?_ (Has.nil _))))
            · rw [World.at_put_other _ _ _ _ n7]; exact q0
            · rw [World.at_put_other _ _ _ _ n8]; exact q1
            · rw [World.at_put_other _ _ _ _ n9]; exact q2
            · exact World.at_put_same _ _ _ q3l
      · refine wp_cond_false (by rw [decide_eq_false hc]; rfl) ?_
        have hcand : rCand x = pw x pEight := if_neg hc
        go_wp2
        go_meet
        case rel =>
          refine ⟨r, sq, ?_, ?_, ?_, HF5.out⟩
          · rw [hcand]; exact HR.out
          · rw [hcand]; exact HSQ.out
          · rw [HL.out] at sC; exact sC
    case rest =>
      obtain ⟨c, q, hC, hq, sD, FD⟩ := hcut
      have HC := Lib.hid hC
      have hql : q.length = 32 := by rw [hq]; exact length_bytesF _
      have hcl := hC.len
      have HQ := Lib.hid hq
      have HFD := Lib.hid FD
      clear FD sC hq hC HF5 HF4 HL HR HSQ HS
      obtain ⟨L2, hL2⟩ : ∃ L : List (Nat × Obj), L = [(w.heap.size, .cells (ints .u64 a) 28), (w.heap.size + 1, .cells (ints .u64 (zs 5)) 28), (w1.heap.size, .cells (ints .u64 c) 28), (w3.heap.size, .cells (ints .u8 q) 22)] := ⟨_, rfl⟩
      have sD' := sD
      rw [← hL2] at sD
      have c0 := sD'.nth 0 rfl
      have c3 := sD'.nth 3 rfl
      have HL := Lib.hid hL2
      clear hL2 sD'
      rename_i wc
      go_wp2
      go_cut [29] (fun v wc' => v = .bool (!rootOk x) ∧ Has L2 wc' ∧ Fr [] wc wc')
      case first =>
        refine drawn_begin 4 (Has L2) (by kernel_rfl) ?_
        refine drawn_reads (fuel := 2) [0, 1] rfl (by kernel_rfl) sD.drew ?_
        repeat (refine rowK_step2 rfl rfl (fun K hK => ?_); go_wp2)
        refine rowK_nil ⟨fun w' hw' => ?_, ?_⟩
        · rw [HL.out] at hw'
          have e1 := hw'.nth 0 rfl
          have e2 := hw'.nth 3 rfl
          repeat (refine rowWp_step2 rfl rfl (fun K hK => ?_); go_wp2)
          exact rowWp_nil rfl
        refine drawn_next 2 (fuel := 1) rfl (by kernel_rfl) ?_
        intro K hK
        go_wp2_with fail
        refine (bytes_f HA.out).mono ?_
        rintro e wa ⟨rfl, FA⟩
        have sA := sD.drew.fr0 FA
        have hbl := length_bytesF x
        have HFA := Lib.hid ((Fr.refl [] wc).drew.trans FA)
        clear FA
        simp only []
        go_wp2
        refine ⟨sA, ?_⟩
        refine drawn_reads (fuel := 0) [3] rfl (by kernel_rfl) sA ?_
        repeat (refine rowK_step2 rfl rfl (fun K hK => ?_); go_wp2)
        refine rowK_nil ⟨fun w' hw' => ?_, ?_⟩
        · repeat (refine rowWp_step2 rfl rfl (fun K hK => ?_); go_wp2)
          exact rowWp_nil rfl
        refine drawn_end (ol := []) rfl (by kernel_rfl) ?_
        intro K hK
        go_wp2
        go_meet
        case rel =>
          refine ⟨?_, sA, HFA.out⟩
          rw [HQ.out, rootOk]
          simp only [bytesF_inj]
      case rest =>
        obtain ⟨rfl, sE, FE⟩ := hcut
        have HFE := Lib.hid (HFD.out.trans FE)
        have sE' := sE
        rw [HL.out] at sE'
        have d0 := sE'.nth 0 rfl
        have d1 := sE'.nth 1 rfl
        have d2 := sE'.nth 2 rfl
        have d3 := sE'.nth 3 rfl
        have d1l := World.at_lt d1
        clear FE sE' c0 c3 sE sD HFD
        by_cases hok : rootOk x = true
        · rw [hok]
          go_wp2_with fail
          refine (bytes_f HC.out).mono ?_
          rintro e wd ⟨rfl, FD⟩
          have p1 := FD.get d1 (by simp)
          have p2 := FD.get d2 (by simp)
          have p2l := World.at_lt p2
          have p1l := World.at_lt p1
          have hbl := length_bytesF (rCand x)
          have hb0 := el_bytesF0 (rCand x)
          have hand := u8_and1 ((rCand x).val % 256 : Int) (by omega) (by omega)
          have hodd : ((rCand x).val % 256 : Int) % 2 = if oddF (rCand x) then 1 else 0 := by unfold oddF; split <;> simp_all <;> omega
          have HFX := Lib.hid (HFE.out.trans FD)
          clear FD d0 d1 d2 d3 d1l
          cases ho : oddF (rCand x) with
          | true =>
            rw [ho] at hodd
            simp only [↓reduceIte] at hodd
            go_wp2_with fail
            refine (neg_f HC.out).mono ?_
            rintro e wf ⟨z, rfl, hz, FF⟩
            have q1 := FF.get p1 (by simp)
            have q2 := FF.get p2 (by simp)
            have q1l := World.at_lt q1
            have q2l := World.at_lt q2
            have hzl := hz.len
            have HZ := Lib.hid hz
            have HFF := Lib.hid (HFX.out.trans FF)
            clear FF hz p1 p2 p1l p2l
            go_wp2
            refine ret_cell_tmp rfl rfl rfl ?_
            go_simp
            refine ⟨z, rfl, ?_, (HFF.out.put _ _ (by omega)).put _ _ (by omega)⟩
            rw [rootF_odd hok ho]
            exact HZ.out
          | false =>
            rw [ho] at hodd
            simp only [Bool.false_eq_true, ↓reduceIte] at hodd
            go_wp2
            refine ret_cell_tmp rfl rfl rfl ?_
            go_simp
            refine ⟨c, rfl, ?_, HFX.out.put _ _ (by omega)⟩
            rw [rootF_even hok ho]
            exact HC.out
        · have hok' : rootOk x = false := by simpa using hok
          rw [hok']
          go_wp2
          refine ret_cell_tmp rfl rfl rfl ?_
          go_simp
          refine ⟨zs 5, rfl, ?_, HFE.out.put _ _ (by omega)⟩
          rw [rootF_none hok']
          exact is_zero
end
end Go.Proofs.Ytakhmmnklkckpaa
