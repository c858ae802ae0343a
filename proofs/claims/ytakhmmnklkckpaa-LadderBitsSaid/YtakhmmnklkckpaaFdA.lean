/- The package field: carry, Add, Sub, Neg. -/
import Derived.Test.YtakhmmnklkckpaaMem
import Derived.Test.YtakhmmnklkckpaaDrawn
import Derived.Test.YtakhmmnklkckpaaChecked
import Derived.Deep.DeepCutAuto
namespace Go
section
variable {P : Program} {fn : Func} {R : Ending → World → Prop} {a : Act} {w : World}
/-- Is the type a struct or an array of so many cells? -/
def aggB (P : Program) (ty : TypeId) (n : Nat) : Bool :=
  (match P.underlying ty with | some (.struct _) => true | some (.array _ _) => true | _ => false) && (P.info? ty).map (·.size) == some n
theorem run_loadVar_agg {ty b : Nat} {cs : Array Value} {T : TypeId} {fr : Nat × Nat} (hb : w.blk b = some (.cells cs T fr)) (h : aggB P ty cs.size = true) :
    (loadVar ty ⟨b, 0, none⟩).run P w = .ok (.agg cs) w := by
  unfold aggB at h
  rw [Bool.and_eq_true] at h
  obtain ⟨h1, h2⟩ := h
  cases hu : P.underlying ty with
  | none => rw [hu] at h1; cases h1
  | some d =>
    rw [hu] at h1
    exact run_loadVar_row w b T ty cs fr d hb hu (by cases d <;> first | rfl | cases h1) (by simpa using h2)
/-- What lies there, as the call's result. -/
def cellRet (P : Program) (ty : TypeId) (o : Option Obj) (K : Value → Prop) : Prop :=
  match o with
  | some (.cells cs _ _) => aggB P ty cs.size = true ∧ K (.agg cs)
  | _ => False
theorem ret_cell {p ty b : Nat} (h : fn.results = #[.cell p ty]) (hp : a.tmps.getD p undef = .pointer (some ⟨b, 0, none⟩)) (hd : a.defers = [])
    (hR : cellRet P ty (w.blk b) (fun v => R (.returned v) w)) : bodyPost P fn R .ret a w := by
  unfold cellRet at hR
  split at hR
  · rename_i cs T fr hb
    refine bodyPost_ret (v := .agg cs) ?_ hd hR.2
    have hp' : a.tmps[p]?.getD undef = .pointer (some ⟨b, 0, none⟩) := by simpa using hp
    simp [results, h, hp', asAddr, run_loadVar_agg hb hR.1]
  · exact hR.elim
theorem ret_cell_tmp {p ty b u : Nat} (h : fn.results = #[.cell p ty, .tmp u]) (hp : a.tmps.getD p undef = .pointer (some ⟨b, 0, none⟩)) (hd : a.defers = [])
    (hR : cellRet P ty (w.blk b) (fun v => R (.returned (.tuple #[v, a.tmps.getD u undef])) w)) : bodyPost P fn R .ret a w := by
  unfold cellRet at hR
  split at hR
  · rename_i cs T fr hb
    refine bodyPost_ret (v := .tuple #[.agg cs, a.tmps.getD u undef]) ?_ hd hR.2
    have hp' : a.tmps[p]?.getD undef = .pointer (some ⟨b, 0, none⟩) := by simpa using hp
    simp [results, h, hp', asAddr, run_loadVar_agg hb hR.1]
  · exact hR.elim
end
attribute [go_sem] cellRet
theorem run_index_ints {P : Program} {t e n : Nat} (ht : P.underlying t = some (.array n e)) (h1 : ∀ w, (isAgg e).run P w = .ok false w) (h2 : ∀ w, (sizeOf e).run P w = .ok 1 w)
    (w : World) (k : IntKind) (l : List Int) (ki : IntKind) (i : Int) (h0 : 0 ≤ i) (hi : i < n) (hl : l.length = n) :
    (Instr.index t (.agg (ints k l)) (.int ki i)).run P w = .ok (.int k (el l i.toNat)) w := by
  have hh : 0 ≤ i ∧ i < (n : Int) := ⟨h0, hi⟩
  have hb : (ints k l)[i.toNat]? = some (.int k (el l i.toNat)) := getElem?_ints k l _ (by omega)
  simp [Instr.index, run_underlying ht, asIntOf, hh, part, h1, h2, hb, go_sem]
end Go
namespace Go.Proofs.Ytakhmmnklkckpaa
open Go.RowKit Go.Dr

@[go_sem] theorem agg28 : aggB Try.prog 28 5 = true := by kernel_rfl
@[go_sem] theorem agg22 : aggB Try.prog 22 32 = true := by kernel_rfl
@[go_sem] theorem agg80 : aggB Try.prog 80 2 = true := by kernel_rfl
@[go_sem] theorem zero26 (w : World) : (zeroValue 26).run Try.prog w = .ok (.agg (ints .u64 (zs 5))) w := by kernel_rfl
@[go_sem] theorem zero28 (w : World) : (zeroValue 28).run Try.prog w = .ok (.agg (ints .u64 (zs 5))) w := by kernel_rfl
@[go_sem] theorem zero22 (w : World) : (zeroValue 22).run Try.prog w = .ok (.agg (ints .u8 (zs 32))) w := by kernel_rfl
@[go_sem] theorem zero75 (w : World) : (zeroValue 75).run Try.prog w = .ok (.agg (ints .u64 (zs 4))) w := by kernel_rfl
@[go_sem] theorem zero80 (w : World) : (zeroValue 80).run Try.prog w = .ok (.agg (ints .u64 (zs 2))) w := by kernel_rfl
@[go_sem] theorem zero81 (w : World) : (zeroValue 81).run Try.prog w = .ok (.agg (ints .u64 (zs 10))) w := by kernel_rfl

@[go_sem] theorem ix22 (w : World) (l : List Int) (ki : IntKind) (i : Int) (h0 : 0 ≤ i) (hi : i < 32) (hl : l.length = 32) :
    (Instr.index 22 (.agg (ints .u8 l)) (.int ki i)).run Try.prog w = .ok (.int .u8 (el l i.toNat)) w :=
  run_index_ints Try.underlying22 (fun w => by kernel_rfl) (fun w => by kernel_rfl) w _ l ki i h0 hi hl
@[go_sem] theorem ix26 (w : World) (l : List Int) (ki : IntKind) (i : Int) (h0 : 0 ≤ i) (hi : i < 5) (hl : l.length = 5) :
    (Instr.index 26 (.agg (ints .u64 l)) (.int ki i)).run Try.prog w = .ok (.int .u64 (el l i.toNat)) w :=
  run_index_ints Try.underlying26 (fun w => by kernel_rfl) (fun w => by kernel_rfl) w _ l ki i h0 hi hl
/-- A number of the code. -/
@[go_sem] def fe (l : List Int) : Value := .agg (ints .u64 l)
/-- Five limbs, each below a bound. -/
structure Lim (B : Int) (l : List Int) : Prop where
  len : l.length = 5
  b0 : 0 ≤ el l 0 ∧ el l 0 < B
  b1 : 0 ≤ el l 1 ∧ el l 1 < B
  b2 : 0 ≤ el l 2 ∧ el l 2 < B
  b3 : 0 ≤ el l 3 ∧ el l 3 < B
  b4 : 0 ≤ el l 4 ∧ el l 4 < B
theorem Lim.at_ {B : Int} {l : List Int} (h : Lim B l) (k : Nat) (hk : k < 5) : 0 ≤ el l k ∧ el l k < B := by
  obtain ⟨_, h0, h1, h2, h3, h4⟩ := h
  match k, hk with
  | 0, _ => exact h0
  | 1, _ => exact h1
  | 2, _ => exact h2
  | 3, _ => exact h3
  | 4, _ => exact h4
theorem Lim.mk' {B : Int} {l : List Int} (hl : l.length = 5) (h : ∀ k, k < 5 → 0 ≤ el l k ∧ el l k < B) : Lim B l :=
  ⟨hl, h 0 (by omega), h 1 (by omega), h 2 (by omega), h 3 (by omega), h 4 (by omega)⟩
theorem Lim.mono {B C : Int} {l : List Int} (h : Lim B l) (hBC : B ≤ C) : Lim C l :=
  Lim.mk' h.len fun k hk => ⟨(h.at_ k hk).1, Int.lt_of_lt_of_le (h.at_ k hk).2 hBC⟩
theorem wrap64 (x : Int) (h0 : 0 ≤ x) (h1 : x < 18446744073709551616) : IntKind.u64.wrap x = x := by
  simp only [IntKind.wrap, IntKind.bits, IntKind.signed, Bool.false_and, Bool.false_eq_true, ↓reduceIte, Int.reducePow]
  omega
theorem wrapI (x : Int) (h0 : -9223372036854775808 ≤ x) (h1 : x < 9223372036854775808) : IntKind.i64.wrap x = x := by rw [IntKind.wrap_i64]; omega
theorem and51 (z : Int) (h0 : 0 ≤ z) (h1 : z < 18446744073709551616) : bits .and .u64 z 2251799813685247 = z % 2251799813685248 := by go_bits2
/-- What the limbs say. -/
def val (l : List Int) : Int := el l 0 + 2251799813685248 * el l 1 + 5070602400912917605986812821504 * el l 2 + 11417981541647679048466287755595961091061972992 * el l 3 + 25711008708143844408671393477458601640355247900524685364822016 * el l 4
def carryL (l : List Int) : List Int :=
  [el l 0 % 2251799813685248 + el l 4 / 2251799813685248 * 19, el l 1 % 2251799813685248 + el l 0 / 2251799813685248, el l 2 % 2251799813685248 + el l 1 / 2251799813685248,
   el l 3 % 2251799813685248 + el l 2 / 2251799813685248, el l 4 % 2251799813685248 + el l 3 / 2251799813685248]
theorem val_carryL (l : List Int) : val l = val (carryL l) + 57896044618658097711785492504343953926634992332820282019728792003956564819949 * (el l 4 / 2251799813685248) := by
  unfold val carryL
  simp only [el_zero, el_succ]
  omega
def addL (a b : List Int) : List Int := (List.range 5).map fun i => el a i + el b i
def fourP : List Int := [9007199254740916, 9007199254740988, 9007199254740988, 9007199254740988, 9007199254740988]
def subL (a b : List Int) : List Int := (List.range 5).map fun i => el fourP i + (el a i - el b i)
theorem wrap64_add (x y : Int) (h0 : 0 ≤ x + y) (h1 : x + y < 18446744073709551616) : IntKind.u64.wrap (x + IntKind.u64.wrap y) = x + y := by
  simp only [IntKind.wrap, IntKind.bits, IntKind.signed, Bool.false_and, Bool.false_eq_true, ↓reduceIte, Int.reducePow]
  omega
theorem fourP_at (k : Nat) (h : k < 5) : 9007199254740916 ≤ el fourP k ∧ el fourP k ≤ 9007199254740988 := by
  match k, h with
  | 0, _ | 1, _ | 2, _ | 3, _ | 4, _ => decide
section
variable {w : World}
theorem carry_walk (l : List Int) (h : Lim 18446744073709551616 l) :
    Calls Try.prog 67 #[fe l] w fun e w' => e = .returned (fe (carryL l)) ∧ Fr [] w w' := by
  obtain ⟨hl, h0, h1, h2, h3, h4⟩ := h
  have e0 := and51 _ h0.1 h0.2
  have e1 := and51 _ h1.1 h1.2
  have e2 := and51 _ h2.1 h2.2
  have e3 := and51 _ h3.1 h3.2
  have e4 := and51 _ h4.1 h4.2
  have g0 : IntKind.u64.wrap (el l 4 / 2251799813685248 * 19) = el l 4 / 2251799813685248 * 19 := wrap64 _ (by omega) (by omega)
  have g1 : IntKind.u64.wrap (el l 0 % 2251799813685248 + el l 4 / 2251799813685248 * 19) = el l 0 % 2251799813685248 + el l 4 / 2251799813685248 * 19 := wrap64 _ (by omega) (by omega)
  have g2 : IntKind.u64.wrap (el l 1 % 2251799813685248 + el l 0 / 2251799813685248) = el l 1 % 2251799813685248 + el l 0 / 2251799813685248 := wrap64 _ (by omega) (by omega)
  have g3 : IntKind.u64.wrap (el l 2 % 2251799813685248 + el l 1 / 2251799813685248) = el l 2 % 2251799813685248 + el l 1 / 2251799813685248 := wrap64 _ (by omega) (by omega)
  have g4 : IntKind.u64.wrap (el l 3 % 2251799813685248 + el l 2 / 2251799813685248) = el l 3 % 2251799813685248 + el l 2 / 2251799813685248 := wrap64 _ (by omega) (by omega)
  have g5 : IntKind.u64.wrap (el l 4 % 2251799813685248 + el l 3 / 2251799813685248) = el l 4 % 2251799813685248 + el l 3 / 2251799813685248 := wrap64 _ (by omega) (by omega)
  clear h0 h1 h2 h3 h4
  unfold fe
  go_enter Try.func67, Try.ntmps67
  go_wp2
  refine ret_cell rfl rfl rfl ?_
  go_simp
  exact ⟨rfl, ((((Fr.refl _ _).alloc _).alloc _).alloc _)⟩
theorem carry_any (l : List Int) (h : Lim 18446744073709551616 l) :
    Calls Try.prog 67 #[fe l] w fun e w' => ∃ c, e = .returned (fe c) ∧ c.length = 5 ∧ Hid (c = carryL l) ∧ Fr [] w w' :=
  (carry_walk l h).mono fun _ _ ⟨h1, h2⟩ => ⟨_, h1, rfl, Lib.hid rfl, h2⟩
theorem add_walk (a b : List Int) (ha : Lim 4503599627370496 a) (hb : Lim 4503599627370496 b) :
    Calls Try.prog 30 #[fe a, fe b] w fun e w' => ∃ c, e = .returned (fe c) ∧ c.length = 5 ∧ Hid (c = carryL (addL a b)) ∧ Fr [] w w' := by
  have hla := ha.len
  have hlb := hb.len
  have HA := Lib.hid ha
  have HB := Lib.hid hb
  clear ha hb
  unfold fe
  go_enter Try.func30, Try.ntmps30
  go_wp2
  go_loopw [7] (fun i wr => ∃ k : Nat, k ≤ 5 ∧ i = .int .i64 k ∧ Fr [w.heap.size + 3] ((((w.alloc (.cells (ints .u64 a) 28)).alloc (.cells (ints .u64 b) 28)).alloc (.cells (ints .u64 (zs 5)) 28)).alloc (.cells (ints .u64 (zs 5)) 28)) wr ∧
    wr.blk (w.heap.size + 3) = some (.cells (ints .u64 (upd (fun i => el a i + el b i) (zs 5) k)) 28 (0, 0))) (fun i _ => 5 - (intOf i).toNat)
  case atStart => exact ⟨0, by omega, rfl, Fr.refl _ _, by go_simp; rw [upd_zero]; rfl⟩
  case round =>
    obtain ⟨k, hk, rfl, FR, hc⟩ := hrel
    have h0 := FR.get (b := w.heap.size) (o := .cells (ints .u64 a) 28) (by go_simp) (by simp)
    have h1 := FR.get (b := w.heap.size + 1) (o := .cells (ints .u64 b) 28) (by go_simp) (by simp)
    have hz := FR.size
    simp only [World.size_alloc] at hz
    have h0l := World.at_lt h0
    have h1l := World.at_lt h1
    have hcl := World.at_lt hc
    have HF := Lib.hid FR
    clear FR
    have hlu := length_upd (fun i => el a i + el b i) (zs 5) k (by rw [length_zs]; exact hk)
    rw [length_zs] at hlu
    by_cases hlt : k < 5
    · have hk1 := HA.out.at_ k hlt
      have hk2 := HB.out.at_ k hlt
      have hw := wrap64 (el a k + el b k) (by omega) (by omega)
      have hset : (upd (fun i => el a i + el b i) (zs 5) k).set k (el a k + el b k) = upd (fun i => el a i + el b i) (zs 5) (k + 1) := set_upd (fun i => el a i + el b i) (zs 5) k (by rw [length_zs]; exact hlt)
      clear hk1 hk2
      go_wp2
      refine drawn_head 12 (by kernel_rfl) rfl rfl (by kernel_rfl) ?_
      change rowK _ _ _ [0,1,2,3,4,5,6,7,8,9,10,11] _ _
      repeat (refine rowK_step rfl (fun K hK => ?_); go_simp; refine hK _ ?_; clear hK K)
      refine rowK_nil ?_
      intro K hK
      go_wp2
      go_roundw
      case rel =>
        refine ⟨k + 1, by omega, by go_num, ?_, by rw [World.at_drew]; exact World.at_put_same _ _ _ hcl⟩
        refine Fr.drew (Fr.put HF.out _ _ ?_)
        simp
      case measure => simp [intOf]; omega
    · obtain rfl : k = 5 := by omega
      have hfull : upd (fun i => el a i + el b i) (zs 5) 5 = addL a b := upd_full _ _ _ (length_zs 5)
      rw [hfull] at hc hlu
      have h2 := HF.out.get (b := w.heap.size + 2) (o := .cells (ints .u64 (zs 5)) 28) (by go_simp) (by simp)
      have FA : Fr [] w wr := (((((Fr.refl [] w).alloc _).alloc _).alloc _).alloc _).seq HF.out (by simp)
      have HFA := Lib.hid FA
      have hs := HFA.out.size
      have hlim : Lim 18446744073709551616 (addL a b) := by
        refine Lim.mk' hlu fun k hk => ?_
        rw [addL, el_map_range _ _ _ hk]
        have hk1 := HA.out.at_ k hk
        have hk2 := HB.out.at_ k hk
        omega
      clear FA HF h0 h1 hfull
      go_wp2_with fail
      refine (carry_any (addL a b) hlim).mono ?_
      rintro e w1 ⟨c, rfl, hcl, HC, F1⟩
      have h3 := F1.get h2 (by simp)
      have FB := HFA.out.trans F1
      have h3l := World.at_lt h3
      have HFB := Lib.hid FB
      clear F1 FB HFA hc h2 hlim
      go_wp2
      refine ret_cell rfl rfl rfl ?_
      go_simp
      exact ⟨_, rfl, hcl, HC, HFB.out.put _ _ (by omega)⟩
theorem sub_walk (a b : List Int) (ha : Lim 4503599627370496 a) (hb : Lim 4503599627370496 b) :
    Calls Try.prog 32 #[fe a, fe b] w fun e w' => ∃ c, e = .returned (fe c) ∧ c.length = 5 ∧ Hid (c = carryL (subL a b)) ∧ Fr [] w w' := by
  have hla := ha.len
  have hlb := hb.len
  have HA := Lib.hid ha
  have HB := Lib.hid hb
  clear ha hb
  unfold fe
  go_enter Try.func32, Try.ntmps32
  go_wp2
  go_loopw [9] (fun i wr => ∃ k : Nat, k ≤ 5 ∧ i = .int .i64 k ∧ Fr [w.heap.size + 3] ((((w.alloc (.cells (ints .u64 a) 28)).alloc (.cells (ints .u64 b) 28)).alloc (.cells (ints .u64 (zs 5)) 28)).alloc (.cells (ints .u64 fourP) 28)) wr ∧
    wr.blk (w.heap.size + 3) = some (.cells (ints .u64 (upd (fun i => el fourP i + (el a i - el b i)) fourP k)) 28 (0, 0))) (fun i _ => 5 - (intOf i).toNat)
  case atStart => exact ⟨0, by omega, rfl, Fr.refl _ _, by go_simp; rw [upd_zero]; rfl⟩
  case round =>
    obtain ⟨k, hk, rfl, FR, hc⟩ := hrel
    have h0 := FR.get (b := w.heap.size) (o := .cells (ints .u64 a) 28) (by go_simp) (by simp)
    have h1 := FR.get (b := w.heap.size + 1) (o := .cells (ints .u64 b) 28) (by go_simp) (by simp)
    have hz := FR.size
    simp only [World.size_alloc] at hz
    have h0l := World.at_lt h0
    have h1l := World.at_lt h1
    have hcl := World.at_lt hc
    have HF := Lib.hid FR
    clear FR
    have hlu := length_upd (fun i => el fourP i + (el a i - el b i)) fourP k hk
    replace hlu : (upd (fun i => el fourP i + (el a i - el b i)) fourP k).length = 5 := hlu
    by_cases hlt : k < 5
    · have hk1 := HA.out.at_ k hlt
      have hk2 := HB.out.at_ k hlt
      have hk3 := fourP_at k hlt
      have hw := wrap64_add (el fourP k) (el a k - el b k) (by omega) (by omega)
      have hel : el (upd (fun i => el fourP i + (el a i - el b i)) fourP k) k = el fourP k := by rw [el_upd, if_neg (by omega)]
      have hset : (upd (fun i => el fourP i + (el a i - el b i)) fourP k).set k (el fourP k + (el a k - el b k)) = upd (fun i => el fourP i + (el a i - el b i)) fourP (k + 1) := set_upd (fun i => el fourP i + (el a i - el b i)) fourP k hlt
      clear hk1 hk2 hk3
      go_wp2
      refine drawn_head 16 (by kernel_rfl) rfl rfl (by kernel_rfl) ?_
      change rowK _ _ _ [0,1,2,3,4,5,6,7,8,9,10,11,12,13,14,15] _ _
      repeat (refine rowK_step rfl (fun K hK => ?_); go_simp; refine hK _ ?_; clear hK K)
      refine rowK_nil ?_
      intro K hK
      go_wp2
      go_roundw
      case rel =>
        refine ⟨k + 1, by omega, by go_num, ?_, by rw [World.at_drew]; exact World.at_put_same _ _ _ hcl⟩
        refine Fr.drew (Fr.put HF.out _ _ ?_)
        simp
      case measure => simp [intOf]; omega
    · obtain rfl : k = 5 := by omega
      have hfull : upd (fun i => el fourP i + (el a i - el b i)) fourP 5 = subL a b := upd_full _ _ _ rfl
      rw [hfull] at hc hlu
      have h2 := HF.out.get (b := w.heap.size + 2) (o := .cells (ints .u64 (zs 5)) 28) (by go_simp) (by simp)
      have FA : Fr [] w wr := (((((Fr.refl [] w).alloc _).alloc _).alloc _).alloc _).seq HF.out (by simp)
      have HFA := Lib.hid FA
      have hs := HFA.out.size
      have hlim : Lim 18446744073709551616 (subL a b) := by
        refine Lim.mk' hlu fun k hk => ?_
        rw [subL, el_map_range _ _ _ hk]
        have hk1 := HA.out.at_ k hk
        have hk2 := HB.out.at_ k hk
        have hk3 := fourP_at k hk
        omega
      clear FA HF h0 h1 hfull
      go_wp2_with fail
      refine (carry_any (subL a b) hlim).mono ?_
      rintro e w1 ⟨c, rfl, hcl, HC, F1⟩
      have h3 := F1.get h2 (by simp)
      have FB := HFA.out.trans F1
      have h3l := World.at_lt h3
      have HFB := Lib.hid FB
      clear F1 FB HFA hc h2 hlim
      go_wp2
      refine ret_cell rfl rfl rfl ?_
      go_simp
      exact ⟨_, rfl, hcl, HC, HFB.out.put _ _ (by omega)⟩
theorem neg_walk (a : List Int) (ha : Lim 4503599627370496 a) :
    Calls Try.prog 34 #[fe a] w fun e w' => ∃ c, e = .returned (fe c) ∧ c.length = 5 ∧ Hid (c = carryL (subL (zs 5) a)) ∧ Fr [] w w' := by
  have hla := ha.len
  have HA := Lib.hid ha
  clear ha
  go_enter Try.func34, Try.ntmps34
  go_wp2_with fail
  refine (sub_walk (zs 5) a ⟨rfl, by decide, by decide, by decide, by decide, by decide⟩ HA.out).mono ?_
  rintro e w1 ⟨c, rfl, hcl, HC, F1⟩
  have h3 := F1.get (b := w.heap.size + 1) (o := .cells (ints .u64 (zs 5)) 28) (by go_simp; rfl) (by simp)
  have h3l := World.at_lt h3
  have FB : Fr [] w w1 := (((Fr.refl [] w).alloc _).alloc _).trans F1
  have HFB := Lib.hid FB
  clear F1 FB
  go_wp2
  refine ret_cell rfl rfl rfl ?_
  go_simp
  exact ⟨_, rfl, hcl, HC, HFB.out.put _ _ (by omega)⟩
end
end Go.Proofs.Ytakhmmnklkckpaa
