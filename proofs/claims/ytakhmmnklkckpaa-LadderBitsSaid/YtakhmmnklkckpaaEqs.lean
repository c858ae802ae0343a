/- '==' of two arrays of whole numbers. -/
import Derived.Test.YtakhmmnklkckpaaFdA
import Derived.ChangeKeysEq
namespace Go
theorem run_eqItems_ints {P : Program} {e : TypeId} (d : Nat) (k ke : IntKind) (hue : P.underlying e = some (.int ke)) (h1 : ∀ w, (isAgg e).run P w = .ok false w) (a b : List Int) (hab : a.length = b.length) (w : World) :
    ∀ (is : List Nat), (∀ i ∈ is, i < a.length) → (Op.eqItems (d + 1) e 1 (ints k a) (ints k b) is).run P w = .ok (is.all fun i => el a i == el b i) w
  | [], _ => by simp [Op.eqItems]
  | i :: is, h => by
    have hi := h i (by simp)
    have ih := run_eqItems_ints d k ke hue h1 a b hab w is (fun j hj => h j (by simp [hj]))
    have pa : (part e (ints k a) (i * 1)).run P w = .ok (.int k (el a i)) w := by
      simp only [part, Sem.run_bind, h1, Result.andThen_ok, Bool.false_eq_true, ↓reduceIte, Nat.mul_one, getElem?_ints k a i hi, Sem.run_pure]
    have pb : (part e (ints k b) (i * 1)).run P w = .ok (.int k (el b i)) w := by
      simp only [part, Sem.run_bind, h1, Result.andThen_ok, Bool.false_eq_true, ↓reduceIte, Nat.mul_one, getElem?_ints k b i (by omega), Sem.run_pure]
    simp only [Op.eqItems, Sem.run_bind, pa, pb, Result.andThen_ok, run_equalIn_int w d e k ke (el a i) (el b i) hue, List.all_cons]
    cases hq : (el a i == el b i)
    · simp
    · simp only [Bool.not_true, Bool.false_eq_true, ↓reduceIte, ih, Bool.true_and]
theorem run_eq_ints {P : Program} {t e n : Nat} {i : TypeInfo} (d : Nat) (k ke : IntKind) (hu : P.underlying t = some (.array n e)) (hi : P.info? e = some i) (hc : P.cellsOf e = 1) (hue : P.underlying e = some (.int ke))
    (h1 : ∀ w, (isAgg e).run P w = .ok false w) (a b : List Int) (ha : a.length = n) (hb : b.length = n) (w : World) :
    (Op.equalIn (d + 2) t (.agg (ints k a)) (.agg (ints k b))).run P w = .ok (decide (a = b)) w := by
  rw [run_equalIn_array w (d + 1) _ _ hu hi, hc, run_eqItems_ints d k ke hue h1 a b (by omega) w _ (fun i hi => by rw [List.mem_range] at hi; omega)]
  congr 1
  rw [Bool.eq_iff_iff]
  simp only [List.all_eq_true, List.mem_range, beq_iff_eq, decide_eq_true_eq]
  constructor
  · intro h
    exact el_ext (by omega) (fun k hk => h k (by omega))
  · intro h j _
    rw [h]
end Go
namespace Go.Proofs.Ytakhmmnklkckpaa
open Go.RowKit Go.Dr
theorem exInfo5 : ∃ i, Try.prog.info? 5 = some i := info_of_underlying Try.underlying5
theorem exInfo3 : ∃ i, Try.prog.info? 3 = some i := info_of_underlying Try.underlying3
@[go_sem] theorem eq22 (a b : List Int) (ha : a.length = 32) (hb : b.length = 32) (w : World) : (Op.equalIn 10000 22 (.agg (ints .u8 a)) (.agg (ints .u8 b))).run Try.prog w = .ok (decide (a = b)) w :=
  let ⟨_, hi⟩ := exInfo5
  run_eq_ints 9998 .u8 .u8 Try.underlying22 hi (by kernel_rfl) Try.underlying5 (fun w => by kernel_rfl) a b ha hb w
@[go_sem] theorem eq32 (a b : List Int) (ha : a.length = 16) (hb : b.length = 16) (w : World) : (Op.equalIn 10000 32 (.agg (ints .i64 a)) (.agg (ints .i64 b))).run Try.prog w = .ok (decide (a = b)) w :=
  let ⟨_, hi⟩ := exInfo3
  run_eq_ints 9998 .i64 .i64 Try.underlying32 hi (by kernel_rfl) Try.underlying3 (fun w => by kernel_rfl) a b ha hb w
theorem beq_dec (a b : List Int) : (a == b) = decide (a = b) := by rw [Bool.eq_iff_iff, beq_iff_eq, decide_eq_true_eq]
/-- The numbers of a written-out row. -/
def litsOf : List Value → List Int
  | [] => []
  | .int _ x :: r => x :: litsOf r
  | _ :: r => 0 :: litsOf r
@[go_sem] theorem litsOf_nil : litsOf [] = [] := rfl
@[go_sem] theorem litsOf_cons (k : IntKind) (x : Int) (r : List Value) : litsOf (.int k x :: r) = x :: litsOf r := rfl
@[go_sem] theorem eq22_lit (a : List Int) (L : List Value) (hL : L = (litsOf L).map (Value.int .u8)) (ha : a.length = 32) (hl : L.length = 32) (w : World) :
    (Op.equalIn 10000 22 (.agg (ints .u8 a)) (.agg L.toArray)).run Try.prog w = .ok (a == litsOf L) w := by
  have h : L.toArray = ints .u8 (litsOf L) := by
    conv => lhs; rw [hL]
    rfl
  rw [h, eq22 a _ ha (by rw [hL] at hl; simpa using hl), beq_dec]
@[go_sem] theorem eq32_lit (a : List Int) (L : List Value) (hL : L = (litsOf L).map (Value.int .i64)) (ha : a.length = 16) (hl : L.length = 16) (w : World) :
    (Op.equalIn 10000 32 (.agg (ints .i64 a)) (.agg L.toArray)).run Try.prog w = .ok (a == litsOf L) w := by
  have h : L.toArray = ints .i64 (litsOf L) := by
    conv => lhs; rw [hL]
    rfl
  rw [h, eq32 a _ ha (by rw [hL] at hl; simpa using hl), beq_dec]
end Go.Proofs.Ytakhmmnklkckpaa
