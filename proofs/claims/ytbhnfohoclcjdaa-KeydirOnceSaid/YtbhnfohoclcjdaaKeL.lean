/- What is laid on a shelf and claimed from it: the law on lists alone. -/
import Derived.Test.YtbhnfohoclcjdaaKeK
set_option linter.unusedVariables false
set_option linter.unusedSimpArgs false
namespace Go.Proofs.Ytbhnfohoclcjdaa
open Go.RowKit Go.Dr Go.Kd
theorem lastF_append (a b : List Int) : ∀ l, lastF l (a ++ b) = lastF (lastF l a) b := by
  induction a with
  | nil => intro l; rfl
  | cons x a ih => intro l; exact ih x
theorem risesF_append (a b : List Int) : ∀ l, risesF l (a ++ b) = (risesF l a && risesF (lastF l a) b) := by
  induction a with
  | nil => intro l; simp [risesF, lastF]
  | cons x a ih => intro l; rw [List.cons_append, risesF, risesF, lastF, ih, Bool.and_assoc]
theorem risesF_above (S : List Int) : ∀ l, risesF l S = true → ∀ x ∈ S, l < x := by
  induction S with
  | nil => intro l _ x hx; cases hx
  | cons y S ih =>
    intro l h x hx
    simp only [risesF, Bool.and_eq_true, decide_eq_true_eq] at h
    rcases List.mem_cons.1 hx with rfl | hx
    · exact h.1
    · have := ih y h.2 x hx; omega
theorem risesF_step (S : List Int) : ∀ (l : Int) (i : Nat) (x y : Int), risesF l S = true → S[i]? = some x → S[i + 1]? = some y → x < y := by
  induction S with
  | nil => intro l i x y _ hx; simp at hx
  | cons z S ih =>
    intro l i x y h hx hy
    simp only [risesF, Bool.and_eq_true, decide_eq_true_eq] at h
    cases i with
    | zero =>
      simp only [List.getElem?_cons_zero, Option.some.injEq] at hx
      subst hx
      exact risesF_above S z h.2 y (List.mem_of_getElem? (by simpa using hy))
    | succ i => exact ih z i x y h.2 (by simpa using hx) (by simpa using hy)
theorem lastF_mem (S : List Int) : ∀ l, lastF l S = l ∨ lastF l S ∈ S := by
  induction S with
  | nil => intro l; exact .inl rfl
  | cons z S ih =>
    intro l
    rcases ih z with h | h
    · right; rw [lastF, h]; simp
    · right; rw [lastF]; exact List.mem_cons_of_mem _ h
/-- What was taken in, what was claimed, what is left. -/
structure InvK (S C : List Int) (ls : List Bn) (last : Int) : Prop where
  all : S = C ++ ls.map Bn.id
  rise : risesF 0 S = true
  top : last = lastF 0 S
  room : ls.length ≤ 8
  ok : ∀ x ∈ ls, BnOk x
  low : ∀ x ∈ S, x < 65536
theorem InvK.start : InvK [] [] [] 0 := ⟨rfl, rfl, rfl, by simp, by simp, by simp⟩
theorem InvK.last0 {S C : List Int} {ls : List Bn} {last : Int} (h : InvK S C ls last) : 0 ≤ last ∧ last < 65536 := by
  rw [h.top]
  rcases lastF_mem S 0 with e | e
  · omega
  · have h1 := risesF_above S 0 h.rise _ e
    have h2 := h.low _ e
    omega
theorem InvK.stock {S C : List Int} {ls l : List Bn} {b : Bn} {last : Int} {T : List Tm} {dv : Nat} {k1 k2 : List Int} (h : InvK S C ls last) (hE : stockE T dv k1 k2 last ls.length (b :: l) = 0) (hl : ∀ x ∈ l, BnOk x) :
    InvK (S ++ l.map Bn.id) C (ls ++ l) (lastF last (l.map Bn.id)) := by
  by_cases h1 : b.id = 0
  · cases h2 : risesF last (l.map Bn.id) with
    | false => rw [stockE_rise h1 h2] at hE; omega
    | true =>
      cases h3 : (b :: l).all (goodB T dv k1 k2) with
      | false => rw [stockE_good h1 h2 h3] at hE; omega
      | true =>
        by_cases h4 : 8 < l.length + ls.length
        · rw [stockE_full h1 h2 h3 h4] at hE; omega
        · refine ⟨by rw [h.all, List.map_append, List.append_assoc], ?_, by rw [lastF_append, ← h.top], by rw [List.length_append]; omega, fun x hx => ?_, fun x hx => ?_⟩
          · rw [risesF_append, h.rise, ← h.top, h2]; rfl
          · rcases List.mem_append.1 hx with hx | hx
            · exact h.ok x hx
            · exact hl x hx
          · rcases List.mem_append.1 hx with hx | hx
            · exact h.low x hx
            · obtain ⟨y, hy, rfl⟩ := List.mem_map.1 hx
              exact (hl y hy).i1
  · rw [stockE_id h1] at hE; omega
theorem InvK.claim {S C : List Int} {ls : List Bn} {b : Bn} {last : Int} (h : InvK S C (b :: ls) last) : InvK S (C ++ [b.id]) ls last ∧ 0 < b.id := by
  refine ⟨⟨by rw [h.all]; simp, h.rise, h.top, by have := h.room; simp at this; omega, fun x hx => h.ok x (by simp [hx]), h.low⟩, ?_⟩
  exact risesF_above S 0 h.rise _ (by rw [h.all]; simp)
theorem InvK.le {S C : List Int} {ls : List Bn} {last : Int} (h : InvK S C ls last) : S.length = C.length + ls.length := by rw [h.all]; simp
theorem InvK.same {S C : List Int} {ls : List Bn} {last : Int} (h : InvK S C ls last) {i : Nat} {x : Int} (hx : C[i]? = some x) : S[i]? = some x := by
  rw [h.all, List.getElem?_append_left (List.getElem?_eq_some_iff.1 hx).1]
  exact hx
theorem InvK.rises {S C : List Int} {ls : List Bn} {last : Int} (h : InvK S C ls last) {i : Nat} {x y : Int} (hx : C[i]? = some x) (hy : C[i + 1]? = some y) : x < y :=
  risesF_step S 0 i x y h.rise (h.same hx) (h.same hy)
end Go.Proofs.Ytbhnfohoclcjdaa
