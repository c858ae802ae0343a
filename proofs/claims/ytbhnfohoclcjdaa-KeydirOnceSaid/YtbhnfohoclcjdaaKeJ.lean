/- The clone of whatever is left. -/
import Derived.Test.YtbhnfohoclcjdaaKeI
set_option linter.unusedVariables false
set_option linter.unusedSimpArgs false
namespace Go.Proofs.Ytbhnfohoclcjdaa
open Go.RowKit Go.Dr Go.Kd
section
variable {w : World}
/-- A slice of bundles, nil or not. -/
def Lf (w : World) (p : Option Addr) (n cap : Nat) (vs : List Value) : Prop := (p = none ∧ n = 0 ∧ cap = 0 ∧ vs = []) ∨ ∃ a, p = some a ∧ Sv 162 w (some a) n cap vs
theorem Lf.fr {fp : List Nat} {w w' : World} {p : Option Addr} {n cap : Nat} {vs : List Value} (h : Lf w p n cap vs) (F : Fr fp w w') (hn : ∀ b, p.map (·.block) = some b → b ∉ fp) : Lf w' p n cap vs :=
  h.imp id fun ⟨a, h1, h2⟩ => ⟨a, h1, h2.fr F (by rw [← h1]; exact hn)⟩
theorem Lf.fr0 {w w' : World} {p : Option Addr} {n cap : Nat} {vs : List Value} (h : Lf w p n cap vs) (F : Fr [] w w') : Lf w' p n cap vs := h.fr F fun _ _ => by simp
theorem Lf.emp {p : Option Addr} {cap : Nat} (h : Lf w p 0 cap []) : Emp w p cap := h.imp (fun ⟨h1, _, h3, _⟩ => ⟨h1, h3⟩) id
theorem Emp.lf {p : Option Addr} {cap : Nat} (h : Emp w p cap) : Lf w p 0 cap [] := h.imp (fun ⟨h1, h3⟩ => ⟨h1, rfl, h3, rfl⟩) id
theorem bclone_any {p : Option Addr} {n cap : Nat} {vs : List Value} (h : Lf w p n cap vs) (h1 : ∀ u ∈ vs, u.oneCell' = true) (hn : n ≤ 100000) :
    Calls Try.prog 32 #[.slice p n cap] w fun e w' => ∃ q c, e = .returned (.slice q n c) ∧ BldV w [] 59 162 w' q n c vs := by
  rcases h with ⟨rfl, rfl, rfl, rfl⟩ | ⟨a, rfl, S⟩
  · exact bclone_nil.mono fun e w' ⟨h1, h2⟩ => ⟨none, 0, h1, BldV.nil ((OwB.start w).call h2)⟩
  · exact bclone_f S h1 hn
theorem BldV.lf {w0 w : World} {L : List (Nat × Obj)} {q : Option Addr} {n c : Nat} {vs : List Value} (B : BldV w0 L 59 162 w q n c vs) : Lf w q n c vs := by
  cases q with
  | none =>
    have h1 := B.len
    rcases B.row.2 with hh | ⟨b, cp, cs, hh, _⟩
    · obtain ⟨h2, h3⟩ := hh
      simp only [Value.slice.injEq] at h2
      obtain ⟨-, h4, h5⟩ := h2
      subst h4
      exact .inl ⟨rfl, rfl, h5, List.eq_nil_of_length_eq_zero (by omega)⟩
    · cases hh
  | some g => exact .inr ⟨g, rfl, B.sv⟩
end
end Go.Proofs.Ytbhnfohoclcjdaa
