/- keydir.Claim as one contract; numbers of a row of the call's own. -/
import Derived.Test.YtbhnfohoclcjdaaKeN
set_option linter.unusedVariables false
set_option linter.unusedSimpArgs false
namespace Go.Proofs.Ytbhnfohoclcjdaa
open Go.RowKit Go.Dr Go.Kd
section
variable {w0 w w' : World} {L : List (Nat × Obj)} {p : Option Addr} {n c : Nat} {vs : List Value}
theorem Sv.lf (S : Sv 162 w p n c vs) : Lf w p n c vs := by
  cases p with
  | some a => exact .inr ⟨a, rfl, S⟩
  | none =>
    have h1 := S.nil rfl
    have h2 := S.cap_
    have h3 := S.len
    have h4 : n = 0 := by omega
    subst h4
    exact .inl ⟨rfl, rfl, h1, List.eq_nil_of_length_eq_zero (by omega)⟩
theorem Emp.kept (h : Emp w p c) : Kept p 0 c [] [] := ⟨by simp, fun w' _ => Lf.zero h.lf w'⟩
theorem Kept.sv {M : List (Nat × Obj)} (h : Kept p (n + 1) c vs M) (hM : Has M w) : ∃ a, p = some a ∧ Sv 162 w (some a) (n + 1) c vs := by
  rcases h.2 w hM with ⟨_, h1, _⟩ | h1
  · omega
  · exact h1
theorem claim_k {last : Int} {fall : List Value} {hs : Bool} {ls : List Bn} {M : List (Nat × Obj)} (hO : OwB w0 L w) (K : Kept p n c (bnsL ls) M) (hM : Has M w) (ok : ∀ x ∈ ls, BnOk x) (ml : ls.length = n) (hn : n ≤ 8)
    (hf : fall.length = 162) (hfo : ∀ v ∈ fall, v.oneCell' = true) (f0 : hs = true → fall[65]? = some (.int .u16 0)) :
    Calls Try.prog 18 #[.agg (cShelf (.bool hs) fall (.slice p n c) (.int .u16 last)).toArray] w fun e w' => ∃ q m' c' u okb id ls' M', e = .returned (.tuple #[.agg (cShelf (.bool hs) fall (.slice q m' c') (.int .u16 last)).toArray, .agg u, .bool okb]) ∧
      ls'.length = m' ∧ u.size = 162 ∧ ones u.toList = true ∧ u[65]? = some (.int .u16 id) ∧ OwB w0 (M' ++ L) w' ∧ Kept q m' c' (bnsL ls') M' ∧ Fr [] w w' ∧ ((∃ b, ls = b :: ls' ∧ okb = true ∧ id = b.id) ∨ (ls = [] ∧ ls' = [] ∧ okb = hs ∧ id = 0)) := by
  cases ls with
  | nil =>
    simp only [List.length_nil] at ml
    subst ml
    have hE : Emp w p c := (K.2 w hM).emp
    refine (claim_none hf hfo rfl hE).mono ?_
    rintro e w' ⟨q, c', u, rfl, h1, h2, h3, F⟩
    refine ⟨q, 0, c', u, hs, 0, [], [], rfl, rfl, ?_, ?_, ?_, hO.call F, h3.kept, F, .inr ⟨rfl, rfl, rfl, rfl⟩⟩
    · cases hs with
      | true => rw [h1 rfl, List.size_toArray, hf]
      | false => rw [h2 rfl]; kernel_rfl
    · cases hs with
      | true => rw [h1 rfl]; exact List.all_eq_true.2 hfo
      | false => rw [h2 rfl]; kernel_rfl
    · cases hs with
      | true => rw [h1 rfl, List.getElem?_toArray]; exact f0 rfl
      | false => rw [h2 rfl]; kernel_rfl
  | cons b ls =>
    simp only [List.length_cons] at ml
    subst ml
    obtain ⟨a, rfl, S⟩ := K.sv hM
    have okb := ok b (by simp)
    have hu : (bnC b).toList.length = 162 := by rw [Array.length_toList, bnC_size okb]
    refine (claim_g (us := bnsL ls) hf hfo rfl rfl (by simpa [bnsL] using S) hu (fun v hv => bnsL_one (b :: ls) v (by simpa [bnsL] using hv)) (by omega)).mono ?_
    rintro e w' ⟨q, c', rfl, S', hN, F⟩
    obtain ⟨M', h1, h2⟩ := (Sv.lf S').keep hN hO F
    exact ⟨q, ls.length, c', bnC b, true, b.id, ls, M', by simp, rfl, bnC_size okb, List.all_eq_true.2 (cBundle_one _ _ _ _ _ _ rfl rfl), cBundle_get_id _ _ _ _ _ _ okb.al okb.sl okb.ol okb.gl, h1, h2, F, .inl ⟨b, rfl, rfl, rfl⟩⟩
theorem row16_at {l : List Int} (B : BldV w0 L 49 1 w p n c (l.map (Value.int .u16))) {j : Nat} {x : Int} (hj : l[j]? = some x) :
    ∃ g cs fr, p = some ⟨g, 0, none⟩ ∧ w.blk g = some (.cells cs 49 fr) ∧ ∃ h : j < cs.size, cs[j] = .int .u16 x := by
  have hl := B.len
  have hjl := (List.getElem?_eq_some_iff.1 hj).1
  simp only [List.length_map, Nat.mul_one] at hl
  rcases B.row.2 with ⟨hv, h0⟩ | ⟨g, c', cur, hv, _, hg, hnc, hcm, hcs, ht⟩
  · simp only [Value.slice.injEq] at hv
    omega
  · simp only [Value.slice.injEq] at hv
    obtain ⟨rfl, _, rfl⟩ := hv
    have h1 : (List.take (n * 1) cur.toList)[j]? = some (.int .u16 x) := by rw [ht, List.getElem?_map, hj]; rfl
    have h2 : cur[j]? = some (.int .u16 x) := by
      rw [List.getElem?_take_of_lt (by omega)] at h1
      simpa using h1
    exact ⟨g, cur, _, rfl, by rw [World.blk_heap]; exact hg, Array.getElem?_eq_some_iff.1 h2⟩
end
end Go.Proofs.Ytbhnfohoclcjdaa
