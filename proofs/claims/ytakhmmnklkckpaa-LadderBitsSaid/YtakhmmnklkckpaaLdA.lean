/- Results that lie in two cells; pairs of numbers. -/
import Derived.Test.YtakhmmnklkckpaaOwn
namespace Go
theorem Own.cast {w0 w : World} {L L' : List (Nat × Obj)} (e : L = L') (h : Own w0 L' w) : Own w0 L w := e ▸ h
theorem Own.drop {w0 w : World} {L : List (Nat × Obj)} (h : Own w0 L w) (i : Nat) : Own w0 (L.eraseIdx i) w :=
  ⟨fun p hp => h.has p (List.mem_of_mem_eraseIdx hp), by
    exact h.nd.sublist ((List.eraseIdx_sublist L i).map Prod.fst), fun p hp => h.lo p (List.mem_of_mem_eraseIdx hp), h.fr⟩
end Go
namespace Go
theorem foldl_put (off : Nat) : ∀ (xs : List Value) (s : Nat) (base : Array Value), off + s + xs.length ≤ base.size →
    ((xs.zipIdx s).foldl (fun cs x => cs.setIfInBounds (off + x.2) x.1) base).size = base.size ∧
    ∀ j, ((xs.zipIdx s).foldl (fun cs x => cs.setIfInBounds (off + x.2) x.1) base)[j]? = if off + s ≤ j ∧ j < off + s + xs.length then xs[j - (off + s)]? else base[j]?
  | [], s, base, _ => ⟨rfl, fun j => by
    simp only [List.zipIdx_nil, List.foldl_nil, List.length_nil]
    rw [if_neg (by omega)]⟩
  | x :: xs, s, base, h => by
    simp only [List.zipIdx_cons, List.foldl_cons]
    simp only [List.length_cons] at h
    obtain ⟨h1, h2⟩ := foldl_put off xs (s + 1) (base.setIfInBounds (off + s) x) (by simp; omega)
    refine ⟨by rw [h1]; simp, fun j => ?_⟩
    rw [h2 j]
    simp only [List.length_cons]
    by_cases hj : j = off + s
    · subst hj
      rw [if_neg (by omega), if_pos (by omega), Array.getElem?_setIfInBounds_self_of_lt (by omega)]
      simp
    · by_cases hj2 : off + s ≤ j ∧ j < off + s + (xs.length + 1)
      · rw [if_pos (by omega), if_pos hj2]
        rw [show j - (off + s) = (j - (off + (s + 1))) + 1 from by omega, List.getElem?_cons_succ]
      · rw [if_neg (by omega), if_neg hj2, Array.getElem?_setIfInBounds_ne (by omega)]
theorem foldl_spl (off : Nat) (xs : List Value) (base : Array Value) (h : off + xs.length ≤ base.size) :
    (xs.zipIdx 0).foldl (fun cs x => cs.setIfInBounds (off + x.2) x.1) base = spl base off xs := by
  apply Array.ext_getElem?
  intro j
  rw [(foldl_put off xs 0 base (by omega)).2 j, getElem?_spl base off xs h j]
  simp only [Nat.add_zero]
  by_cases h1 : j < off
  · rw [if_neg (by omega), if_pos h1]
  · by_cases h2 : j < off + xs.length
    · rw [if_pos (by omega), if_neg h1, if_pos h2]
    · rw [if_neg (by omega), if_neg h1, if_neg h2]
@[go_sem] theorem foldl_zip (base : Array Value) (k : IntKind) (l : List Int) (off n : Nat) (hn : n = l.length) (h : off + l.length ≤ base.size) :
    Array.foldl (fun cs x => cs.setIfInBounds (off + x.snd) x.fst) base (ints k l).zipIdx 0 n = spl base off (l.map (Value.int k)) := by
  subst hn
  rw [← foldl_spl off _ base (by simpa using h)]
  rw [show l.length = (ints k l).zipIdx.size from by simp [ints], ← Array.foldl_toList]
  simp [ints]
@[go_sem] theorem foldl_zip0 (base : Array Value) (k : IntKind) (l : List Int) (n : Nat) (hn : n = l.length) (h : l.length ≤ base.size) :
    Array.foldl (fun cs x => cs.setIfInBounds x.snd x.fst) base (ints k l).zipIdx 0 n = spl base 0 (l.map (Value.int k)) := by
  rw [← foldl_zip base k l 0 n hn (by omega)]
  simp only [Nat.zero_add]
attribute [go_sem] size_spl
@[go_sem] theorem toArray_ints2 (k : IntKind) (a b : List Int) : (a.map (Value.int k) ++ b.map (Value.int k)).toArray = ints k (a ++ b) := by simp [ints]
@[go_sem] theorem pair_spl (c1 c2 : List Int) (h1 : c1.length = 5) (h2 : c2.length = 5) :
    spl (spl #[.int .u64 0, .int .u64 0, .int .u64 0, .int .u64 0, .int .u64 0, .int .u64 0, .int .u64 0, .int .u64 0, .int .u64 0, .int .u64 0] 0 (c1.map (Value.int .u64))) 5 (c2.map (Value.int .u64)) = ints .u64 (c1 ++ c2) := by
  rw [show (#[.int .u64 0, .int .u64 0, .int .u64 0, .int .u64 0, .int .u64 0, .int .u64 0, .int .u64 0, .int .u64 0, .int .u64 0, .int .u64 0] : Array Value) = ints .u64 (zs 10) from rfl, spl_ints, spl_ints]
  congr 1
  simp only [lay, h1, h2, zs, List.take_zero, List.nil_append]
  rw [List.take_append_of_le_length (by omega), List.take_of_length_le (by omega), List.drop_of_length_le (by simp [h1]), List.append_nil]
end Go
namespace Go.Dr
variable {P : Program} {fn : Func} {R : Ending → World → Prop} {a : Act} {w : World}
theorem ret_cell2 {p q ty tz b c : Nat} (h : fn.results = #[.cell p ty, .cell q tz]) (hp : a.tmps.getD p undef = .pointer (some ⟨b, 0, none⟩)) (hq : a.tmps.getD q undef = .pointer (some ⟨c, 0, none⟩)) (hd : a.defers = [])
    (hR : cellRet P ty (w.blk b) (fun v => cellRet P tz (w.blk c) (fun u => R (.returned (.tuple #[v, u])) w))) : bodyPost P fn R .ret a w := by
  unfold cellRet at hR
  split at hR
  · rename_i cs T fr hb
    obtain ⟨h1, hR⟩ := hR
    split at hR
    · rename_i ds T2 fr2 hc
      refine bodyPost_ret (v := .tuple #[.agg cs, .agg ds]) ?_ hd hR.2
      have hp' : a.tmps[p]?.getD undef = .pointer (some ⟨b, 0, none⟩) := by simpa using hp
      have hq' : a.tmps[q]?.getD undef = .pointer (some ⟨c, 0, none⟩) := by simpa using hq
      simp [results, h, hp', hq', asAddr, run_loadVar_agg hb h1, run_loadVar_agg hc hR.1]
    · exact hR.elim
  · exact hR.elim
theorem cellRet_of {ty T : Nat} {o : Option Obj} {cs : Array Value} {K : Value → Prop} (hb : o = some (.cells cs T)) (h : aggB P ty cs.size = true) (hK : K (.agg cs)) : cellRet P ty o K := by
  rw [hb]; exact ⟨h, hK⟩
theorem aggB_ints {ty n : Nat} {k : IntKind} {l : List Int} (hl : l.length = n) (h : aggB P ty n = true) : aggB P ty (ints k l).size = true := by rw [size_ints, hl]; exact h
end Go.Dr
namespace Go.Proofs.Ytakhmmnklkckpaa
open Go.RowKit Go.Dr
/-- A pair of numbers of the code. -/
@[go_sem] def pr (x z : List Int) : Value := .agg (ints .u64 (x ++ z))
/-- The bytes of 121665. -/
def k24 : List Int := [65, 219, 1, 0, 0, 0, 0, 0, 0, 0, 0, 0, 0, 0, 0, 0, 0, 0, 0, 0, 0, 0, 0, 0, 0, 0, 0, 0, 0, 0, 0, 0]
theorem byt_k24 : Byt k24 := fun y hy => by
  simp only [k24, List.mem_cons, List.not_mem_nil, or_false] at hy
  omega
theorem from_k24 : fromB k24 = toFp 121665 := by kernel_rfl
theorem of_k24 {w : World} : Calls Try.prog 27 #[.agg (ints .u8 k24)] w fun e w' => ∃ c, e = .returned (fe c) ∧ Is c (toFp 121665) ∧ Fr [] w w' := from_k24 ▸ of_b rfl byt_k24
end Go.Proofs.Ytakhmmnklkckpaa
