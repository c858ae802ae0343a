/- A constant's octets marked, wherever they lie. -/
import Derived.Test.YtbhnfohoclcjdaaKeF
set_option linter.unusedVariables false
set_option linter.unusedSimpArgs false
namespace Go
theorem World.freeze_at {w : World} {b : Nat} {C : Array Value} {e : TypeId} (k : Nat) (h : w.blk b = some (.cells C e)) : w.freeze ⟨b, k, none⟩ 1 = w.put b (.cells C e (k, k + 1)) := by
  unfold World.freeze World.put
  rw [if_neg (by decide)]
  congr 1
  apply Array.ext
  · simp
  · intro i h1 h2
    have hb := Array.getElem?_eq_some_iff.1 h
    rw [Array.getElem_modify, Array.getElem_setIfInBounds]
    by_cases hi : b = i
    · subst hi
      rw [if_pos rfl, if_pos rfl, hb.2]
      rfl
    · rw [if_neg hi, if_neg hi]
/-- '[]byte("..")' of a constant, its row laid anywhere. -/
theorem run_convert_mark {P : Program} {w : World} {b : Nat} {C : Array Value} {t e : TypeId} (n c : Nat) (h : w.blk b = some (.cells C e)) (ht : P.underlying t = some (.slice e)) (he : P.underlying e = some (.int .u8)) :
    (convert t t (.slice (some ⟨b, 0, none⟩) n c)).run P w = .ok (.slice (some ⟨b, 0, none⟩) n c) (w.put b (.cells C e (C.size, C.size + 1))) := by
  have hsh : w.shape? b = some (e, C.size) := by
    unfold World.shape?
    rw [show w.heap[b]? = some (.cells C e) from h]
  simp [convert, run_underlying ht, run_underlying he, markStringish, hsh]
  exact World.freeze_at _ h
end Go
namespace Go.Dr
section
variable {P : Program} {ops : Array Oper} {Q : Exit → Act → World → Prop} {S : World → Prop} {N : Nat}
theorem drawn_wpOp {fuel : Nat} {listed : Array Bool} {a : Act} {w : World} (i : Nat) (o : Oper) (ho : ops[i]? = some o)
    (h : ∀ K : Act → World → Prop, (∀ a' w', S w' ∧ wpAnyS P .any ops (NoP Q) S N fuel (listed.setIfInBounds i true) a' w' → K a' w') →
      wpList P ops (Exit.then K fun e a w => e = .outgrown ∧ Q e a w) [o] a w) :
    wpOp P ops (NoP Q) i (fun a' w' => (N ≤ i ∨ S w') ∧ wpAnyS P .any ops (NoP Q) S N fuel (listed.setIfInBounds i true) a' w') a w := by
  have h1 : wpList P ops (Exit.then (fun a' w' => (N ≤ i ∨ S w') ∧ wpAnyS P .any ops (NoP Q) S N fuel (listed.setIfInBounds i true) a' w') (NoP Q)) [o] a w :=
    wpList_imp (fun e a w h => by
      cases e <;> first | exact h | exact h.2 | (exact absurd h.1 (by simp))) _ _ _ (h (fun a' w' => (N ≤ i ∨ S w') ∧ wpAnyS P .any ops (NoP Q) S N fuel (listed.setIfInBounds i true) a' w') (fun _ _ h => ⟨.inr h.1, h.2⟩))
  unfold wpOp
  simp only [ho]
  unfold wpList at h1
  split
  · rename_i hw
    rw [if_pos hw] at h1
    rcases h1 with h1 | ⟨ha, a', w', hl⟩
    · left
      revert h1
      unfold Oper.wp
      generalize (execOp a.eval o).run P w = r
      intro h1
      cases r with
      | ok n w' =>
        cases n <;> simp only [Oper.upon] at h1 ⊢
        case value v => exact h1
        case skip => exact h1
        case defer d => exact h1
        case enter f args =>
          refine Calls.mono h1 (fun e w'' he => ?_)
          cases e <;> exact he
        case row row args => exact Rows.mono h1 (fun v w'' he => he)
      | halt x w' => cases x <;> simp only [Oper.upon] at h1 ⊢ <;> exact h1
    · exact .inr ⟨ha, a', w', hl⟩
  · rename_i hw
    rw [if_neg hw] at h1
    exact h1
/-- Three may come up now. -/
theorem drawn_next3 (i j l : Nat) {o u v : Oper} {fuel : Nat} {listed : Array Bool} {a : Act} {w : World} (ho : ops[i]? = some o) (hu : ops[j]? = some u) (hv : ops[l]? = some v) (hr : Region.ready .any ops listed = [i, j, l])
    (h : ∀ K : Act → World → Prop, (∀ a' w', S w' ∧ wpAnyS P .any ops (NoP Q) S N fuel (listed.setIfInBounds i true) a' w' → K a' w') →
      wpList P ops (Exit.then K fun e a w => e = .outgrown ∧ Q e a w) [o] a w)
    (k : ∀ K : Act → World → Prop, (∀ a' w', S w' ∧ wpAnyS P .any ops (NoP Q) S N fuel (listed.setIfInBounds j true) a' w' → K a' w') →
      wpList P ops (Exit.then K fun e a w => e = .outgrown ∧ Q e a w) [u] a w)
    (m : ∀ K : Act → World → Prop, (∀ a' w', S w' ∧ wpAnyS P .any ops (NoP Q) S N fuel (listed.setIfInBounds l true) a' w' → K a' w') →
      wpList P ops (Exit.then K fun e a w => e = .outgrown ∧ Q e a w) [v] a w) : wpAnyS P .any ops (NoP Q) S N (fuel + 1) listed a w := by
  refine ⟨fun h0 => (by rw [h0] at hr; cases hr), fun t hl => ?_⟩
  rw [hr] at hl
  rcases List.mem_cons.1 hl with rfl | hl
  · exact drawn_wpOp _ _ ho h
  rcases List.mem_cons.1 hl with rfl | hl
  · exact drawn_wpOp _ _ hu k
  rcases List.mem_cons.1 hl with rfl | hl
  · exact drawn_wpOp _ _ hv m
  · cases hl
end
end Go.Dr
namespace Go.Proofs.Ytbhnfohoclcjdaa
open Go.RowKit Go.Dr Go.Kd
theorem sl_ext {V : World} {b off : Nat} {xs : Array Value} {T : TypeId} {l : List Int} (hb : V.blk b = some (.cells xs T)) (hs : off + 32 ≤ xs.size) (hx : xs.extract off (off + 32) = ints .u8 l) : Sl .u8 V (some ⟨b, off, none⟩) 32 32 l :=
  Sl.of hb hs (by rw [hx]; simp [ints]) (Nat.le_refl 32)
/-- The six parts of a bundle's document. -/
theorem sll_six {V : World} {b0 bl bd bn bx : Nat} {xs : Array Value} {T1 T2 T3 T4 T5 : TypeId} {d i : Nat} {ag sg on : List Int} (h0 : V.blk b0 = some (.cells xs T1)) (hsz : xs.size = 162)
    (x1 : xs.extract 1 33 = ints .u8 ag) (x2 : xs.extract 33 65 = ints .u8 sg) (x4 : xs.extract 66 98 = ints .u8 on)
    (hl : V.blk bl = some (.cells #[.int .u8 111, .int .u8 110, .int .u8 99, .int .u8 101] T2 (4, 5))) (hd : V.blk bd = some (.cells #[.int .u8 (d : Int)] T3)) (hd1 : d < 256) (hn : V.blk bn = some (.cells (ints .u8 (putB i 2)) T4))
    (hx : V.blk bx = some (.cells #[.slice (some ⟨bl, 0, none⟩) 4 4, .slice (some ⟨bd, 0, none⟩) 1 1, .slice (some ⟨b0, 1, none⟩) 32 32, .slice (some ⟨b0, 33, none⟩) 32 32, .slice (some ⟨bn, 0, none⟩) 2 2, .slice (some ⟨b0, 66, none⟩) 32 32] T5)) :
    Sll V (some ⟨bx, 0, none⟩) 6 6 [[111, 110, 99, 101], putB d 1, ag, sg, putB i 2, on] := by
  have e1 : putB d 1 = [(d : Int)] := by simp [putB]; omega
  refine Sll.of (vs := [.slice (some ⟨bl, 0, none⟩) 4 4, .slice (some ⟨bd, 0, none⟩) 1 1, .slice (some ⟨b0, 1, none⟩) 32 32, .slice (some ⟨b0, 33, none⟩) 32 32, .slice (some ⟨bn, 0, none⟩) 2 2, .slice (some ⟨b0, 66, none⟩) 32 32]) ⟨rfl, Nat.le_refl 6, .inr ⟨bx, 0, _, T5, (0, 0), rfl, hx, by simp, by simp⟩, by simp, fun a ha => ⟨_, _, (by simpa using ha.symm)⟩⟩ ?_
  rw [e1]
  exact .cons (Sl.whole (A := [111, 110, 99, 101]) hl rfl) (.cons (Sl.whole (A := [(d : Int)]) hd rfl) (.cons (sl_ext h0 (by omega) x1) (.cons (sl_ext h0 (by omega) x2) (.cons (Sl.whole hn (putB_len _ _)) (.cons (sl_ext h0 (by omega) x4) .nil)))))
end Go.Proofs.Ytbhnfohoclcjdaa
