/- Vouches that count, where there are none. -/
import Derived.Test.YtbhnfohoclcjdaaKdR
set_option linter.unusedVariables false
set_option linter.unusedSimpArgs false
namespace Go
section
variable {P : Program} {fn : Func} {R : Ending → World → Prop} {a : Act} {w : World}
theorem ret_cell_tmp2 {p ty b u v : Nat} (h : fn.results = #[.cell p ty, .tmp u, .tmp v]) (hp : a.tmps.getD p undef = .pointer (some ⟨b, 0, none⟩)) (hd : a.defers = [])
    (hR : cellRet P ty (w.blk b) (fun x => R (.returned (.tuple #[x, a.tmps.getD u undef, a.tmps.getD v undef])) w)) : bodyPost P fn R .ret a w := by
  unfold cellRet at hR
  split at hR
  · rename_i cs T fr hb
    refine bodyPost_ret (v := .tuple #[.agg cs, a.tmps.getD u undef, a.tmps.getD v undef]) ?_ hd hR.2
    have hp' : a.tmps[p]?.getD undef = .pointer (some ⟨b, 0, none⟩) := by simpa using hp
    simp [results, h, hp', asAddr, run_loadVar_agg hb hR.1]
  · exact hR.elim
end
end Go
namespace Go.Proofs.Ytbhnfohoclcjdaa
open Go.RowKit Go.Dr Go.Kd
section
variable {w : World}
set_option maxRecDepth 100000 in
set_option maxHeartbeats 2000000 in
theorem vouched0_f {sv : Array Value} {C : List Int} {xs : Array Value} (hC : C.length = 133) (hsv : sv.size = 1) (hsz : xs.size = 101) (hv : xs[100]? = some (.slice none 0 0)) :
    Calls Try.prog 24 #[.agg sv, .agg (ints .u8 C), .agg xs] w fun e w' => e = .returned (.int .i64 0) ∧ Fr [] w w' := by
  replace hv := (Array.getElem?_eq_some_iff.1 hv).2
  have hmk : ∀ W : World, (Instr.makeMap 111 none).run Try.prog W = .ok (.map (some W.heap.size)) (W.alloc (.map #[] 0)) := fun _ => rfl
  go_enter Try.func24, Try.ntmps24
  go_wp2_with fail
  refine named_world (A := fun X => OwB w [(w.heap.size + 1 + 1 + 1, .map #[] 0)] X) (Q := fun X => Code.wp _ _ _ _ X) (((((OwB.start w).alloc _).take.alloc _).take.alloc _).take.allocN _ (w.heap.size + 1 + 1 + 1) (by simp)) ?_
  intro V hV
  generalize w.heap.size + 1 + 1 + 1 = mb at hV ⊢
  have fm := hV.nth 0 rfl
  have HV := Lib.hid hV
  clear hV
  go_loopw [14] (fun iv wy => iv = .int .i64 0 ∧ wy = V) (fun _ _ => 0)
  case atStart => exact ⟨rfl, rfl⟩
  case round =>
    obtain ⟨rfl, rfl⟩ := hrel
    have hl : (Builtin.len_ #[111] 3 #[.map (some mb)]).run Try.prog wr = .ok (.int .i64 0) wr := run_len_map _ 111 3 mb #[] 0 (by kernel_rfl) fm
    go_wp2_with fail
    exact bodyPost_ret (results_tmp rfl _ _ _) rfl ⟨rfl, HV.out.fr⟩
end
end Go.Proofs.Ytbhnfohoclcjdaa
