/- The ladder's code: what holds at its label. -/
import Derived.Test.YtakhmmnklkckpaaLdE
namespace Go
section
variable {P : Program} {a : Act} {w : World} {Q : Exit → Act → World → Prop}
/-- A scope with one label: what holds there, by a falling number that the state tells. -/
theorem wp_scope_label {c rest : Code} (l : Nat) (J : Nat → Act → World → Prop) (μ : Act → World → Nat) (hf : findLabel c l = some (Code.skip.seq rest)) (hμ : ∀ j a w, J j a w → μ a w = j)
    (pass : ∀ j a w, J j a w → rest.wp P (Exit.jump l (fun a' w' => ∃ j', j' < j ∧ J j' a' w') Q) a w)
    (first : (∀ j a w, J j a w → rest.wp P (Exit.jump l (fun a' w' => ∃ j, J j a' w') Q) a w) → c.wp P (Exit.jump l (fun a' w' => ∃ j, J j a' w') Q) a w) : (Code.scope c).wp P Q a w := by
  have up : ∀ (R R' : Act → World → Prop), (∀ a w, R a w → R' a w) → ∀ e a w, Exit.jump l R Q e a w → Exit.jump l R' Q e a w := fun R R' h e a w he => by
    cases e <;> first | exact he | exact ⟨he.1, h _ _ he.2⟩
  refine wp_scope_jumps l (fun a w => ∃ j, J j a w) μ hf (first fun j a w hj => wp_mono (pass j a w hj) (up _ _ fun a w ⟨j', _, h⟩ => ⟨j', h⟩)) ?_
  rintro a w ⟨j, hj⟩
  exact wp_seq (wp_skip (wp_mono (pass j a w hj) (up _ _ fun a' w' ⟨j', hl, h⟩ => ⟨⟨j', h⟩, by rw [hμ _ _ _ h, hμ _ _ _ hj]; exact hl⟩)))
end
theorem pair_zero_arr (c : List Int) (h : c.length = 5) :
    ((((((spl #[.int .u64 0, .int .u64 0, .int .u64 0, .int .u64 0, .int .u64 0, .int .u64 0, .int .u64 0, .int .u64 0, .int .u64 0, .int .u64 0] 0 (c.map (Value.int .u64))).toList.set 5 (.int .u64 0)).set 6 (.int .u64 0)).set 7 (.int .u64 0)).set 8 (.int .u64 0)).set 9 (.int .u64 0)).toArray = ints .u64 (c ++ zs 5) := by
  obtain ⟨a, b, d, e, f, rfl⟩ : ∃ a b d e f, c = [a, b, d, e, f] := by
    match c, h with
    | [a, b, d, e, f], _ => exact ⟨a, b, d, e, f, rfl⟩
  rw [show (#[.int .u64 0, .int .u64 0, .int .u64 0, .int .u64 0, .int .u64 0, .int .u64 0, .int .u64 0, .int .u64 0, .int .u64 0, .int .u64 0] : Array Value) = ints .u64 (zs 10) from rfl, spl_ints]
  simp [ints, lay, zs, List.replicate]
@[go_sem] theorem pair_zero (c : List Int) (h : c.length = 5) :
    (((((spl #[.int .u64 0, .int .u64 0, .int .u64 0, .int .u64 0, .int .u64 0, .int .u64 0, .int .u64 0, .int .u64 0, .int .u64 0, .int .u64 0] 0 (c.map (Value.int .u64))).toList.set 5 (.int .u64 0)).set 6 (.int .u64 0)).set 7 (.int .u64 0)).set 8 (.int .u64 0)).set 9 (.int .u64 0) = c.map (Value.int .u64) ++ (zs 5).map (Value.int .u64) := by
  have := congrArg Array.toList (pair_zero_arr c h)
  simpa [ints] using this
theorem arr_of {tm : Array Value} {n : Nat} (h : tm.size = n) : tm = ((List.range n).map fun i => tm.getD i undef).toArray := by
  apply Array.ext
  · simp [h]
  · intro i h1 h2
    simp [h1]
end Go
namespace Go.Proofs.Ytakhmmnklkckpaa
open Go.RowKit Go.Dr
def ptr (b : Nat) : Value := .pointer (some ⟨b, 0, none⟩)
def LadJ (w : World) (C : List Int) (X : Fp) (j : Nat) (a : Act) (W : World) : Prop :=
  ∃ (p2 p4 p6 p7 p8 : Nat) (cx ax az bx bz : List Int) (A Z B V : Fp) (last : Bool),
    (a.tmps.size = 66 ∧ a.defers = [] ∧ a.tmps.getD 2 undef = ptr p2 ∧ a.tmps.getD 4 undef = ptr p4 ∧ a.tmps.getD 6 undef = ptr p6 ∧ a.tmps.getD 7 undef = ptr p7 ∧ a.tmps.getD 8 undef = ptr p8 ∧
      a.tmps.getD 9 undef = .int .u8 (if last then 1 else 0) ∧ a.tmps.getD 10 undef = .int .i64 (j : Int)) ∧ j ≤ 254 ∧
    Own w [(p8, .cells (ints .u64 (bx ++ bz)) 88), (p7, .cells (ints .u64 (ax ++ az)) 88), (p6, .cells (ints .u64 cx) 28), (p4, .cells (ints .u8 (List.replicate 32 0)) 22), (p2, .cells (ints .u8 C) 22)] W ∧
    (Is cx X ∧ Is ax A ∧ Is az Z ∧ Is bx B ∧ Is bz V) ∧ Pairs last A Z B V (lrun X (kbit C) (254 - j))
/-- The secret as the code has it. -/
def clC (S : List Int) : List Int := (S.set 0 (bits BinOp.and IntKind.u8 (el S 0) 248)).set 31 (bits BinOp.or IntKind.u8 (bits BinOp.and IntKind.u8 (el (S.set 0 (bits BinOp.and IntKind.u8 (el S 0) 248)) 31) 127) 64)
theorem all_bytes {p : Int → Bool} (h : ((List.range 256).all fun n => p (n : Int)) = true) {x : Int} (hx : 0 ≤ x ∧ x < 256) : p x = true := by
  have := List.all_eq_true.1 h x.toNat (List.mem_range.2 (by omega))
  rwa [Int.toNat_of_nonneg hx.1] at this
theorem low_bits {x : Int} (hx : 0 ≤ x ∧ x < 256) : bits BinOp.and IntKind.u8 x 248 = x.tdiv 8 % 256 * 8 % 256 :=
  eq_of_beq (all_bytes (p := fun x => bits BinOp.and IntKind.u8 x 248 == x.tdiv 8 % 256 * 8 % 256) (by kernel_rfl) hx)
theorem and127 {x : Int} (hx : 0 ≤ x ∧ x < 256) : bits BinOp.and IntKind.u8 x 127 = x % 128 :=
  eq_of_beq (all_bytes (p := fun x => bits BinOp.and IntKind.u8 x 127 == x % 128) (by kernel_rfl) hx)
theorem or64_fin : ∀ n : Fin 128, (n.val ||| 64) = n.val % 64 + 64 := by decide +kernel
theorem or64_nat (n : Nat) (h : n < 128) : (n ||| 64) = n % 64 + 64 := or64_fin ⟨n, h⟩
theorem or64_int (x : Int) (hx : 0 ≤ x ∧ x < 128) : bits BinOp.or IntKind.u8 x 64 = ((x.toNat ||| 64 : Nat) : Int) := u8_or x 64 hx.1 (by omega) (by omega) (by omega)
theorem or64 {x : Int} (hx : 0 ≤ x ∧ x < 128) : bits BinOp.or IntKind.u8 x 64 = x % 64 + 64 := by
  rw [or64_int x hx, or64_nat _ (by omega)]
  omega
theorem top_bits {x : Int} (hx : 0 ≤ x ∧ x < 256) : bits BinOp.or IntKind.u8 (bits BinOp.and IntKind.u8 x 127) 64 = (x.tmod 64 + 64) % 256 := by
  rw [and127 hx, or64 (by omega), Int.tmod_eq_emod_of_nonneg hx.1]
  omega
theorem clC_eq {S : List Int} (h : Byt S) : clC S = clD S := by
  unfold clC clD
  rw [low_bits (byt_el h 0), top_bits (byt_el (byt_set h 0 (by omega)) 31)]
theorem of_one {w : World} : Calls Try.prog 27 #[.agg (ints .u8 (b1 1))] w fun e w' => ∃ c, e = .returned (fe c) ∧ Is c 1 ∧ Fr [] w w' := by
  have := of_1 (w := w) (n := 1) (by decide)
  rwa [toFp_one] at this
theorem is_zs5 : Is (zs 5) 0 := is_zero
theorem start_pairs (X : Fp) (C : List Int) {n : Nat} (hn : n = 0) : Pairs false 1 0 X 1 (lrun X (kbit C) n) := by subst hn; exact ⟨Sim.refl _ _, Sim.refl _ _⟩
theorem lrun_next (X : Fp) (C : List Int) (j : Nat) (h : j ≤ 254) : lrun X (kbit C) (254 - j + 1) = dstep X (kbit C j) (lrun X (kbit C) (254 - j)) := by
  rw [lrun, show 254 - (254 - j) = j from by omega]
theorem pairs_next {C : List Int} {X A Z B V : Fp} {i : Nat} {bit : Bool} (hi : i + 1 ≤ 254) (hk : kbit C (i + 1) = bit) (h : Pairs bit A Z B V (dstep X bit (lrun X (kbit C) (254 - (i + 1))))) : Pairs bit A Z B V (lrun X (kbit C) (254 - i)) := by
  rw [show 254 - i = 254 - (i + 1) + 1 from by omega, lrun_next X C (i + 1) hi, hk]; exact h
theorem pairs_zero {C : List Int} {X A Z B V : Fp} {j : Nat} {bit : Bool} (hj : j = 0) (hk : kbit C j = bit) (h : Pairs bit A Z B V (dstep X bit (lrun X (kbit C) (254 - j)))) : Pairs bit A Z B V (dstep X (kbit C 0) (lrun X (kbit C) (254 - 0))) := by
  subst hj; rw [hk]; exact h
theorem quot_of {A Z B V : Fp} {bit : Bool} {s : St} {Y : Fp} (h : Pairs bit A Z B V s) (hY : Y = if bit then B * inv V else A * inv Z) : Y = s.ax * inv s.az := by
  subst hY
  cases bit
  · rw [if_neg Bool.false_ne_true]; exact h.1.quot
  · rw [if_pos rfl]; exact h.2.quot
theorem lrun_last {X : Fp} {C : List Int} {n : Nat} (hn : n = 255) : (lrun X (kbit C) n).ax * inv (lrun X (kbit C) n).az = ladF X (kbit C) := by rw [hn, ladF]
theorem ladF_of {X Y : Fp} {C : List Int} {A Z B V : Fp} {bit : Bool} (h : Pairs bit A Z B V (dstep X (kbit C 0) (lrun X (kbit C) (254 - 0)))) (hY : Y = if bit then B * inv V else A * inv Z) : Y = ladF X (kbit C) := by
  rw [← lrun_next X C 0 (by omega)] at h
  rw [quot_of h hY]
  exact lrun_last (by omega)
theorem ladF_f {X : Fp} {C : List Int} {A Z B V : Fp} (h : Pairs false A Z B V (dstep X (kbit C 0) (lrun X (kbit C) (254 - 0)))) : A * inv Z = ladF X (kbit C) := by
  rw [← ladF_of h rfl, if_neg Bool.false_ne_true]
theorem ladF_t {X : Fp} {C : List Int} {A Z B V : Fp} (h : Pairs true A Z B V (dstep X (kbit C 0) (lrun X (kbit C) (254 - 0)))) : B * inv V = ladF X (kbit C) := by
  rw [← ladF_of h rfl, if_pos rfl]
end Go.Proofs.Ytakhmmnklkckpaa
