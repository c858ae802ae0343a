/- Numbers of names. -/
import Derived.Test.YtbhnfohoclcjdaaKdD
set_option linter.unusedVariables false
set_option linter.unusedSimpArgs false
namespace Go.Proofs.Ytbhnfohoclcjdaa
open Go.RowKit Go.Dr Go.Kd
section
variable {w : World}
theorem byt_nameB (n : Nat) : isBytes (nameB n) := by
  intro x hx
  simp only [nameB, List.mem_append, putB, List.mem_map, Kd.zeros, List.mem_replicate] at hx
  rcases hx with hx | ⟨i, _, rfl⟩ | ⟨_, rfl⟩
  · simp only [List.mem_cons, List.not_mem_nil, or_false] at hx
    omega
  · omega
  · omega
theorem beq_str {a b : List Int} (ha : isBytes a) (hb : isBytes b) : ((strB a).toList == (strB b).toList) = decide (a = b) := by
  rw [← beq_toListBytes, beqB]
  by_cases h : a = b
  · rw [h]; simp
  · rw [decide_eq_false h, decide_eq_false fun e => h (strB_inj ha hb e)]
set_option maxRecDepth 100000 in
set_option maxHeartbeats 2000000 in
theorem number_f {p : Option Addr} {n cap most : Nat} {B : List Int} (S : Sl .u8 w p n cap B) (hB : isBytes B) (hm : most < 4294967296) :
    Calls Try.prog 62 #[.slice p n cap, .int .i64 most] w fun e w' => e = .returned (.int .i64 (numB B most : Nat)) ∧ Fr [] w w' := by
  obtain ⟨r, hr⟩ : ∃ r, r = numB B most := ⟨_, rfl⟩
  rw [← hr]
  have HR := Lib.hid hr
  have HS := Lib.hid S
  have HB := Lib.hid hB
  have HN := Lib.hid S.len
  have hcap := S.cap_
  clear S hB hr
  go_enter Try.func62, Try.ntmps62
  by_cases h32 : n < 32
  · have d : decide ((n : Int) < 32) = true := by rw [decide_eq_true_eq]; omega
    have hr0 : r = 0 := by rw [HR.out]; unfold numB; rw [if_pos (by rw [HN.out]; exact h32)]
    subst hr0
    have HF := Lib.hid (Fr.refl [] w)
    go_wp2_with fail
    exact bodyPost_ret (results_tmp rfl _ _ _) rfl ⟨rfl, HF.out⟩
  · have d : decide ((n : Int) < 32) = false := by rw [decide_eq_false_iff_not]; omega
    obtain ⟨b, off, _, _, _, rfl, _⟩ := HS.out.out (by omega)
    have hS1 : Sl .u8 w (some ⟨b, off + 4, none⟩) 4 (cap - 4) ((B.drop 4).take 4) := by
      have := HS.out.part (i := 4) (j := 8) (c := cap) (by omega) (by omega) (by omega) (Nat.le_refl _)
      rw [if_neg (by omega), List.drop_take] at this
      simpa [Addr.add_mid] using this
    have hS3 : Sl .u8 w (some ⟨b, off, none⟩) 32 cap (B.take 32) := HS.out.front (by omega)
    go_wp2_with fail
    refine (get_f hS1 (fun x hx => HB.out x (List.mem_of_mem_drop (List.mem_of_mem_take hx)))).mono ?_
    rintro e w' ⟨rfl, F⟩
    have l4 : ((B.drop 4).take 4).length = 4 := by rw [List.length_take, List.length_drop, HN.out]; omega
    have hg : getV ((B.drop 4).take 4) = getB ((B.drop 4).take 4) := by unfold getV; rw [l4]; rfl
    rw [hg]
    have hlt := getB_lt 4 _ l4 (fun x hx => HB.out x (List.mem_of_mem_drop (List.mem_of_mem_take hx)))
    obtain ⟨g, hge⟩ : ∃ g, g = getB ((B.drop 4).take 4) := ⟨_, rfl⟩
    rw [← hge] at hlt ⊢
    have hr2 : r = if g < 1 ∨ most < g ∨ B.take 32 ≠ nameB g then 0 else g := by
      rw [HR.out]; unfold numB
      rw [if_neg (by rw [HN.out]; exact h32), ← hge]
    have HR2 := Lib.hid hr2
    have HG := Lib.hid hge
    have HL := Lib.hid hlt
    have HS1 := Lib.hid hS3
    have HF := Lib.hid F
    clear hr2 hge hlt hS1 hS3 l4 hg F HR
    have w1 : IntKind.u64.wrap (most : Int) = most := by rw [IntKind.wrap_u64, Int.emod_eq_of_lt] <;> omega
    go_upto_region 4 with (fail)
    have hV : OwB w [] w' := (OwB.start w).call HF.out
    have hne : Nonempty (OwnW w []) := ⟨⟨_, hV⟩⟩
    have w2 : IntKind.i64.wrap (g : Int) = g := by have := HL.out; rw [IntKind.wrap_i64]; omega
    have w3 : IntKind.u64.wrap (g : Int) = g := by have := HL.out; rw [IntKind.wrap_u64, Int.emod_eq_of_lt] <;> omega
    by_cases hg1 : g < 1
    · have d1 : decide ((g : Int) < 1) = true := by rw [decide_eq_true_eq]; omega
      have hr0 : r = 0 := by rw [HR2.out, if_pos (Or.inl hg1)]
      subst hr0
      refine wp_region_own (by kernel_rfl) (by kernel_rfl) hV ?_
      repeat (go_big_quiet_step (fail))
      refine wpQuiet_nil ?_
      intro _ hw'
      obtain ⟨⟨V9, hV9⟩, rfl⟩ := hw'
      have HV9 := Lib.hid hV9
      clear hne hV hV9
      go_wp2_with fail
      exact bodyPost_ret (results_tmp rfl _ _ _) rfl ⟨rfl, HV9.out.fr⟩
    · have d1 : decide ((g : Int) < 1) = false := by rw [decide_eq_false_iff_not]; omega
      by_cases hg2 : most < g
      · have d2 : decide ((most : Int) < (g : Int)) = true := by rw [decide_eq_true_eq]; omega
        have d3 : decide ((g : Int) > (most : Int)) = true := by rw [decide_eq_true_eq]; omega
        have hr0 : r = 0 := by rw [HR2.out, if_pos (Or.inr (Or.inl hg2))]
        subst hr0
        refine wp_region_own (by kernel_rfl) (by kernel_rfl) hV ?_
        repeat (go_big_quiet_step (fail))
        refine wpQuiet_nil ?_
        intro _ hw'
        obtain ⟨⟨V9, hV9⟩, rfl⟩ := hw'
        have HV9 := Lib.hid hV9
        clear hne hV hV9
        go_wp2_with fail
        exact bodyPost_ret (results_tmp rfl _ _ _) rfl ⟨rfl, HV9.out.fr⟩
      · have d2 : decide ((most : Int) < (g : Int)) = false := by rw [decide_eq_false_iff_not]; omega
        have d3 : decide ((g : Int) > (most : Int)) = false := by rw [decide_eq_false_iff_not]; omega
        have hconv : ∀ x : OwnW w [], (convert 47 9 (.slice (some ⟨b, off, none⟩) 32 cap)).run Try.prog x.w = .ok (.string (strB (B.take 32))) x.w := fun x => conv47 (HS1.out.fr0 x.h.fr)
        have c1 : ∀ x : World, Calls Try.prog 51 #[.int .i64 g] x fun e w' => e = .returned (.agg (ints .u8 (nameB g))) ∧ Fr [] x w' := fun _ => name_f (by have := HL.out; omega)
        have c2 : ∀ x : World, Calls Try.prog 83 #[.agg (ints .u8 (nameB g))] x fun e w' => e = .returned (.string (strB (nameB g))) ∧ Fr [] x w' := fun _ => text_f (nameB_length g)
        have C1 := Lib.hid c1
        have C2 := Lib.hid c2
        clear c1 c2
        obtain ⟨c, hc⟩ : ∃ c, ((strB (B.take 32)).toList == (strB (nameB g)).toList) = c := ⟨_, rfl⟩
        have hrc : r = if c = true then g else 0 := by
          rw [HR2.out, ← hc, beq_str (fun x hx => HB.out x (List.mem_of_mem_take hx)) (byt_nameB g)]
          by_cases h : B.take 32 = nameB g <;> simp [h, hg1, hg2]
        have HRC := Lib.hid hrc
        clear hrc
        refine wp_region_own (by kernel_rfl) (by kernel_rfl) hV ?_
        repeat (go_big_quiet_step (with_reducible first | exact Calls.own_of (C1.out _) | exact Calls.own_of (C2.out _)))
        refine wpQuiet_nil ?_
        intro _ hw'
        obtain ⟨⟨V9, hV9⟩, rfl⟩ := hw'
        have HV9 := Lib.hid hV9
        clear hne hV hV9 hconv hc
        cases c
        · have hr0 : r = 0 := by rw [HRC.out]; rfl
          subst hr0
          go_wp2_with fail
          exact bodyPost_ret (results_tmp rfl _ _ _) rfl ⟨rfl, HV9.out.fr⟩
        · have hr0 : r = g := by rw [HRC.out]; rfl
          have HR0 := Lib.hid hr0
          clear hr0
          go_wp2_with fail
          rw [← HR0.out]
          exact bodyPost_ret (results_tmp rfl _ _ _) rfl ⟨rfl, HV9.out.fr⟩
end
end Go.Proofs.Ytbhnfohoclcjdaa
