/- A term that has a name. -/
import Derived.Test.YtbhnfohoclcjdaaKdK
import Derived.Test.YtbhnfohoclcjdaaGnG
set_option linter.unusedVariables false
set_option linter.unusedSimpArgs false
namespace Go.Proofs.Ytbhnfohoclcjdaa
open Go.RowKit Go.Dr Go.Kd
/-- The program's tables, and what they leave alone. -/
def TT : TTy := ⟨116, 126, 5, 47, by decide, by decide, by decide, by decide⟩
abbrev TabP (lo tb : Nat) (w : World) (T : List Tm) : Prop := Tab TT lo tb w T
abbrev FrP (lo : Nat) (w w' : World) : Prop := FrT TT lo w w'
abbrev SllA (w : World) (q : Option Addr) (m c : Nat) (ls : List (List Int)) : Prop := After TT w fun w' => Sll w' q m c ls
/-- What a table tells of a name. -/
def OfRes (T : List Tm) (k : List Int) (w : World) (kind : Int) (q : Option Addr) (m c : Nat) (ok : Bool) : Prop :=
  match ofT T k with
  | none => kind = 0 ∧ q = none ∧ m = 0 ∧ c = 0 ∧ ok = false
  | some t => kind = t.1 ∧ ok = true ∧ SllA w q m c t.2
theorem numB_le (b : Bs) (most : Nat) : numB b most ≤ most := by
  unfold numB
  split
  · omega
  · split
    · omega
    · rename_i h; simp only [not_or] at h; omega
section
variable {w : World}
set_option maxRecDepth 100000 in
set_option maxHeartbeats 2000000 in
theorem of_f {lo tb : Nat} {T : List Tm} {k : List Int} (h : TabP lo tb w T) (hk : k.length = 32) (hb : isBytes k) :
    Calls Try.prog 40 #[.pointer (some ⟨tb, 0, none⟩), .agg (ints .u8 k)] w fun e w' => ∃ (kind : Int) (q : Option Addr) (m c : Nat) (ok : Bool), e = .returned (.tuple #[.int .i64 kind, .slice q m c, .bool ok]) ∧ Fr [] w w' ∧ OfRes T k w' kind q m c ok := by
  have hT := h.len
  have HG4 := Lib.hid h.good
  obtain ⟨w0, mb, p, cap, vs, es, clock, h0, B, h1, h2, h3, h4, h5, h6⟩ := h.ex
  have B : BldV w0 [(tb, .cells #[.slice p T.length cap, .map (some mb)] 116), (mb, .map es clock)] 126 3 w p T.length cap vs := B
  have ft := B.own.nth 0 rfl
  have tt := B.own.lt 0 rfl
  have HB := Lib.hid B
  have H5 := Lib.hid h5
  have H6 := Lib.hid h6
  have HK := Lib.hid hb
  clear B h h4 h5 h6 h3 hb
  obtain ⟨n, hn⟩ : ∃ n, n = T.length := ⟨_, rfl⟩
  rw [← hn] at hT ft HB
  have HN := Lib.hid hn
  clear hn
  obtain ⟨g, hg⟩ : ∃ g, g = numB k n := ⟨_, rfl⟩
  have HG := Lib.hid hg
  clear hg
  go_enter Try.func40, Try.ntmps40
  go_wp2_with fail
  refine OwB.named (Q := fun X => Code.wp _ _ _ _ X) (show OwB w [(w.heap.size, .cells (ints .u8 k) 23)] _ from (OwB.start w).allocN (.cells (ints .u8 k) 23) w.heap.size rfl) ?_
  intro V hV
  have hne0 : w.heap.size ≠ tb := by omega
  have F0 := hV.fr.get ft (by simp)
  generalize w.heap.size = b3 at hV hne0 ⊢
  obtain ⟨L, hL⟩ : ∃ L : List (Nat × Obj), L = [(b3, .cells (ints .u8 k) 23)] := ⟨_, rfl⟩
  rw [← hL] at hV
  have HL := Lib.hid hL
  clear hL
  have hne : Nonempty (OwnW w L) := ⟨⟨_, hV⟩⟩
  have f0 : ∀ x : OwnW w L, x.w.blk b3 = some (.cells (ints .u8 k) 23) := fun x => x.nth HL.out 0 rfl
  have f1 : ∀ x : OwnW w L, x.w.blk tb = some (.cells #[.slice p n cap, .map (some mb)] 116) := fun x => x.h.fr.get ft (by simp)
  have c1 : ∀ x : OwnW w L, Calls Try.prog 62 #[.slice (some ⟨b3, 0, none⟩) 32 32, .int .i64 n] x.w fun e w' => e = .returned (.int .i64 g) ∧ Fr [] x.w w' := fun x => HG.out ▸ number_f (Sl.whole (x.nth HL.out 0 rfl) hk) HK.out (by omega)
  have C1 := Lib.hid c1
  clear c1
  refine wp_region_own (by kernel_rfl) (by kernel_rfl) hV ?_
  repeat (go_big_quiet_step (with_reducible first | exact Calls.own_of (C1.out _)))
  refine wpQuiet_nil ?_
  intro W hw'
  obtain ⟨⟨V9, hV9⟩, rfl⟩ := hw'
  clear f0 f1 hne hV F0
  rename_i W
  have ft2 := hV9.fr.get ft (by simp)
  have tt2 := World.at_lt ft2
  have fb := (HL.out ▸ hV9).nth 0 rfl
  have F := Lib.hid hV9.fr
  have HV := Lib.hid hV9
  clear hV9 C1 ft
  by_cases hg0 : g = 0
  · have d : decide ((g : Int) = 0) = true := by simp [hg0]
    go_wp2_with fail
    have e9 : ofT T k = none := by unfold ofT; rw [← HN.out, ← HG.out, if_pos hg0]
    exact bodyPost_ret (results_tmp3 rfl _ _ _) rfl ⟨0, none, 0, 0, false, rfl, F.out, by rw [OfRes, e9]; exact ⟨rfl, rfl, rfl, rfl, rfl⟩⟩
  · have d : ((g : Int) == 0) = false := by simp [hg0]
    have hgn : g ≤ n := by rw [HG.out]; exact numB_le k n
    obtain ⟨j, hj⟩ : ∃ j, g = j + 1 := ⟨g - 1, by omega⟩
    have w1 : IntKind.i64.wrap ((g : Int) - 1) = (j : Int) := by rw [IntKind.wrap_i64]; omega
    obtain ⟨t, ht⟩ : ∃ t, T[j]? = some t := ⟨T[j]'(by rw [← HN.out]; omega), List.getElem?_eq_getElem _⟩
    have e9 : ofT T k = some t := by unfold ofT; rw [← HN.out, ← HG.out, if_neg hg0, hj]; simpa using ht
    have E9 := Lib.hid e9
    obtain ⟨c0, q, m, c, q2, m2, k2, c1, c2, A⟩ := H6.out j t ht
    obtain ⟨lb, off, cs, TT, fr, rfl, hb, hs, hat⟩ := HB.out.sv.at (j := j) (by omega)
    have hcell : cs.extract (off + j * 3) (off + j * 3 + 3) = #[.int .i64 t.1, .slice q m c, .slice q2 m2 k2] := by
      apply Array.ext_getElem?
      intro i
      rcases Nat.lt_or_ge i 3 with hi | hi
      · rw [Array.getElem?_extract_of_lt (by omega), ← Array.getElem?_eq_getElem, hat i hi]
        rcases (show i = 0 ∨ i = 1 ∨ i = 2 by omega) with rfl | rfl | rfl
        · rw [Nat.mul_comm j 3, Nat.add_zero]; exact c0
        · rw [Nat.mul_comm j 3]; exact c1
        · rw [Nat.mul_comm j 3]; exact c2
      · rw [Array.getElem?_eq_none (by simp only [Array.size_extract]; omega), Array.getElem?_eq_none (by simpa using hi)]
    have fl := F.out.get hb (by simp)
    have HA := Lib.hid A
    have HT := Lib.hid ht
    clear ht A e9 hat hb c0 c1 c2
    have d2 : decide ((j : Int) < (n : Int)) = true := by rw [decide_eq_true_eq]; omega
    have hjn : j < n := by omega
    have HJ := Lib.hid hj
    clear hj
    go_wp2_with fail
    refine OwB.named (Q := fun X => Code.wp _ _ _ _ X) (((OwB.start w).call F.out).allocN (.cells #[.int .i64 t.1, .slice q m c, .slice q2 m2 k2] 126) W.heap.size rfl) ?_
    intro V2 hV2
    generalize W.heap.size = bx at hV2 ⊢
    obtain ⟨L, hL⟩ : ∃ L : List (Nat × Obj), L = [(bx, .cells #[.int .i64 t.1, .slice q m c, .slice q2 m2 k2] 126)] := ⟨_, rfl⟩
    rw [← hL] at hV2
    have HL2 := Lib.hid hL
    clear fl ft2 fb hs hcell hL d2 w1 d tt2
    have HV2 := Lib.hid hV2
    clear hV2
    have hm := HA.out.now.len
    have hgt : goodT t := HG4.out t (List.mem_of_getElem? HT.out)
    have hm64 : m ≤ 64 := by
      have := hgt.1
      simp only [fits, Bool.and_eq_true, decide_eq_true_eq] at this
      omega
    have H9 := Lib.hid (show ∀ l ∈ t.2, l.length ≤ 4096 by
      have := hgt.1
      simp only [fits, Bool.and_eq_true, decide_eq_true_eq, List.all_eq_true] at this
      exact this.2)
    clear hgt
    go_loopw [9, 32] (fun v iv wy => ∃ (i : Nat) (q9 : Option Addr) (c9 : Nat) (us : List Value) (M : List (Nat × Obj)), i ≤ m ∧ iv = .int .i64 (i : Int) ∧ v = .slice q9 i c9 ∧ Hid (BldV w (M ++ L) 47 1 wy q9 i c9 us) ∧ Hid (∀ x ∈ M, ∃ cs fr, x.2 = .cells cs 5 fr) ∧ Hid (∀ w', Has M w' → Sls w' us (t.2.take i))) (fun _ iv _ => (m - intOf iv).toNat)
    case atStart => exact ⟨0, none, 0, [], [], by omega, rfl, rfl, Lib.hid (BldV.nil HV2.out), Lib.hid (by simp), Lib.hid (fun _ _ => .nil)⟩
    case round =>
      obtain ⟨i, q9, c9, us, M, hi9, rfl, rfl, hO, hM, hU⟩ := hrel
      by_cases hlt : i < m
      · have d3 : decide ((i : Int) < (m : Int)) = true := by rw [decide_eq_true_eq]; omega
        obtain ⟨b, off, cs, TT, fr, q3, m3, c3, l3, rfl, f0, hs, hc, hl, S3⟩ := (HA.out wr (.of hO.out.own.fr)).at hlt
        have hc2 := (Array.getElem?_eq_some_iff.1 hc).2
        have HS3 := Lib.hid S3
        have hl2 := Lib.hid hl
        clear S3 hl
        have hBe : Bld wr [] .u8 5 (wr.alloc (.cells #[] 5)) (some ⟨wr.heap.size, 0, none⟩) 0 0 [] := Bld.made (OwB.start wr) 0 (by simp [maxLen])
        have HBe := Lib.hid hBe
        clear hBe
        have HF := Lib.hid (H9.out l3 (List.mem_of_getElem? hl2.out))
        have hm3 : m3 ≤ 4096 := by rw [← HS3.out.len]; exact HF.out
        go_wp2_with (refine wpList_app47 rfl _ _ rfl rfl HBe.out rfl (HS3.out.fr0 HBe.out.own.fr) (by omega) ?_)
        intro q4 c4 W4 hB4
        obtain ⟨M2, hB5, hM2, hK2⟩ := hO.out.join hB4
        have HB5 := Lib.hid hB5
        have HM2 := Lib.hid hM2
        have HK2 := Lib.hid hK2
        clear hB4 hB5 hM2 hK2 HBe f0 hc hc2
        go_wp2_with (refine wpList_app86 rfl _ _ rfl rfl (HB5.out.call ((Fr.refl [] W4).alloc (.cells #[.slice q4 m3 c4] 47))) rfl (Sv.one (v := .slice q4 m3 c4) (T := 47) (fr := (0, 0)) (World.at_alloc_new _ _ _ rfl)) (by simp [Value.oneCell']) (by omega) ?_)
        intro q5 c5 W5 B5
        have HB6 := Lib.hid B5
        clear B5 HB5
        go_wp2_with fail
        go_roundw
        case rel =>
          refine ⟨i + 1, q5, c5, us ++ [.slice q4 m3 c4], M2 ++ M, by omega, by simp, rfl, ?_, ?_, ?_⟩
          · rw [List.append_assoc]; exact HB6
          · refine Lib.hid fun x hx => ?_
            rcases List.mem_append.1 hx with h | h
            · exact HM2.out x h
            · exact hM.out x h
          · refine Lib.hid fun w' hw' => ?_
            have h2 := Has.of_append hw'
            rw [List.take_add_one, hl2.out]
            exact (hU.out w' h2.2).append (.cons (HK2.out w' h2.1) .nil)
        case measure => simp [intOf]; omega
      · obtain rfl : i = m := by omega
        have hd : decide ((i : Int) < (i : Int)) = false := by simp
        have f0 := (HL2.out ▸ hO.out.own).nth M.length (by rw [List.getElem?_append_right (Nat.le_refl _), Nat.sub_self]; rfl)
        have t0 := World.at_lt f0
        go_wp2_with fail
        have hE : OfRes T k wr t.1 q9 i c9 true := by
          rw [OfRes, E9.out]
          refine ⟨rfl, rfl, fun w' G => Sll.of (hO.out.svStay (.inr rfl) G) ?_⟩
          have h1 := hU.out w' ((Has.of_append hO.out.own.has).1.stay (fun x hx => by obtain ⟨cs, fr, h⟩ := hM.out x hx; exact ⟨cs, 5, fr, h, .inl rfl⟩) G)
          rwa [List.take_of_length_le (by omega)] at h1
        exact bodyPost_ret (results_tmp3 rfl _ _ _) rfl ⟨t.1, q9, i, c9, true, rfl, hO.out.own.fr, hE⟩
end
end Go.Proofs.Ytbhnfohoclcjdaa
