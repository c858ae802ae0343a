/- Joined: DcA, DcB, DcC, DcD. -/
import Derived.Test.YtbhnfohoclcjdaaGreatZm
set_option linter.unusedVariables false
set_option linter.unusedSimpArgs false
namespace Go
open Go.Dr Go.Kd Go.RowKit
/-- The two cells of a term. -/
def Cell2 (t : TTy) (w : World) (vs : List Value) (i : Nat) (u : Tm) : Prop :=
  vs[2 * i]? = some (.int .i64 u.1) ∧ ∃ (q : Option Addr) (m c : Nat), vs[2 * i + 1]? = some (.slice q m c) ∧ After t w fun w' => Sll w' q m c u.2
structure DTab (t : TTy) (lo tb : Nat) (w : World) (T : List Tm) : Prop where
  ex : ∃ (w0 : World) (p : Option Addr) (cap : Nat) (vs : List Value), w0.heap.size = 0 ∧
    BldV w0 [(tb, .cells #[.slice p T.length cap] t.tT)] t.lT 2 w p T.length cap vs ∧ lo ≤ tb ∧ (∀ g, p.map (·.block) = some g → lo ≤ g) ∧
    (∀ u ∈ vs, u.oneCell' = true) ∧ ∀ i u, T[i]? = some u → Cell2 t w vs i u
  good : ∀ u ∈ T, goodT u
  len : T.length ≤ 65535
section
variable {t t2 : TTy} {lo lo' tb : Nat} {w w' : World} {T : List Tm}
theorem Cell2.step {vs : List Value} {i : Nat} {u : Tm} (h : Cell2 t w vs i u) (F : Stay t w w') : Cell2 t w' vs i u := by
  obtain ⟨a, q, m, c, b, d⟩ := h
  exact ⟨a, q, m, c, b, d.step F⟩
theorem DTab.fr0 (h : DTab t lo tb w T) (F : Fr [] w w') : DTab t lo tb w' T := by
  obtain ⟨w0, p, cap, vs, h0, B, h1, h2, h3, h4⟩ := h.ex
  exact ⟨⟨w0, p, cap, vs, h0, B.call F, h1, h2, h3, fun i u hu => (h4 i u hu).step (.of F)⟩, h.good, h.len⟩
theorem DTab.mono (h : DTab t lo tb w T) (hl : lo' ≤ lo) : DTab t lo' tb w T := by
  obtain ⟨w0, p, cap, vs, h0, B, h1, h2, h3, h4⟩ := h.ex
  exact ⟨⟨w0, p, cap, vs, h0, B, Nat.le_trans hl h1, fun g hg => Nat.le_trans hl (h2 g hg), h3, h4⟩, h.good, h.len⟩
theorem DTab.lower (h : DTab t lo tb w T) : lo ≤ tb := by
  obtain ⟨w0, p, cap, vs, h0, B, h1, _⟩ := h.ex
  exact h1
theorem DTab.lt (h : DTab t lo tb w T) : tb < w.heap.size := by
  obtain ⟨w0, p, cap, vs, h0, B, h1, _⟩ := h.ex
  exact B.own.lt 0 rfl
theorem DTab.new {w0 : World} (h : OwB w0 [(tb, .cells #[.slice none 0 0] t.tT)] w) : DTab t w0.heap.size tb w [] :=
  ⟨⟨w.void, none, 0, [], rfl, BldV.nil (h.weak w.void_fr (Nat.zero_le _)), h.low 0 rfl, (fun g hg => by cases hg), by simp, fun i u hu => by simp at hu⟩, by simp, by simp⟩
/-- Blocks of other types are written. -/
theorem DTab.writ (h : DTab t lo tb w T) {fp : List Nat} (F : Fr fp w w') (hfp : ∀ b ∈ fp, ∃ cs T' fr, w.blk b = some (.cells cs T' fr) ∧ T' ≠ t.bT ∧ T' ≠ t.sT ∧ T' ≠ t.tT ∧ T' ≠ t.lT) : DTab t lo tb w' T := by
  obtain ⟨w0, p, cap, vs, h0, B, k1, k2, k3, k4⟩ := h.ex
  have n1 : tb ∉ fp := fun hm => by
    obtain ⟨cs, T', fr, hb, _, _, h3, _⟩ := hfp tb hm
    have := B.own.nth 0 rfl
    rw [hb] at this
    simp only [Option.some.injEq, Obj.cells.injEq] at this
    exact h3 this.2.1
  have n3 : ∀ g, p.map (·.block) = some g → g ∉ fp := fun g hg hm => by
    obtain ⟨cs, T', fr, hb, _, _, _, h4⟩ := hfp g hm
    obtain ⟨cs2, fr2, hb2⟩ := B.block hg
    rw [hb] at hb2
    simp only [Option.some.injEq, Obj.cells.injEq] at hb2
    exact h4 hb2.2.1
  have hstay : Stay t w w' := fun k cs T2 fr2 h3 h4 => F.get h3 fun hm => by
    obtain ⟨cs', T', fr', hb, h5, h6, _⟩ := hfp k hm
    rw [h3] at hb
    simp only [Option.some.injEq, Obj.cells.injEq] at hb
    rcases h4 with h4 | h4
    · exact h5 (hb.2.1.symm.trans h4)
    · exact h6 (hb.2.1.symm.trans h4)
  refine ⟨⟨w0, p, cap, vs, h0, ⟨⟨fun q hq => ?_, B.own.nd, B.own.lo, B.own.fr.seq F (fun b _ hlt => by omega)⟩, ?_, B.new⟩, k1, k2, k3, fun i u hu => (k4 i u hu).step hstay⟩, h.good, h.len⟩
  · refine F.get (B.own.has q hq) ?_
    simp only [List.mem_singleton] at hq
    subst hq
    exact n1
  · exact F.owns B.row (fun g hg hgb => n3 g (by cases p with | none => cases hg | some q => simpa [Value.ownBlock] using hg) hgb)
/-- A box of the caller's own is written. -/
theorem DTab.put (h : DTab t lo tb w T) {b : Nat} {cs : Array Value} {T' : TypeId} {fr : Nat × Nat} (hb : w.blk b = some (.cells cs T' fr)) (h1 : T' ≠ t.bT ∧ T' ≠ t.sT ∧ T' ≠ t.tT ∧ T' ≠ t.lT) (o : Obj) : DTab t lo tb (w.put b o) T :=
  h.writ ((Fr.refl [b] w).put b o (by simp)) fun x hx => by
    rw [List.mem_singleton] at hx
    subst hx
    exact ⟨cs, T', fr, hb, h1⟩
/-- A row of the caller's own grows. -/
theorem DTab.grown {w0 : World} {L : List (Nat × Obj)} {e sz : Nat} {p : Option Addr} {n c : Nat} {vs : List Value} (h : DTab t lo tb w T) (B : BldV w0 L e sz w p n c vs) (F : Fr (p.map (·.block)).toList w w') (he : e ≠ t.bT ∧ e ≠ t.sT ∧ e ≠ t.tT ∧ e ≠ t.lT) : DTab t lo tb w' T :=
  h.writ F fun b hb => by
    obtain ⟨cs, fr, h1⟩ := B.block (Option.mem_toList.1 hb)
    exact ⟨cs, e, fr, h1, he⟩
/-- Two kinds of tables that have nothing in common but bytes. -/
structure Apart (t t2 : TTy) : Prop where
  a : t.tT ≠ t2.tT ∧ t.tT ≠ t2.lT ∧ t.lT ≠ t2.tT ∧ t.lT ≠ t2.lT
  b : t.bT = t2.bT ∧ t.sT = t2.sT
theorem Stay.cast (h : Stay t2 w w') (ha : Apart t t2) : Stay t w w' := fun k cs T fr h1 h2 => h k cs T fr h1 (by rw [← ha.b.1, ← ha.b.2]; exact h2)
theorem BldV.callA {w0 : World} {L : List (Nat × Obj)} {e sz : Nat} {p : Option Addr} {n cap : Nat} {vs : List Value} (h : BldV w0 L e sz w p n cap vs) (F : FrT t2 lo w w') (hL : ∀ q ∈ L, q.1 < lo ∨ other t2 q.2) (he : e ≠ t2.tT ∧ e ≠ t2.lT) (hl : w0.heap.size ≤ lo) : BldV w0 L e sz w' p n cap vs := by
  obtain ⟨N, hO, hP⟩ := h.park
  refine hP.take (hO.callT F (fun q hq => ?_) hl)
  rcases List.mem_append.1 hq with hq | hq
  · rcases hP with ⟨rfl, _⟩ | ⟨g, r, rfl, _⟩
    · cases hq
    · simp only [List.mem_singleton] at hq
      subst hq
      exact .inr he
  · exact hL q hq
/-- A call that makes terms of the other table. -/
theorem DTab.callT (h : DTab t lo tb w T) (F : FrT t2 lo' w w') (ha : Apart t t2) : DTab t lo tb w' T := by
  obtain ⟨w0, p, cap, vs, h0, B, h1, h2, h3, h4⟩ := h.ex
  refine ⟨⟨w0, p, cap, vs, h0, B.callA F (fun q hq => ?_) ⟨ha.a.2.2.1, ha.a.2.2.2⟩ (by omega), h1, h2, h3, fun i u hu => (h4 i u hu).step (F.stay.cast ha)⟩, h.good, h.len⟩
  simp only [List.mem_singleton] at hq
  subst hq
  exact .inr ⟨ha.a.1, ha.a.2.1⟩
theorem Tab.callD (h : Tab t lo tb w T) (F : FrT t2 lo' w w') (ha : Apart t t2) (hm : t2.mp = false) : Tab t lo tb w' T := by
  obtain ⟨w0, mb, p, cap, vs, es, clock, h0, B, h1, h2, h3, h4, h5, h6⟩ := h.ex
  refine ⟨⟨w0, mb, p, cap, vs, es, clock, h0, B.callA F (fun q hq => ?_) ⟨ha.a.2.2.1, ha.a.2.2.2⟩ (by omega), h1, h2, h3, h4, h5, fun i u hu => ?_⟩, h.good, h.len⟩
  · simp only [List.mem_cons, List.not_mem_nil, or_false] at hq
    rcases hq with rfl | rfl
    · exact .inr ⟨ha.a.1, ha.a.2.1⟩
    · exact .inr hm
  · obtain ⟨a, q, m, c, q2, m2, c2, b, d, e⟩ := h6 i u hu
    exact ⟨a, q, m, c, q2, m2, c2, b, d, e.step (F.stay.cast ha)⟩
/-- Only the table's own blocks, and new ones, have turned. -/
theorem FrT.ofDTab {w0 : World} {L : List (Nat × Obj)} {p : Option Addr} {n cap : Nat} {vs : List Value} {cs : Array Value} (B : BldV w0 L t.lT 2 w p n cap vs) (ht : w.blk tb = some (.cells cs t.tT))
    (h1 : lo ≤ tb) (h3 : ∀ g, p.map (·.block) = some g → lo ≤ g) (F : Fr ((p.map (·.block)).toList ++ [tb]) w w') : FrT t lo w w' := by
  refine FrT.turn F fun b hb => ?_
  simp only [List.mem_append, List.mem_cons, List.not_mem_nil, or_false, Option.mem_toList] at hb
  rcases hb with hb | rfl
  · obtain ⟨cs, fr, h⟩ := B.block hb
    refine ⟨h3 b hb, fun o ho => ?_⟩
    rw [h] at ho
    injection ho with ho
    subst ho
    exact fun hh => hh.2 rfl
  · refine ⟨h1, fun o ho => ?_⟩
    rw [ht] at ho
    injection ho with ho
    subst ho
    exact fun hh => hh.1 rfl
end
end Go
namespace Go.Proofs.YtbhnfohoclcjdaaGreat
open Go.RowKit Go.Dr Go.Kd
/-- The document's table. -/
def DT : TTy := ⟨98, 155, 5, 49, by decide, by decide, by decide, by decide, false⟩
abbrev DTabP (lo tb : Nat) (w : World) (T : List Tm) : Prop := DTab DT lo tb w T
abbrev FrD (lo : Nat) (w w' : World) : Prop := FrT DT lo w w'
theorem apartD : Apart DT TT := ⟨⟨by decide, by decide, by decide, by decide⟩, rfl, rfl⟩
theorem apartT : Apart TT DT := ⟨⟨by decide, by decide, by decide, by decide⟩, rfl, rfl⟩
section
variable {w : World}
set_option maxRecDepth 100000 in
set_option maxHeartbeats 2000000 in
theorem bytes_f {p q : Option Addr} {n c m d : Nat} {A B : List Int} (S : Sl .u8 w p n c A) (R : Sl .u8 w q m d B) (hA : isBytes A) (hB : isBytes B) :
    Calls Tryz.prog 36 #[.slice p n c, .slice q m d] w fun e w' => e = .returned (.bool (decide (A = B))) ∧ Fr [] w w' := by
  have h1 := conv47 S
  have h2 := conv47 R
  obtain ⟨y, hy⟩ : ∃ y, ((strB A).toList == (strB B).toList) = y := ⟨_, rfl⟩
  rw [← beq_str hA hB, hy]
  have HF := Lib.hid (Fr.refl [] w)
  clear S R
  go_enter Tryz.func36, Tryz.ntmps36
  go_wp2_with fail
  exact bodyPost_ret (results_tmp rfl _ _ _) rfl ⟨by simp [hy], HF.out⟩
set_option maxRecDepth 100000 in
set_option maxHeartbeats 2000000 in
theorem lists_f {p q : Option Addr} {n c m d : Nat} {A B : List (List Int)} (S : Sll w p n c A) (R : Sll w q m d B) (hA : ∀ l ∈ A, isBytes l) (hB : ∀ l ∈ B, isBytes l) (hn : n ≤ 1000000) (hm : m ≤ 1000000) :
    Calls Tryz.prog 83 #[.slice p n c, .slice q m d] w fun e w' => e = .returned (.bool (decide (A = B))) ∧ Fr [] w w' := by
  have HS := Lib.hid S
  have HR := Lib.hid R
  have HA := Lib.hid hA
  have HB := Lib.hid hB
  have HNA := Lib.hid S.len
  have HNB := Lib.hid R.len
  have HF := Lib.hid (Fr.refl [] w)
  clear S R hA hB
  obtain ⟨r, hr⟩ : ∃ r, r = decide (A = B) := ⟨_, rfl⟩
  rw [← hr]
  have HRR := Lib.hid hr
  clear hr
  go_enter Tryz.func83, Tryz.ntmps83
  by_cases hnm : n = m
  · subst hnm
    have d1 : ((n : Int) != (n : Int)) = false := by simp
    go_wp2_with fail
    go_loopw [5] (fun iv wy => ∃ i : Nat, i ≤ n ∧ iv = .int .i64 (i : Int) ∧ Hid (A.take i = B.take i) ∧ Hid (Fr [] w wy)) (fun iv _ => (n - intOf iv).toNat)
    case atStart => exact ⟨0, by omega, rfl, Lib.hid rfl, HF⟩
    case round =>
      clear HF
      obtain ⟨i, hi9, rfl, hti, HF⟩ := hrel
      by_cases hlt : i < n
      · have hd : decide ((i : Int) < (n : Int)) = true := by rw [decide_eq_true_eq]; omega
        obtain ⟨b1, o1, cs1, T1, fr1, q1, m1, c1, l1, rfl, f10, hs1, hc1, hl1, S1⟩ := HS.out.at hlt
        obtain ⟨b2, o2, cs2, T2, fr2, q2, m2, c2, l2, rfl, f20, hs2, hc2, hl2, S2⟩ := HR.out.at hlt
        have hc1' := (Array.getElem?_eq_some_iff.1 hc1).2
        have hc2' := (Array.getElem?_eq_some_iff.1 hc2).2
        obtain ⟨y, hy⟩ : ∃ y, y = decide (l1 = l2) := ⟨_, rfl⟩
        have cc : ∀ x : OwnW w [], Calls Tryz.prog 36 #[.slice q1 m1 c1, .slice q2 m2 c2] x.w fun e w' => e = .returned (.bool y) ∧ Fr [] x.w w' := fun x => by
          rw [hy]
          exact bytes_f (S1.fr0 x.h.fr) (S2.fr0 x.h.fr) (HA.out _ (List.mem_of_getElem? hl1)) (HB.out _ (List.mem_of_getElem? hl2))
        have CC := Lib.hid cc
        have hV : OwB w [] wr := (OwB.start w).call HF.out
        have hne : Nonempty (OwnW w []) := ⟨⟨_, hV⟩⟩
        have F1 := Lib.hid f10
        have F2 := Lib.hid f20
        have g1 : ∀ x : OwnW w [], x.w.blk b1 = some (.cells cs1 T1 fr1) := fun x => x.h.fr.get F1.out (by simp)
        have g2 : ∀ x : OwnW w [], x.w.blk b2 = some (.cells cs2 T2 fr2) := fun x => x.h.fr.get F2.out (by simp)
        have t1 : ∀ x : OwnW w [], b1 < x.w.heap.size := fun x => World.at_lt (g1 x)
        have t2 : ∀ x : OwnW w [], b2 < x.w.heap.size := fun x => World.at_lt (g2 x)
        have HY := Lib.hid hy
        have HL1 := Lib.hid hl1
        have HL2 := Lib.hid hl2
        have wi : IntKind.i64.wrap ((i : Int) + 1) = ((i + 1 : Nat) : Int) := by rw [IntKind.wrap_i64]; omega
        clear cc f10 f20 hy hl1 hl2 S1 S2
        go_upto_region 6 with (fail)
        refine wp_region_own (by kernel_rfl) (by kernel_rfl) hV ?_
        repeat (go_big_quiet_step (with_reducible first | exact Calls.own_of (CC.out _)))
        refine wpQuiet_nil ?_
        intro _ hw'
        obtain ⟨⟨V9, hV9⟩, rfl⟩ := hw'
        have HV9 := Lib.hid hV9
        clear hne hV hV9 g1 g2 t1 t2
        cases y
        · have hr0 : r = false := by
            rw [HRR.out, decide_eq_false_iff_not]
            intro e
            have e1 := HL1.out
            rw [e, HL2.out] at e1
            have := HY.out
            simp only [Option.some.injEq] at e1
            rw [e1] at this
            simp at this
          subst hr0
          go_wp2_with fail
          exact bodyPost_ret (results_tmp rfl _ _ _) rfl ⟨rfl, HV9.out.fr⟩
        · go_wp2_with fail
          go_roundw
          case rel =>
            refine ⟨i + 1, by omega, by first | rfl | simp, Lib.hid ?_, Lib.hid HV9.out.fr⟩
            have e : l1 = l2 := of_decide_eq_true HY.out.symm
            rw [List.take_add_one, List.take_add_one, hti.out, HL1.out, HL2.out, e]
          case measure => simp [intOf]; omega
      · obtain rfl : i = n := by omega
        have hd : decide ((i : Int) < (i : Int)) = false := by simp
        have hr1 : r = true := by
          rw [HRR.out, decide_eq_true_eq]
          have h := hti.out
          rwa [List.take_of_length_le (by have := HNA.out; omega), List.take_of_length_le (by have := HNB.out; omega)] at h
        subst hr1
        go_wp2_with fail
        exact bodyPost_ret (results_tmp rfl _ _ _) rfl ⟨rfl, HF.out⟩
  · have d1 : ((n : Int) != (m : Int)) = true := by simp; omega
    have hr0 : r = false := by
      rw [HRR.out, decide_eq_false_iff_not]
      intro e
      apply hnm
      rw [← HNA.out, ← HNB.out, e]
    subst hr0
    go_wp2_with fail
    exact bodyPost_ret (results_tmp rfl _ _ _) rfl ⟨rfl, HF.out⟩
end
end Go.Proofs.YtbhnfohoclcjdaaGreat
namespace Go.Proofs.YtbhnfohoclcjdaaGreat
open Go.RowKit Go.Dr Go.Kd
theorem getB_four (B : List Int) (h : 8 ≤ B.length) (hB : isBytes B) : (getB ((B.drop 4).take 4) : Int) = ((el B 4 * 16777216 + el B 5 * 65536) + el B 6 * 256) + el B 7 := by
  have e : (B.drop 4).take 4 = [el B 4, el B 5, el B 6, el B 7] := by
    apply List.ext_getElem?
    intro i
    rw [List.getElem?_take]
    rcases i with _ | _ | _ | _ | i
    · simp [el, List.getElem?_drop]; rw [List.getElem?_eq_getElem (by omega)]; rfl
    · simp [el, List.getElem?_drop]; rw [List.getElem?_eq_getElem (by omega)]; rfl
    · simp [el, List.getElem?_drop]; rw [List.getElem?_eq_getElem (by omega)]; rfl
    · simp [el, List.getElem?_drop]; rw [List.getElem?_eq_getElem (by omega)]; rfl
    · rw [if_neg (by omega)]; rfl
  rw [e]
  have h4 := el_byte hB (i := 4) (by omega)
  have h5 := el_byte hB (i := 5) (by omega)
  have h6 := el_byte hB (i := 6) (by omega)
  have h7 := el_byte hB (i := 7) (by omega)
  simp only [getB, List.foldl]
  omega
section
variable {w : World}
set_option maxRecDepth 100000 in
set_option maxHeartbeats 2000000 in
theorem dname_f {n : Nat} (hn : n < 4294967296) : Calls Tryz.prog 84 #[.int .i64 n] w fun e w' => e = .returned (.agg (ints .u8 (nameB n))) ∧ Fr [] w w' := by
  go_enter Tryz.func84, Tryz.ntmps84
  go_upto_region 3 with (fail)
  refine named_world (A := fun X => OwB w [(w.heap.size + 1, .cells (ints .u8 ([116, 101, 114, 109] ++ zs 28)) 33), (w.heap.size, .cells (ints .u8 (zs 32)) 33)] X) (Q := fun X => Code.wp _ _ _ _ X) (((OwB.start w).allocN (.cells (ints .u8 (zs 32)) 33) w.heap.size rfl).allocN (.cells (ints .u8 ([116, 101, 114, 109] ++ zs 28)) 33) (w.heap.size + 1) (by simp)) ?_
  intro V hV
  generalize w.heap.size + 1 = bk at hV ⊢
  generalize w.heap.size = br at hV ⊢
  have l4 : (putB n 4).length = 4 := putB_length n 4
  have fk := hV.nth 0 rfl
  have tk := World.at_lt fk
  have HV := Lib.hid hV
  clear hV
  refine drawn_begin 3 (fun w' => w'.blk bk = some (.cells (ints .u8 ([116, 101, 114, 109] ++ zs 28)) 33)) (by kernel_rfl) ?_
  refine drawn_reads (fuel := 2) [0, 1] rfl (by kernel_rfl) fk ?_
  repeat (first | (refine rowK_step2 rfl rfl (fun K hK => ?_); go_wp2) | (refine rowK_step rfl (fun K hK => ?_); go_simp; refine hK _ ?_; clear hK K))
  refine rowK_nil ⟨fun w' e1 => ?_, ?_⟩
  · clear fk tk
    repeat (first | (refine rowWp_step2 rfl rfl (fun K hK => ?_); go_wp2) | (refine rowWp_step rfl (fun K hK => ?_); go_simp; refine hK _ ?_; clear hK K))
    exact rowWp_nil rfl
  refine drawn_next 2 (fuel := 1) rfl (by kernel_rfl) ?_
  intro K hK
  go_wp2_with fail
  refine (rnum_b (n := n) (s := 4) (by omega) (by omega) (by omega)).mono ?_
  rintro e w3 ⟨b, rfl, hb, hs, F⟩
  have hO2 := HV.out.drew.call F
  clear fk tk
  have fk := hO2.nth 0 rfl
  have fr := hO2.nth 1 rfl
  have tk := World.at_lt fk
  have tr := World.at_lt fr
  have tb := World.at_lt hb
  have g1 : b ≠ bk := by have := HV.out.lt 0 rfl; have : V.drew.heap.size = V.heap.size := rfl; omega
  have g2 : bk ≠ b := g1.symm
  have e1 := hO2.ne 0 1 rfl rfl (by decide)
  have e2 := e1.symm
  have HO2 := Lib.hid hO2
  clear F hs hO2
  go_wp2_with fail
  refine ⟨fk, ?_⟩
  refine drawn_end rfl (by kernel_rfl) ?_
  intro K hK
  go_wp2_with fail
  have ev : lay (116 :: 101 :: 114 :: 109 :: zs 28) 4 (putB n 4) = nameB n := by
    unfold lay nameB
    rw [l4]
    rfl
  rw [ev]
  have O3 := (HO2.out.set 0 (.cells (ints .u8 (nameB n)) 33) rfl).set 1 (.cells (ints .u8 (nameB n)) 33) rfl
  have h3 := O3.nth 1 rfl
  refine ret_cell rfl rfl rfl ?_
  refine cellRet_of h3 (aggB_ints (nameB_length n) (by kernel_rfl)) ⟨rfl, O3.fr⟩
set_option maxRecDepth 100000 in
set_option maxHeartbeats 2000000 in
theorem din_f {p : Option Addr} {cap most : Nat} {B : List Int} (S : Sl .u8 w p 32 cap B) (hB : isBytes B) (hm : most < 4294967296) :
    Calls Tryz.prog 131 #[.slice p 32 cap, .int .i64 most] w fun e w' => ∃ q m c, e = .returned (.slice q m c) ∧ Bld w [] .i64 3 w' q m c (if numB B most = 0 then [] else [(numB B most : Int)]) := by
  obtain ⟨R, hR⟩ : ∃ R : List Int, R = if numB B most = 0 then [] else [(numB B most : Int)] := ⟨_, rfl⟩
  rw [← hR]
  have hl := S.len
  obtain ⟨g, hg⟩ : ∃ g, g = getB ((B.drop 4).take 4) := ⟨_, rfl⟩
  have hg4 := getB_four B (by omega) hB
  rw [← hg] at hg4
  have hR2 : R = if 1 ≤ g ∧ g ≤ most ∧ B = nameB g then [(g : Int)] else [] := by
    have e : numB B most = if g < 1 ∨ most < g ∨ B ≠ nameB g then 0 else g := by
      unfold numB
      rw [if_neg (by omega), ← hg, List.take_of_length_le (by omega)]
    rw [hR, e]
    by_cases h1 : g < 1
    · rw [if_pos (Or.inl h1), if_pos rfl, if_neg (by omega)]
    · by_cases h2 : most < g
      · rw [if_pos (Or.inr (Or.inl h2)), if_pos rfl, if_neg (by omega)]
      · by_cases h3 : B = nameB g
        · rw [if_neg (show ¬ (g < 1 ∨ most < g ∨ B ≠ nameB g) by rintro (h | h | h); exact h1 h; exact h2 h; exact h h3), if_neg (show ¬ g = 0 by omega), if_pos ⟨by omega, by omega, h3⟩]
        · rw [if_pos (Or.inr (Or.inr h3)), if_pos rfl, if_neg (fun h => h3 h.2.2)]
  have h4 := el_byte hB (i := 4) (by omega)
  have h5 := el_byte hB (i := 5) (by omega)
  have h6 := el_byte hB (i := 6) (by omega)
  have h7 := el_byte hB (i := 7) (by omega)
  have hgl : g < 4294967296 := by omega
  have HR := Lib.hid hR2
  have HG4 := Lib.hid hg4
  have H4 := Lib.hid h4
  have H5 := Lib.hid h5
  have H6 := Lib.hid h6
  have H7 := Lib.hid h7
  have HB := Lib.hid hB
  have HN := Lib.hid hl
  have hcap := S.cap_
  obtain ⟨b, off, cs, T, fr, rfl, f00, hs4, hc4⟩ := S.at (j := 4) (by omega)
  have same : ∀ j, j < 32 → ∃ h : off + j < cs.size, cs[off + j] = .int .u8 (el B j) := fun j hj => by
    obtain ⟨b', off', cs', T', fr', hp, f', hs', hc'⟩ := S.at (j := j) hj
    simp only [Option.some.injEq, Addr.mk.injEq, and_true] at hp
    obtain ⟨rfl, rfl⟩ := hp
    rw [f00] at f'
    simp only [Option.some.injEq, Obj.cells.injEq] at f'
    obtain ⟨rfl, rfl, rfl⟩ := f'
    exact Array.getElem?_eq_some_iff.1 hc'
  obtain ⟨k4, c4⟩ := same 4 (by omega)
  obtain ⟨k5, c5⟩ := same 5 (by omega)
  obtain ⟨k6, c6⟩ := same 6 (by omega)
  obtain ⟨k7, c7⟩ := same 7 (by omega)
  have HS := Lib.hid S
  have F00 := Lib.hid f00
  have HN0 : Hid (Bld w [] .i64 3 w none 0 0 []) := Lib.hid (Bld.nil (OwB.start w))
  clear S hB hR hR2 hg hg4 h4 h5 h6 h7 hl f00 hs4 hc4 same
  go_enter Tryz.func131, Tryz.ntmps131
  go_upto_region 3 with (fail)
  go_loopw [5, 6] (fun v iv wy => ∃ (i m : Nat) (q : Option Addr) (c : Nat) (l : List Int), iv = .int .i64 (i : Int) ∧ v = .slice q m c ∧ Hid ((i = 0 ∧ m = 0 ∧ l = []) ∨ ((i = 1 ∨ i = 32) ∧ l = R)) ∧ Hid (Bld w [] .i64 3 wy q m c l)) (fun _ iv _ => (100 - intOf iv).toNat)
  case atStart => exact ⟨0, 0, none, 0, [], rfl, rfl, Lib.hid (.inl ⟨rfl, rfl, rfl⟩), HN0⟩
  case round =>
    clear HN0
    obtain ⟨i, m, q, c, l, rfl, rfl, hcase, hO⟩ := hrel
    by_cases hi0 : i = 0
    · subst hi0
      obtain ⟨rfl, rfl⟩ : m = 0 ∧ l = [] := by
        rcases hcase.out with ⟨_, h1, h2⟩ | ⟨h | h, _⟩
        · exact ⟨h1, h2⟩
        · omega
        · omega
      have f0 := hO.out.own.fr.get F00.out (by simp)
      have t0 := World.at_lt f0
      have v4 : IntKind.i64.wrap (el B 4) = el B 4 := by have := H4.out; rw [IntKind.wrap_i64]; omega
      have v5 : IntKind.i64.wrap (el B 5) = el B 5 := by have := H5.out; rw [IntKind.wrap_i64]; omega
      have v6 : IntKind.i64.wrap (el B 6) = el B 6 := by have := H6.out; rw [IntKind.wrap_i64]; omega
      have v7 : IntKind.i64.wrap (el B 7) = el B 7 := by have := H7.out; rw [IntKind.wrap_i64]; omega
      have z4 : IntKind.i64.wrap (el B 4 * 16777216) = el B 4 * 16777216 := by have := H4.out; rw [IntKind.wrap_i64]; omega
      have z5 : IntKind.i64.wrap (el B 5 * 65536) = el B 5 * 65536 := by have := H5.out; rw [IntKind.wrap_i64]; omega
      have z6 : IntKind.i64.wrap (el B 6 * 256) = el B 6 * 256 := by have := H6.out; rw [IntKind.wrap_i64]; omega
      have y5 : IntKind.i64.wrap (el B 4 * 16777216 + el B 5 * 65536) = el B 4 * 16777216 + el B 5 * 65536 := by have := H4.out; have := H5.out; rw [IntKind.wrap_i64]; omega
      have y6 : IntKind.i64.wrap (el B 4 * 16777216 + el B 5 * 65536 + el B 6 * 256) = el B 4 * 16777216 + el B 5 * 65536 + el B 6 * 256 := by have := H4.out; have := H5.out; have := H6.out; rw [IntKind.wrap_i64]; omega
      have y7 : IntKind.i64.wrap (el B 4 * 16777216 + el B 5 * 65536 + el B 6 * 256 + el B 7) = (g : Int) := by have := H4.out; have := H5.out; have := H6.out; have := H7.out; have := HG4.out; rw [IntKind.wrap_i64]; omega
      go_upto_region 4 with (fail)
      refine wp_region_quiet_all (C := fun w' => ∃ _ : Unit, w' = wr.drew) (by kernel_rfl) (by kernel_rfl) ⟨(), rfl⟩ ?_
      repeat (go_big_quiet_step (fail))
      refine wpQuiet_nil ?_
      intro _ hw'
      obtain ⟨_, rfl⟩ := hw'
      clear v4 v5 v6 v7 z4 z5 z6 y5 y6 y7 c4 c5 c6 c7 k4 k5 k6 k7 f0 t0
      go_wp2_with fail
      refine (dname_f hgl).mono ?_
      rintro e W1 ⟨rfl, F1⟩
      have HO1 := Lib.hid ((hO.out.call (Fr.refl [] wr).drew).call F1)
      clear F1
      go_upto_region 6 with (fail)
      refine named_world (A := fun X => Bld w [] .i64 3 X q 0 c [] ∧ X.blk W1.heap.size = some (.cells (ints .u8 (nameB g)) 33)) (Q := fun X => Code.wp _ _ _ _ X) ⟨HO1.out.call ((Fr.refl [] W1).alloc _), World.at_alloc_new _ _ _ rfl⟩ ?_
      rintro W2 ⟨hB2, h8⟩
      generalize W1.heap.size = b8 at h8 ⊢
      have HB2 := Lib.hid hB2
      have ln := nameB_length g
      have H8 := Lib.hid h8
      clear hB2 h8
      obtain ⟨t6, ht6⟩ : ∃ t6 : Bool, t6 = decide (1 ≤ g ∧ g ≤ most ∧ B = nameB g) := ⟨_, rfl⟩
      have HT6 := Lib.hid ht6
      clear ht6
      have w32 : IntKind.i64.wrap (((0 : Nat) : Int) + 32) = 32 := by rw [IntKind.wrap_i64]; omega
      have w33 : IntKind.i64.wrap ((0 : Int) + 32) = 32 := by rw [IntKind.wrap_i64]; omega
      go_cut [46, 47, 48, 49, 50, 51, 52, 53, 54, 55, 56, 57, 58, 59, 60, 61, 62, 63] (fun _ _ _ _ _ _ _ _ _ _ _ _ _ _ _ _ _ v63 wy => v63 = .bool t6 ∧ wy = W2.drew)
      case first =>
        by_cases h1 : 1 ≤ g
        · have d1 : decide ((1 : Int) ≤ (g : Int)) = true := by rw [decide_eq_true_eq]; omega
          have d2 : decide ((g : Int) ≥ 1) = true := by rw [decide_eq_true_eq]; omega
          by_cases h2 : g ≤ most
          · have d3 : decide ((g : Int) ≤ (most : Int)) = true := by rw [decide_eq_true_eq]; omega
            have hb8 := H8.out
            have t8 := World.at_lt hb8
            have hS8 : Sl .u8 W2.drew (some ⟨b8, 0, none⟩) 32 32 (nameB g) := (Sl.whole hb8 ln).fr0 (Fr.refl [] W2).drew
            have hc1 := conv47 (HS.out.fr0 HB2.out.own.fr.drew)
            have hc2 := conv47 hS8
            obtain ⟨y, hy⟩ : ∃ y, ((strB B).toList == (strB (nameB g)).toList) = y := ⟨_, rfl⟩
            have hy2 : y = decide (B = nameB g) := by rw [← hy]; exact beq_str HB.out (byt_nameB g)
            have HY := Lib.hid hy2
            clear hS8 hy2
            refine wp_region_quiet_all (C := fun w' => ∃ _ : Unit, w' = W2.drew) (by kernel_rfl) (by kernel_rfl) ⟨(), rfl⟩ ?_
            repeat (go_big_quiet_step (fail))
            refine wpQuiet_nil ?_
            intro _ hw'
            obtain ⟨_, rfl⟩ := hw'
            clear hb8 t8 hc1 hc2
            go_wp2_with fail
            go_meet
            case rel =>
              refine ⟨?_, rfl⟩
              rw [HT6.out]
              have e : decide (1 ≤ g ∧ g ≤ most ∧ B = nameB g) = y := by rw [HY.out]; by_cases h : B = nameB g <;> simp [h1, h2, h]
              rw [e]
          · have d3 : decide ((g : Int) ≤ (most : Int)) = false := by rw [decide_eq_false_iff_not]; omega
            refine wp_region_quiet_all (C := fun w' => ∃ _ : Unit, w' = W2.drew) (by kernel_rfl) (by kernel_rfl) ⟨(), rfl⟩ ?_
            repeat (go_big_quiet_step (fail))
            refine wpQuiet_nil ?_
            intro _ hw'
            obtain ⟨_, rfl⟩ := hw'
            go_wp2_with fail
            go_meet
            case rel => exact ⟨by rw [HT6.out, decide_eq_false (fun h => h2 h.2.1)], rfl⟩
        · have d1 : decide ((1 : Int) ≤ (g : Int)) = false := by rw [decide_eq_false_iff_not]; omega
          have d2 : decide ((g : Int) ≥ 1) = false := by rw [decide_eq_false_iff_not]; omega
          refine wp_region_quiet_all (C := fun w' => ∃ _ : Unit, w' = W2.drew) (by kernel_rfl) (by kernel_rfl) ⟨(), rfl⟩ ?_
          repeat (go_big_quiet_step (fail))
          refine wpQuiet_nil ?_
          intro _ hw'
          obtain ⟨_, rfl⟩ := hw'
          go_wp2_with fail
          go_meet
          case rel => exact ⟨by rw [HT6.out, decide_eq_false (fun h => h1 h.1)], rfl⟩
      case rest =>
        obtain ⟨rfl, rfl⟩ := hcut
        have w1 : IntKind.i64.wrap (((0 : Nat) : Int) + 1) = 1 := by rw [IntKind.wrap_i64]; omega
        have w11 : IntKind.i64.wrap ((0 : Int) + 1) = 1 := by rw [IntKind.wrap_i64]; omega
        have HB3 := Lib.hid (HB2.out.call (Fr.refl [] W2).drew)
        cases t6 with
        | false =>
          have hr0 : R = [] := by rw [HR.out, if_neg (of_decide_eq_false HT6.out.symm)]
          go_wp2_with fail
          go_roundw
          case rel => exact ⟨1, 0, q, c, [], rfl, rfl, Lib.hid (.inr ⟨.inl rfl, hr0.symm⟩), HB3⟩
          case measure => simp [intOf]
        | true =>
          have hr1 : R = [(g : Int)] := by rw [HR.out, if_pos (of_decide_eq_true HT6.out.symm)]
          have HR1 := Lib.hid hr1
          clear hr1
          go_wp2_with (refine wpList_app127 rfl _ _ rfl rfl (HB3.out.call ((Fr.refl [] _).alloc (.cells #[.int .i64 (g : Int)] 3))) rfl (l2 := [(g : Int)]) (Sl.of (World.at_alloc_new _ _ _ rfl) (by simp) (by simp) (Nat.le_refl 1)) (by omega) ?_)
          intro q3 c3 W3 hB3
          have HB4 := Lib.hid hB3
          clear hB3
          go_wp2_with fail
          go_roundw
          case rel => exact ⟨32, 1, q3, c3, _, rfl, by simp, Lib.hid (.inr ⟨.inr rfl, HR1.out.symm⟩), HB4⟩
          case measure => simp [intOf]
    · have hi : i = 1 ∨ i = 32 := by
        rcases hcase.out with ⟨h, _⟩ | ⟨h, _⟩
        · exact absurd h hi0
        · exact h
      have hl : l = R := by
        rcases hcase.out with ⟨h, _⟩ | ⟨_, h⟩
        · exact absurd h hi0
        · exact h
      subst hl
      have w1 : IntKind.i64.wrap ((32 : Int) - (i : Int)) = 32 - (i : Int) := by rw [IntKind.wrap_i64]; omega
      have d1 : decide ((32 : Int) - (i : Int) ≥ 32) = false := by rw [decide_eq_false_iff_not]; omega
      have d2 : decide ((32 : Int) ≤ (32 : Int) - (i : Int)) = false := d1
      have hO' : Bld w [] .i64 3 wr q m c l := hO.out
      have HO := Lib.hid hO'
      clear hO' hi
      go_wp2_with fail
      exact bodyPost_ret (results_tmp rfl _ _ _) rfl ⟨q, m, c, rfl, HO.out⟩
end
end Go.Proofs.YtbhnfohoclcjdaaGreat
namespace Go.Proofs.YtbhnfohoclcjdaaGreat
open Go.RowKit Go.Dr Go.Kd
abbrev SllD (w : World) (q : Option Addr) (m c : Nat) (ls : List (List Int)) : Prop := After DT w fun w' => Sll w' q m c ls
/-- What the document's table tells of a name. -/
def DOfRes (T : List Tm) (k : List Int) (w : World) (kind : Int) (q : Option Addr) (m c : Nat) (ok : Bool) : Prop :=
  match ofT T k with
  | none => kind = 0 ∧ q = none ∧ m = 0 ∧ c = 0 ∧ ok = false
  | some t => kind = t.1 ∧ ok = true ∧ SllD w q m c t.2
theorem two_cells {l : List Value} {i : Nat} {a b : Value} (h1 : l[2 * i]? = some a) (h2 : l[2 * i + 1]? = some b) : ((l.drop (i * 2)).take 2).toArray = #[a, b] := by
  apply Array.ext'
  apply List.ext_getElem?
  intro j
  rw [List.getElem?_take]
  rcases j with _ | _ | j
  · rw [if_pos (by omega), List.getElem?_drop, show i * 2 + 0 = 2 * i by omega, h1]; rfl
  · rw [if_pos (by omega), List.getElem?_drop, show i * 2 + (0 + 1) = 2 * i + 1 by omega, h2]; rfl
  · rw [if_neg (by omega)]; rfl
section
variable {w : World}
set_option maxRecDepth 100000 in
set_option maxHeartbeats 2000000 in
theorem dof_f {lo tb : Nat} {T : List Tm} {k : List Int} (h : DTabP lo tb w T) (hk : k.length = 32) (hb : isBytes k) :
    Calls Tryz.prog 91 #[.pointer (some ⟨tb, 0, none⟩), .agg (ints .u8 k)] w fun e w' => ∃ (kind : Int) (q : Option Addr) (m c : Nat) (ok : Bool), e = .returned (.tuple #[.agg #[.int .i64 kind, .slice q m c], .bool ok]) ∧ Fr [] w w' ∧ DOfRes T k w' kind q m c ok := by
  obtain ⟨w0, p, cap, vs, h0, B, h1, h2, h3, h4⟩ := h.ex
  obtain ⟨N, hN⟩ : ∃ N, N = T.length := ⟨_, rfl⟩
  have hlen := h.len
  rw [← hN] at B hlen
  have HB := Lib.hid B
  have HC := Lib.hid h4
  have HN := Lib.hid hN
  have HKB := Lib.hid hb
  clear h h0 h1 h2 h3 h4 B hN hb
  have s1 : (ints .u8 k).size = 32 := by rw [size_ints, hk]
  go_enter Tryz.func91, Tryz.ntmps91
  go_upto_region 1 with (fail)
  refine named_world (A := fun X => OwB w [(w.heap.size + 1, .cells #[.int .i64 0, .slice none 0 0] 155), (w.heap.size, .cells (ints .u8 k) 33)] X) (Q := fun X => Code.wp _ _ _ _ X) (((OwB.start w).allocN _ w.heap.size rfl).allocN _ (w.heap.size + 1) (by simp)) ?_
  intro V hV
  generalize w.heap.size + 1 = b4 at hV ⊢
  generalize w.heap.size = b3 at hV ⊢
  have HV := Lib.hid hV
  have fk := hV.nth 1 rfl
  have ft : V.blk tb = some (.cells #[.slice p N cap] 98) := hV.fr.get (HB.out.own.nth 0 rfl) (by simp)
  have tk := World.at_lt fk
  have tt := World.at_lt ft
  clear hV
  refine drawn_begin 6 (fun w' => w'.blk b3 = some (.cells (ints .u8 k) 33) ∧ w'.blk tb = some (.cells #[.slice p N cap] 98)) (by kernel_rfl) ?_
  refine drawn_reads (fuel := 2) [0, 1, 2, 3, 4, 5] rfl (by kernel_rfl) ⟨fk, ft⟩ ?_
  repeat (first | (refine rowK_step2 rfl rfl (fun K hK => ?_); go_wp2) | (refine rowK_step rfl (fun K hK => ?_); go_simp; refine hK _ ?_; clear hK K))
  refine rowK_nil ⟨fun w' e1 => ?_, ?_⟩
  · obtain ⟨e1, e2⟩ := e1
    clear fk ft tk tt
    repeat (first | (refine rowWp_step2 rfl rfl (fun K hK => ?_); go_wp2) | (refine rowWp_step rfl (fun K hK => ?_); go_simp; refine hK _ ?_; clear hK K))
    exact rowWp_nil rfl
  refine drawn_end rfl (by kernel_rfl) ?_
  intro K hK
  go_wp2_with fail
  refine (din_f (most := N) ((Sl.whole fk hk).fr0 (Fr.refl [] V).drew) HKB.out (by omega)).mono ?_
  rintro e W1 ⟨q, m, c, rfl, hB1⟩
  have hO1 := HV.out.drew.call hB1.own.fr
  have HO1 := Lib.hid hO1
  have HB1 := Lib.hid hB1
  clear fk ft tk tt hO1 hB1
  have hm := HB1.out.len
  have hofe : ofT T k = if numB k N = 0 then none else T[numB k N - 1]? := by unfold ofT; rw [← HN.out]
  obtain ⟨u, hu⟩ : ∃ u, u = numB k N := ⟨_, rfl⟩
  have hul : u ≤ N := by rw [hu]; exact numB_le k N
  rw [← hu] at hofe hm
  have HU := Lib.hid hu
  have HOF := Lib.hid hofe
  clear hu hofe
  by_cases hu0 : u = 0
  · rw [if_pos hu0] at hm
    obtain rfl : m = 0 := by simpa using hm.symm
    have HU0 := Lib.hid hu0
    have f4 := HO1.out.nth 0 rfl
    have t4 := World.at_lt f4
    clear hm hu0
    go_wp2_with fail
    refine ret_cell_tmp rfl rfl rfl ?_
    go_simp
    refine ⟨by kernel_rfl, 0, none, 0, 0, ⟨rfl, rfl, rfl, rfl⟩, (HO1.out.set 0 _ rfl).fr, ?_⟩
    rw [DOfRes, HOF.out, if_pos HU0.out]
    exact ⟨rfl, rfl, rfl, rfl, rfl⟩
  · rw [if_neg hu0] at hm
    obtain rfl : m = 1 := by simpa using hm.symm
    have hTl : u - 1 < T.length := by rw [← HN.out]; omega
    obtain ⟨t, ht⟩ : ∃ t, T[u - 1]? = some t := ⟨T[u - 1], List.getElem?_eq_getElem hTl⟩
    have e9 : ofT T k = some t := by rw [HOF.out, if_neg hu0, ht]
    have E9 := Lib.hid e9
    have HT := Lib.hid ht
    obtain ⟨b1, o1, cs1, T1, fr1, rfl, f1, hs1, hc1⟩ := HB1.out.sl.at (j := 0) (by omega)
    have hel : el (if numB k N = 0 then [] else [(numB k N : Int)]) 0 = (u : Int) := by
      rw [← HU.out, if_neg hu0]; rfl
    rw [hel, Nat.add_zero] at hc1
    rw [Nat.add_zero] at hs1
    have hc1' := (Array.getElem?_eq_some_iff.1 hc1).2
    obtain ⟨b2, o2, cs2, T2, fr2, hp2, f2, hs2, hss2, hx2⟩ := HB.out.sv.elem (j := u - 1) (by omega)
    obtain ⟨hk1, q9, m9, c9, hk2, hA⟩ := HC.out (u - 1) t ht
    rw [two_cells hk1 hk2] at hx2
    subst hp2
    have f4 := HO1.out.nth 0 rfl
    have ft : W1.blk tb = some (.cells #[.slice (some ⟨b2, o2, none⟩) N cap] 98) := HO1.out.fr.get (HB.out.own.nth 0 rfl) (by simp)
    have f2' := HO1.out.fr.get f2 (by simp)
    have t1 := World.at_lt f1
    have t4 := World.at_lt f4
    have tt := World.at_lt ft
    have t2 := World.at_lt f2'
    have n41 : b4 ≠ b1 := by
      obtain ⟨g, hg⟩ := HB1.out.row.some_of (by omega)
      have h1 := (HB1.out.new b1 rfl).1
      have h2 := HV.out.lt 0 rfl
      have h3 : V.drew.heap.size = V.heap.size := rfl
      omega
    have n42 : b4 ≠ b2 := by
      have h1 := HV.out.low 0 rfl
      have h2 := World.at_lt f2
      omega
    have n4t : b4 ≠ tb := by
      have h1 := HV.out.low 0 rfl
      have h2 := HB.out.own.lt 0 rfl
      omega
    have n14 := n41.symm
    have n24 := n42.symm
    have nt4 := n4t.symm
    have wu : IntKind.i64.wrap ((u : Int) - 1) = ((u - 1 : Nat) : Int) := by rw [IntKind.wrap_i64]; omega
    have hun : u - 1 < N := by omega
    have hun2 : ((u - 1 : Nat) : Int) < (N : Int) := by omega
    have HAA := Lib.hid hA
    clear hm hu0 hel hk1 hk2 hA f2 ht e9
    generalize u - 1 = v at *
    go_upto_region 4 with (fail)
    refine drawn_begin 10 (fun w' => w'.blk b1 = some (.cells cs1 T1 fr1) ∧ w'.blk tb = some (.cells #[.slice (some ⟨b2, o2, none⟩) N cap] 98) ∧ w'.blk b2 = some (.cells cs2 T2 fr2)) (by kernel_rfl) ?_
    refine drawn_reads (fuel := 2) [0, 1, 2, 3, 4, 5, 6, 7, 8, 9] rfl (by kernel_rfl) ⟨f1, ft, f2'⟩ ?_
    repeat (first | (refine rowK_step2 rfl rfl (fun K hK => ?_); go_wp2) | (refine rowK_step rfl (fun K hK => ?_); go_simp; refine hK _ ?_; clear hK K))
    refine rowK_nil ⟨fun w' e1 => ?_, ?_⟩
    · obtain ⟨e1, e2, e3⟩ := e1
      clear f1 ft f2' t1 tt t2
      repeat (first | (refine rowWp_step2 rfl rfl (fun K hK => ?_); go_wp2) | (refine rowWp_step rfl (fun K hK => ?_); go_simp; refine hK _ ?_; clear hK K))
      exact rowWp_nil rfl
    refine drawn_end rfl (by kernel_rfl) ?_
    intro K hK
    go_wp2_with fail
    refine ret_cell_tmp rfl rfl rfl ?_
    go_simp
    refine ⟨by kernel_rfl, t.1, q9, m9, c9, ⟨rfl, rfl, rfl, rfl⟩, (HO1.out.set 0 _ rfl).drew.fr, ?_⟩
    rw [DOfRes, E9.out]
    exact ⟨rfl, rfl, HAA.out.step (.of (HO1.out.set 0 _ rfl).drew.fr)⟩
end
end Go.Proofs.YtbhnfohoclcjdaaGreat
namespace Go.Proofs.YtbhnfohoclcjdaaGreat
open Go.RowKit Go.Dr Go.Kd
theorem flat_inj : ∀ ps qs : List Bs, ps.length = qs.length → (ps.flatMap fun p => ((p.length / 256 : Nat) : Int) :: ((p.length % 256 : Nat) : Int) :: p) = (qs.flatMap fun p => ((p.length / 256 : Nat) : Int) :: ((p.length % 256 : Nat) : Int) :: p) → ps = qs
  | [], [], _, _ => rfl
  | [], _ :: _, h, _ => by simp at h
  | _ :: _, [], h, _ => by simp at h
  | p :: ps, q :: qs, h, e => by
    simp only [List.flatMap_cons, List.cons_append, List.cons.injEq] at e
    have hl : p.length = q.length := by omega
    obtain ⟨e1, e2⟩ := List.append_inj e.2.2 hl
    rw [e1, flat_inj ps qs (by simpa using h) e2]
theorem txt_inj {s t : Tm} (h : txt s = txt t) : s = t := by
  simp only [txt] at h
  obtain ⟨h1, h2⟩ := List.append_inj' h rfl
  simp only [joinB, List.cons.injEq] at h1
  have h3 := flat_inj s.2 t.2 (by omega) h1.2
  simp only [List.cons.injEq, and_true] at h2
  exact Prod.ext h2 h3
theorem txt_beq (s t : Tm) : (txt s == txt t) = decide (s = t) := by
  by_cases h : s = t
  · rw [h]; simp
  · rw [decide_eq_false h, beq_eq_false_iff_ne]; exact fun e => h (txt_inj e)
theorem info155 : (Tryz.prog.info? 155).map (fun i => (i.zero, i.size, i.bytes)) = some (some (.agg #[.int .i64 0, .slice none 0 0]), 2, 32) := by kernel_rfl
theorem E96 : ElemT Tryz.prog 96 155 2 32 #[.int .i64 0, .slice none 0 0] := ⟨Tryz.underlying96, by kernel_rfl, rfl⟩
@[go_sem] theorem one96 (w : World) (x y : Value) : (buildOneK 96 #[(0, .agg #[x, y])]).run Tryz.prog w = .ok (.slice (some ⟨w.heap.size, 0, none⟩) 1 1) (w.alloc (.cells #[x, y] 155)) :=
  E96.buildOne (by omega) (by omega) w (.agg #[x, y]) rfl
section
variable {w0 w : World} {L : List (Nat × Obj)} {p : Option Addr} {n cap : Nat} {vs : List Value} {ops : Array Oper} {rest : List Oper} {o : Oper} {a : Act} {Q : Exit → Act → World → Prop}
/-- The list of terms: append. -/
theorem wpList_app96 (hgd : o.guard = none) (s x : Operand) (ho : o.op = .call { callee := .builtin .append, args := #[s, x], argTypes := #[96, 96] })
    (hs : a.eval s = .slice p n cap) (B : BldV w0 L 155 2 w p n cap vs) {q : Option Addr} {m c : Nat} {us : List Value} (hx : a.eval x = .slice q m c) (S : Sv 2 w q m c us) (h1 : ∀ u ∈ us, u.oneCell' = true) (hbig : n + m ≤ 1000000)
    (h : ∀ p' cap' w', BldV w0 L 155 2 w' p' (n + m) cap' (vs ++ us) → (∀ g, p'.map (·.block) = some g → p.map (·.block) = some g ∨ w.heap.size ≤ g) → Fr (p.map (·.block)).toList w w' → wpList Tryz.prog ops Q rest (a.put o.dst (.slice p' (n + m) cap')) w') : wpList Tryz.prog ops Q (o :: rest) a w := by
  obtain ⟨i, hi, hz, hs1, hb1⟩ := info_parts info155
  exact wpList_apdV2 hgd s x 96 96 ho Tryz.underlying96 hi hz hs1 (by omega) hb1 rfl hs B hx (Apd.ofSrc Tryz.underlying96 hi hz (by rw [hs1]; exact S.src Tryz.underlying96 h1)) (by omega) (by omega) h
end
section
variable {w : World}
set_option maxRecDepth 100000 in
set_option maxHeartbeats 2000000 in
theorem dmake_f {lo tb : Nat} {T : List Tm} {q : Option Addr} {m c : Nat} {ps : List (List Int)} {kind : Int} (h : DTabP lo tb w T) (S : Sll w q m c ps) (hg : goodT (kind, ps)) :
    Calls Tryz.prog 42 #[.pointer (some ⟨tb, 0, none⟩), .int .i64 kind, .slice q m c] w fun e w' => e = .returned (.tuple #[.agg (ints .u8 (makeT T (kind, ps)).2.1), .bool (makeT T (kind, ps)).2.2]) ∧ DTabP lo tb w' (makeT T (kind, ps)).1 ∧ FrD lo w w' := by
  have hT := h.len
  have HH := Lib.hid h
  have HGT := Lib.hid h.good
  have HG := Lib.hid hg
  obtain ⟨w0, p, cap, vs, h0, B, h1, h3, h5, h6⟩ := h.ex
  replace B : BldV w0 [(tb, .cells #[.slice p T.length cap] 98)] 155 2 w p T.length cap vs := B
  have H3 := Lib.hid h3
  have H5 := Lib.hid h5
  have H6 := Lib.hid h6
  have hk1 := hg.2.2.1
  have hk2 := hg.2.2.2
  have hfit := Lib.hid hg.1
  have HS := Lib.hid S
  have hm64 : m ≤ 64 := by
    have h1 := hg.1
    simp only [fits, Bool.and_eq_true, decide_eq_true_eq] at h1
    rw [← S.len]; exact h1.1
  have H9 : Hid (∀ l ∈ ps, l.length ≤ 4096) := Lib.hid (by
    have h1 := hg.1
    simp only [fits, Bool.and_eq_true, decide_eq_true_eq, List.all_eq_true] at h1
    exact h1.2)
  obtain ⟨n, hn⟩ : ∃ n, n = T.length := ⟨_, rfl⟩
  rw [← hn] at hT B
  have HB := Lib.hid B
  have HN := Lib.hid hn
  clear hn h B h5 h6 h3 S hg
  have dk1 : decide (kind < 1) = false := by rw [decide_eq_false_iff_not]; simp at hk1; omega
  have dk8 : decide (kind > 8) = false := by rw [decide_eq_false_iff_not]; simp at hk2; omega
  have dk8' : decide (8 < kind) = false := dk8
  go_enter Tryz.func42, Tryz.ntmps42
  go_wp2_with fail
  refine named_world (A := fun X => OwB w [(w.heap.size, .cells (ints .u8 (zs 32)) 33)] X) (Q := fun X => Calls _ _ _ X _) ((OwB.start w).allocN _ w.heap.size rfl) ?_
  intro V hV
  generalize w.heap.size = rb at hV ⊢
  refine (rjoin_f (HS.out.fr0 hV.fr) hfit.out).mono ?_
  rintro e V1 ⟨jq, jm, jc, rfl, hJ⟩
  have HV1 := Lib.hid (hV.call hJ.own.fr)
  clear hV hJ
  go_wp2_with fail
  go_loopw [10] (fun iv wy => ∃ i : Nat, i ≤ n ∧ iv = .int .i64 (i : Int) ∧ Hid (∀ j u, j < i → T[j]? = some u → u ≠ (kind, ps)) ∧ Hid (OwB w [(rb, .cells (ints .u8 (zs 32)) 33)] wy)) (fun iv _ => (n - intOf iv).toNat)
  case atStart => exact ⟨0, by omega, rfl, Lib.hid (fun j u hj => by omega), HV1⟩
  case round =>
    clear HV1
    obtain ⟨i, hi9, rfl, hno, hO⟩ := hrel
    have ft : wr.blk tb = some (.cells #[.slice p n cap] 98) := hO.out.fr.get (HB.out.own.nth 0 rfl) (by simp)
    have tt := World.at_lt ft
    by_cases hlt : i < n
    · have hd : decide ((i : Int) < (n : Int)) = true := by rw [decide_eq_true_eq]; omega
      obtain ⟨u, hu⟩ : ∃ u, T[i]? = some u := ⟨T[i]'(by rw [← HN.out]; exact hlt), List.getElem?_eq_getElem _⟩
      obtain ⟨b2, o2, cs2, T2, fr2, hp2, f2, hs2, hss2, hx2⟩ := HB.out.sv.elem (j := i) hlt
      obtain ⟨hc1, q9, m9, c9, hc2, hA⟩ := H6.out i u hu
      rw [two_cells hc1 hc2] at hx2
      have k0 := el_ext (i := 0) hx2 hss2 (by omega)
      have k1 := el_ext (i := 1) hx2 hss2 (by omega)
      rw [Nat.add_zero] at k0
      replace k0 : cs2[o2 + i * 2]? = some (.int .i64 u.1) := k0
      replace k1 : cs2[o2 + i * 2 + 1]? = some (.slice q9 m9 c9) := k1
      obtain ⟨k0a, k0b⟩ := Array.getElem?_eq_some_iff.1 k0
      obtain ⟨k1a, k1b⟩ := Array.getElem?_eq_some_iff.1 k1
      subst hp2
      have f2' := hO.out.fr.get f2 (by simp)
      have t2 := World.at_lt f2'
      have HU := Lib.hid hu
      have hgu := HGT.out u (List.mem_of_getElem? hu)
      have hAl := hA wr (.of hO.out.fr)
      have hm9 : m9 ≤ 64 := by
        have h1 := hgu.1
        simp only [fits, Bool.and_eq_true, decide_eq_true_eq] at h1
        rw [← hAl.len]; exact h1.1
      obtain ⟨y, hy⟩ : ∃ y, y = decide (u.2 = ps) := ⟨_, rfl⟩
      have c83 : Calls Tryz.prog 83 #[.slice q9 m9 c9, .slice q m c] wr fun e w' => e = .returned (.bool y) ∧ Fr [] wr w' := by
        rw [hy]
        exact lists_f hAl (HS.out.fr0 hO.out.fr) hgu.2.1 HG.out.2.1 (by omega) (by omega)
      have C83 := Lib.hid c83
      have HY := Lib.hid hy
      obtain ⟨t, ht⟩ : ∃ t : Bool, t = decide (u = (kind, ps)) := ⟨_, rfl⟩
      have HTT := Lib.hid ht
      have wi : IntKind.i64.wrap ((i : Int) + 1) = ((i + 1 : Nat) : Int) := by rw [IntKind.wrap_i64]; omega
      clear hc1 hc2 hx2 k0 k1 f2 hu hgu hA hAl hy c83 ht
      go_upto_region 7 with (fail)
      go_cut [39, 40, 41, 42, 43, 44, 45, 46, 47, 48, 49, 50, 51, 52, 53, 54, 55, 56, 57, 58, 59, 60] (fun _ _ _ _ _ _ _ _ _ _ _ _ _ _ _ _ _ _ _ _ _ v60 wy => v60 = .bool t ∧ Hid (OwB w [(rb, .cells (ints .u8 (zs 32)) 33)] wy))
      case first =>
        by_cases hk : u.1 = kind
        · have dk : (u.1 == kind) = true := by simp [hk]
          have HK := Lib.hid hk
          clear hk
          go_wp2_with fail
          refine C83.out.mono ?_
          rintro e W1 ⟨rfl, F1⟩
          have HO1 := Lib.hid (hO.out.call F1)
          clear F1
          go_wp2_with fail
          go_meet
          case rel =>
            refine ⟨?_, HO1⟩
            rw [HTT.out, HY.out]
            have e : (u = (kind, ps)) ↔ u.2 = ps := ⟨fun h => by rw [h], fun h => Prod.ext HK.out h⟩
            by_cases h : u.2 = ps <;> simp [e, h]
        · have dk : (u.1 == kind) = false := by simp [hk]
          go_wp2_with fail
          go_meet
          case rel => exact ⟨by rw [HTT.out, decide_eq_false (fun h => hk (by rw [h]))], hO⟩
      case rest =>
        obtain ⟨rfl, hO1⟩ := hcut
        clear ft tt f2' t2
        cases t with
        | false =>
          have hne : u ≠ (kind, ps) := of_decide_eq_false HTT.out.symm
          have HNE := Lib.hid hne
          clear hne
          go_wp2_with fail
          go_roundw
          case rel =>
            refine ⟨i + 1, by omega, by first | rfl | simp, Lib.hid fun j v hj hv => ?_, hO1⟩
            rcases Nat.lt_or_ge j i with h | h
            · exact hno.out j v h hv
            · obtain rfl : j = i := by omega
              rw [HU.out] at hv
              simp only [Option.some.injEq] at hv
              rw [← hv]; exact HNE.out
          case measure => simp [intOf]; omega
        | true =>
          have heq : u = (kind, ps) := of_decide_eq_true HTT.out.symm
          have hfi : T.findIdx? (fun v => txt v == txt (kind, ps)) = some i := by
            rw [List.findIdx?_eq_some_iff_getElem]
            obtain ⟨hil, hiu⟩ := List.getElem?_eq_some_iff.1 HU.out
            refine ⟨hil, by rw [hiu, heq]; simp, fun j hj => ?_⟩
            rw [txt_beq]
            have := hno.out j T[j] hj (List.getElem?_eq_getElem (by omega))
            simp [this]
          have hmk := makeT_old hfit.out hk1 hk2 hfi
          have HMK := Lib.hid hmk
          clear heq hfi hmk
          go_wp2_with fail
          refine (dname_f (n := i + 1) (by omega)).mono ?_
          rintro e W2 ⟨rfl, F2⟩
          have HO2 := Lib.hid (hO1.out.call F2)
          have f0 := HO2.out.nth 0 rfl
          have t0 := World.at_lt f0
          clear F2
          go_wp2_with fail
          refine ret_cell_tmp rfl rfl rfl ?_
          go_simp
          have hlay : lay (zs 32) 0 (nameB (i + 1)) = nameB (i + 1) := by simp [lay, zs, nameB_length]
          rw [hlay, HMK.out]
          have hF := (HO2.out.set 0 (.cells (ints .u8 (nameB (i + 1))) 33) rfl).fr
          exact ⟨by kernel_rfl, ⟨rfl, rfl⟩, HH.out.fr0 hF, .of hF⟩
    · obtain rfl : i = n := by omega
      have hd : decide ((i : Int) < (i : Int)) = false := by simp
      have hfi : T.findIdx? (fun v => txt v == txt (kind, ps)) = none := by
        rw [List.findIdx?_eq_none_iff]
        intro v hv
        obtain ⟨j, hj, rfl⟩ := List.getElem_of_mem hv
        rw [txt_beq]
        have := hno.out j T[j] (by rw [HN.out]; exact hj) (List.getElem?_eq_getElem hj)
        simp [this]
      have HFI := Lib.hid hfi
      clear hfi
      by_cases hfull : 65535 ≤ i
      · have d1 : decide ((65535 : Int) ≤ (i : Int)) = true := by rw [decide_eq_true_eq]; omega
        have d2 : decide ((i : Int) ≥ 65535) = true := d1
        have hmk := makeT_full hfit.out hk1 hk2 HFI.out (by rw [← HN.out]; exact hfull)
        have HMK := Lib.hid hmk
        have f0 := hO.out.nth 0 rfl
        have t0 := World.at_lt f0
        clear hmk
        go_wp2_with fail
        refine ret_cell_tmp rfl rfl rfl ?_
        go_simp
        rw [HMK.out]
        have hF := (hO.out.set 0 (.cells #[.int .u8 0, .int .u8 0, .int .u8 0, .int .u8 0, .int .u8 0, .int .u8 0, .int .u8 0, .int .u8 0, .int .u8 0, .int .u8 0, .int .u8 0, .int .u8 0, .int .u8 0, .int .u8 0, .int .u8 0, .int .u8 0, .int .u8 0, .int .u8 0, .int .u8 0, .int .u8 0, .int .u8 0, .int .u8 0, .int .u8 0, .int .u8 0, .int .u8 0, .int .u8 0, .int .u8 0, .int .u8 0, .int .u8 0, .int .u8 0, .int .u8 0, .int .u8 0] 33) rfl).fr
        exact ⟨by kernel_rfl, ⟨rfl, rfl⟩, HH.out.fr0 hF, .of hF⟩
      · have d1 : decide ((65535 : Int) ≤ (i : Int)) = false := by rw [decide_eq_false_iff_not]; omega
        have d2 : decide ((i : Int) ≥ 65535) = false := d1
        have hmk := makeT_more hfit.out hk1 hk2 HFI.out (by rw [← HN.out]; omega)
        rw [← HN.out] at hmk
        have HMK := Lib.hid hmk
        have HO0 : Hid (BldV w ([] ++ [(rb, .cells (ints .u8 (zs 32)) 33)]) 49 1 wr none 0 0 []) := Lib.hid (BldV.nil hO.out)
        clear hmk
        go_upto_region 13 with (fail)
        clear ft tt hO
        go_loopw [11, 12] (fun v iv wy => ∃ (j : Nat) (q9 : Option Addr) (c9 : Nat) (us : List Value) (M : List (Nat × Obj)), j ≤ m ∧ iv = .int .i64 (j : Int) ∧ v = .slice q9 j c9 ∧ Hid (BldV w (M ++ [(rb, .cells (ints .u8 (zs 32)) 33)]) 49 1 wy q9 j c9 us) ∧ Hid (∀ x ∈ M, ∃ cs fr, x.2 = .cells cs 5 fr) ∧ Hid (∀ w', Has M w' → Sls w' us (ps.take j))) (fun _ iv _ => (m - intOf iv).toNat)
        case atStart => exact ⟨0, none, 0, [], [], by omega, rfl, rfl, HO0, Lib.hid (by simp), Lib.hid (fun _ _ => .nil)⟩
        case round =>
          clear HO0
          obtain ⟨j, q9, c9, us, M, hj9, rfl, rfl, hO, hM, hU⟩ := hrel
          by_cases hlt : j < m
          · have d3 : decide ((j : Int) < (m : Int)) = true := by rw [decide_eq_true_eq]; omega
            obtain ⟨b, off, cs, T3, fr, q3, m3, c3, l3, rfl, f0, hs, hc, hl, S3⟩ := (HS.out.fr0 hO.out.own.fr).at hlt
            have hc2 := (Array.getElem?_eq_some_iff.1 hc).2
            have HS3 := Lib.hid S3
            have hl2 := Lib.hid hl
            have t0 := World.at_lt f0
            clear S3 hl
            have HNil : Hid (Bld wr [] .u8 5 wr none 0 0 []) := Lib.hid (Bld.nil (OwB.start wr))
            have HF := Lib.hid (H9.out l3 (List.mem_of_getElem? hl2.out))
            have hm3 : m3 ≤ 4096 := by rw [← HS3.out.len]; exact HF.out
            have wj : IntKind.i64.wrap ((j : Int) + 1) = ((j + 1 : Nat) : Int) := by rw [IntKind.wrap_i64]; omega
            go_upto_region 16 with (fail)
            go_wp2_with (refine wpList_app47 rfl _ _ rfl rfl HNil.out rfl HS3.out (by omega) ?_)
            intro q4 c4 W4 hB4
            obtain ⟨M2, hB5, hM2, hK2⟩ := hO.out.join hB4
            have HB5 := Lib.hid hB5
            have HM2 := Lib.hid hM2
            have HK2 := Lib.hid hK2
            clear hB4 hB5 hM2 hK2 HNil f0 t0 hc hc2
            go_wp2_with (refine wpList_app86 rfl _ _ rfl rfl (HB5.out.call ((Fr.refl [] W4).alloc (.cells #[.slice q4 m3 c4] 49))) rfl (Sv.one (v := .slice q4 m3 c4) (T := 49) (fr := (0, 0)) (World.at_alloc_new _ _ _ rfl)) (by simp [Value.oneCell']) (by omega) ?_)
            intro q5 c5 W5 B5
            have HB6 := Lib.hid B5
            clear B5 HB5
            go_wp2_with fail
            go_roundw
            case rel =>
              refine ⟨j + 1, q5, c5, us ++ [.slice q4 m3 c4], M2 ++ M, by omega, by first | rfl | simp, rfl, ?_, ?_, ?_⟩
              · rw [List.append_assoc]; exact HB6
              · refine Lib.hid fun x hx => ?_
                rcases List.mem_append.1 hx with h | h
                · exact HM2.out x h
                · exact hM.out x h
              · refine Lib.hid fun w' hw' => ?_
                have h2 := Has.of_append hw'
                rw [List.take_add_one, hl2.out]
                exact (hU.out w' h2.2).append (.cons (HK2.out w' h2.1) .nil)
            case measure => simp [intOf]; omega
          · obtain rfl : j = m := by omega
            have hd : decide ((j : Int) < (j : Int)) = false := by simp
            obtain ⟨N9, hO9, hP9⟩ := hO.out.park
            have HON := Lib.hid hO9
            have HP9 := Lib.hid hP9
            have ft : wr.blk tb = some (.cells #[.slice p i cap] 98) := hO9.fr.get (HB.out.own.nth 0 rfl) (by simp)
            have tt := World.at_lt ft
            obtain ⟨New, hNew⟩ : ∃ New, New = N9 ++ (M ++ [(rb, .cells (ints .u8 (zs 32)) 33)]) := ⟨_, rfl⟩
            rw [← hNew] at HON
            have HNew := Lib.hid hNew
            clear hO9 hP9 hO hNew
            go_upto_region 17 with (fail)
            go_wp2_with (refine wpList_app96 rfl _ _ rfl rfl ((HB.out.merge HON.out).call ((Fr.refl [] wr).alloc (.cells #[.int .i64 kind, .slice q9 j c9] 155))) rfl (us := [.int .i64 kind, .slice q9 j c9]) ⟨rfl, Nat.le_refl 1, .inr ⟨wr.heap.size, 0, _, _, (0, 0), rfl, World.at_alloc_new _ _ _ rfl, by simp, by simp⟩, by simp, fun a ha => ⟨_, _, (by simpa using ha.symm)⟩⟩ (by simp [Value.oneCell']) (by omega) ?_)
            intro p5 c5 W5 B5 hp5 F5
            obtain ⟨n1, hn1⟩ : ∃ n1, n1 = i + 1 := ⟨_, rfl⟩
            rw [← hn1] at B5 ⊢
            have HN1 := Lib.hid hn1
            have hn1b : n1 ≤ 65535 := by omega
            clear hn1
            have ftb := HB.out.own.nth 0 rfl
            have FP : Fr ((p.map (·.block)).toList ++ [tb]) w W5 := (HON.out.fr.mono (fp' := (p.map (·.block)).toList ++ [tb]) (by simp)).seq (((Fr.refl ((p.map (·.block)).toList) wr).alloc _).seq F5 (fun k hk _ => hk)) (fun k hk _ => List.mem_append_left _ hk)
            have h3' : ∀ g, p5.map (·.block) = some g → lo ≤ g := fun g hg => by
              obtain ⟨ga, hga, rfl⟩ := Option.map_eq_some_iff.1 hg
              rcases hp5 ga hga with ⟨a2, h, h'⟩ | h
              · exact H3.out _ (by rw [h, ← h']; rfl)
              · have h8 := HON.out.fr.size
                have h9 := World.at_lt ftb
                omega
            have H3' := Lib.hid h3'
            have HFP := Lib.hid FP
            clear ft tt ftb h3' FP F5 hp5
            have ft := B5.own.mem (b := tb) (o := .cells #[.slice p i cap] 98) (by simp)
            have tt := World.at_lt ft
            have HB5 := Lib.hid B5
            clear B5
            go_upto_region 18 with (fail)
            refine named_world (A := fun X => BldV w0 (New ++ [(tb, .cells #[.slice p5 n1 c5] 98)]) 155 2 X p5 n1 c5 (vs ++ [.int .i64 kind, .slice q9 j c9]) ∧ Fr ((p.map (·.block)).toList ++ [tb]) w X) (Q := fun X => Code.wp _ _ _ _ X) ⟨HB5.out.set_mid _, HFP.out.put _ _ (fun _ => by simp)⟩ ?_
            rintro V9 ⟨hB9, hF9⟩
            have HB9 := Lib.hid hB9
            have HF9 := Lib.hid hF9
            clear hB9 hF9 HB5 HFP ft tt
            have ft := HB9.out.own.mem (b := tb) (o := .cells #[.slice p5 n1 c5] 98) (by simp)
            have tt := World.at_lt ft
            go_wp2_with fail
            refine (dname_f (n := n1) (by omega)).mono ?_
            rintro e W11 ⟨rfl, F11⟩
            have HB11 := Lib.hid (HB9.out.call F11)
            have HF11 := Lib.hid (HF9.out.seq F11 (by simp))
            clear F11 HB9 HF9 ft tt
            have fr := HB11.out.own.mem (b := rb) (o := .cells (ints .u8 (zs 32)) 33) (List.mem_append_left _ (by rw [HNew.out]; simp))
            have tr := World.at_lt fr
            have hrb : w.heap.size ≤ rb := HON.out.lo (rb, .cells (ints .u8 (zs 32)) 33) (by rw [HNew.out]; simp)
            go_wp2_with fail
            refine ret_cell_tmp rfl rfl rfl ?_
            go_simp
            have hlay : lay (zs 32) 0 (nameB n1) = nameB n1 := by simp [lay, zs, nameB_length]
            rw [hlay, HMK.out, ← HN1.out]
            have hFE := HF11.out.put rb (.cells (ints .u8 (nameB n1)) 33) (fun hb => by omega)
            have B12 : BldV w0 ((N9 ++ M) ++ (rb, .cells (ints .u8 (nameB n1)) 33) :: [(tb, .cells #[.slice p5 n1 c5] 98)]) 155 2 (W11.put rb (.cells (ints .u8 (nameB n1)) 33)) p5 n1 c5 (vs ++ [.int .i64 kind, .slice q9 j c9]) := by
              have h := HB11.out
              rw [HNew.out, show (N9 ++ (M ++ [(rb, Obj.cells (ints .u8 (zs 32)) 33)])) ++ [(tb, Obj.cells #[.slice p5 n1 c5] 98)] = (N9 ++ M) ++ (rb, .cells (ints .u8 (zs 32)) 33) :: [(tb, .cells #[.slice p5 n1 c5] 98)] by simp] at h
              exact h.set_mid _
            have hlen := HB.out.len
            have FT : FrT DT lo w (W11.put rb (.cells (ints .u8 (nameB n1)) 33)) := FrT.ofDTab (t := DT) HB.out (HB.out.own.nth 0 rfl) h1 H3.out hFE
            refine ⟨by kernel_rfl, ⟨rfl, rfl⟩, ⟨⟨w0, p5, c5, vs ++ [.int .i64 kind, .slice q9 j c9], h0, ?_, h1, H3'.out, ?_, ?_⟩, ?_, ?_⟩, FT⟩
            · have e : (T ++ [(kind, ps)]).length = n1 := by rw [List.length_append, ← HN.out, HN1.out]; rfl
              rw [e]
              exact B12.sub ((List.sublist_cons_self _ _).trans (List.sublist_append_right _ _))
            · intro u hu
              simp only [List.mem_append, List.mem_cons, List.not_mem_nil, or_false] at hu
              rcases hu with hu | rfl | rfl
              · exact H5.out u hu
              · rfl
              · rfl
            · intro v u hu
              rcases Nat.lt_or_ge v i with hv | hv
              · rw [List.getElem?_append_left (by rw [← HN.out]; exact hv)] at hu
                obtain ⟨a, q, m, c, b, e⟩ := H6.out v u hu
                exact ⟨by rw [List.getElem?_append_left (by omega)]; exact a, q, m, c, by rw [List.getElem?_append_left (by omega)]; exact b, e.step FT.stay⟩
              · rw [List.getElem?_append_right (by rw [← HN.out]; exact hv), ← HN.out] at hu
                obtain rfl : v = i := by
                  have := (List.getElem?_eq_some_iff.1 hu).1
                  simp at this
                  omega
                rw [Nat.sub_self] at hu
                simp only [List.getElem?_cons_zero, Option.some.injEq] at hu
                subst hu
                have hw := B12.own
                rw [List.append_assoc] at hw
                refine ⟨by rw [List.getElem?_append_right (by omega), show 2 * v - vs.length = 0 by omega]; rfl, q9, j, c9, by rw [List.getElem?_append_right (by omega), show 2 * v + 1 - vs.length = 1 by omega]; rfl, fun w' G => ?_⟩
                have hS := hU.out w' (Has.stay (fun x hx => hw.has x (by simp [hx])) (fun x hx => by obtain ⟨cs, fr, h⟩ := hM.out x hx; exact ⟨cs, 5, fr, h, .inl rfl⟩) G)
                rw [List.take_of_length_le (by have := HS.out.len; omega)] at hS
                exact Sll.of ((HP9.out.take hw).svStay (.inr rfl) G) hS
            · intro u hu
              rcases List.mem_append.1 hu with hu | hu
              · exact HGT.out u hu
              · rw [List.mem_singleton] at hu
                subst hu
                exact HG.out
            · rw [List.length_append, ← HN.out]; simp; have := HN1.out; omega
end
end Go.Proofs.YtbhnfohoclcjdaaGreat
