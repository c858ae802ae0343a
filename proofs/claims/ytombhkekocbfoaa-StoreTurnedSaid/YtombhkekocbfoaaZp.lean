/- Joined: SoP. -/
import Derived.Test.YtombhkekocbfoaaZn
import Derived.Test.YtombhkekocbfoaaZl
set_option linter.unusedVariables false
set_option linter.unusedSimpArgs false
namespace Go.Proofs.Ytombhkekocbfoaa
open Go.RowKit Go.Dr Go.Kd Go.St
/-- What Open answers. -/
def OpenR (w : World) (d : Nat) (fp : List Nat) (en : Ending) (w' : World) : Int × Option SP × DM → Prop
  | (E, some sp, m') => E = 0 ∧ ∃ s fp', en = .returned (.tuple #[.pointer (some ⟨s, 0, none⟩), .int .i64 0]) ∧ StAt w' s d sp m' fp' ∧ Fr fp w w' ∧ News w fp fp' ∧ w.heap.size ≤ s
  | (E, none, m') => ∃ fp', en = .returned (.tuple #[.pointer none, .int .i64 E]) ∧ DiskAt w' d m' fp' ∧ Fr fp w w' ∧ News w fp fp'
/-- A store, as it lies, whose values lie elsewhere than in these blocks. -/
structure StAv (w : World) (s d : Nat) (sp : SP) (m : DM) (fp av : List Nat) : Prop where
  ex : ∃ mb, w.blk s = some (.cells (stC d (m.n / 2) sp.half sp.epoch sp.count sp.fin mb sp.broken) 75 (0, 0)) ∧ s ∉ fp ∧ DiskAt w d m fp ∧ MapAt w mb sp.L (av ++ fp)
theorem MapAt.frv {w w' : World} {b : Nat} {L : List (Bs × Bs)} {fp fp' av : List Nat} (h : MapAt w b L (av ++ fp)) (F : Fr fp w w') (N : News w fp fp') : MapAt w' b L (av ++ fp') := by
  refine h.fr (F.mono fun k hk _ => List.mem_append_right _ hk) fun k hk => ?_
  rcases List.mem_append.1 hk with h1 | h1
  · exact .inl (List.mem_append_left _ h1)
  · rcases N k h1 with h2 | h2
    · exact .inl (List.mem_append_right _ h2)
    · exact .inr h2
theorem MapAt.sub {w : World} {b : Nat} {L : List (Bs × Bs)} {fp fp' : List Nat} (h : MapAt w b L fp) (hs : ∀ k ∈ fp', k ∈ fp) : MapAt w b L fp' := by
  obtain ⟨hb, kvs, g, hm, hr, hv⟩ := h
  refine ⟨fun hk => hb (hs b hk), kvs, g, hm, hr, fun x hx => ?_⟩
  obtain ⟨q, m, d, h3, h4, h5⟩ := hv x hx
  exact ⟨q, m, d, h3, h4, fun k hk h0 hf => h5 k hk h0 (hs k hf)⟩
theorem StAv.st {w : World} {s d : Nat} {sp : SP} {m : DM} {fp av : List Nat} (T : StAv w s d sp m fp av) : StAt w s d sp m fp := by
  obtain ⟨mb, f0, hs, D, M⟩ := T.ex
  exact ⟨mb, f0, hs, D, M.sub fun k hk => List.mem_append_right _ hk⟩
theorem StAt.av {w : World} {s d : Nat} {sp : SP} {m : DM} {fp : List Nat} (T : StAt w s d sp m fp) : StAv w s d sp m fp [] := by
  obtain ⟨mb, f0, hs, D, M⟩ := T.ex
  exact ⟨mb, f0, hs, D, M⟩
/-- What Open answers; the values lie elsewhere than in these blocks. -/
def OpenV (w : World) (d : Nat) (fp av : List Nat) (en : Ending) (w' : World) : Int × Option SP × DM → Prop
  | (E, some sp, m') => E = 0 ∧ ∃ s fp', en = .returned (.tuple #[.pointer (some ⟨s, 0, none⟩), .int .i64 0]) ∧ StAv w' s d sp m' fp' av ∧ Fr fp w w' ∧ News w fp fp' ∧ w.heap.size ≤ s
  | (E, none, m') => ∃ fp', en = .returned (.tuple #[.pointer none, .int .i64 E]) ∧ DiskAt w' d m' fp' ∧ Fr fp w w' ∧ News w fp fp'
theorem OpenV.st {w w' : World} {d : Nat} {fp av : List Nat} {en : Ending} {o : Int × Option SP × DM} (h : OpenV w d fp av en w' o) : OpenR w d fp en w' o := by
  obtain ⟨E, sp, m'⟩ := o
  cases sp with
  | none => exact h
  | some sp =>
    obtain ⟨h1, s, fp', h2, h3, h4⟩ := h
    exact ⟨h1, s, fp', h2, h3.st, h4⟩
theorem LookR.no {o : Option (Option (Nat × Nat × Nat))} {e c n : Nat} {is : Bool} (h : LookR o e c n is false) : o = none := by
  cases o with
  | none => rfl
  | some x => cases x with
    | none => exact absurd h.2 (by simp)
    | some x => exact absurd h.2.1 (by simp)
theorem LookR.yes {o : Option (Option (Nat × Nat × Nat))} {e c n : Nat} {is : Bool} (h : LookR o e c n is true) : o = some (if is then some (e, c, n) else none) := by
  cases o with
  | none => exact absurd h (by simp [LookR])
  | some x => cases x with
    | none => rw [h.1]; rfl
    | some x => rw [h.1, h.2.2]; rfl
theorem DiskAt.frs {w w' : World} {d s : Nat} {m : DM} {fp : List Nat} (D : DiskAt w d m fp) (hs : s ∉ fp) (F : Fr [s] w w') : DiskAt w' d m fp := by
  obtain ⟨kb, sb, p, cap, D, rfl, ok⟩ := D
  have h : ∀ k ∈ fpOf d kb sb p, k ∉ [s] := fun k hk e => by
    rw [List.mem_singleton] at e
    subst e
    exact hs hk
  exact ⟨kb, sb, p, cap, ⟨F.get D.hd (h _ (by simp [fpOf])), F.get D.hk (h _ (by simp [fpOf])), F.get D.hs (h _ (by simp [fpOf])), F.owns D.hw (fun g hg => h _ (by unfold fpOf; simp only [List.mem_cons, Option.mem_toList]; exact .inr (.inr (.inr (by cases p with | none => cases hg | some a => simpa [Value.ownBlock] using hg))))), D.ne1, D.ne2, D.ne3, D.nw⟩, rfl, ok⟩
section
variable {w : World}
set_option maxRecDepth 100000 in
set_option maxHeartbeats 2000000 in
theorem open_nil : Calls Try.prog 9 #[.pointer none] w fun en w' => en = .returned (.tuple #[.pointer none, .int .i64 1]) ∧ w' = w := by
  go_enter Try.func9, Try.ntmps9
  go_wp2_with fail
  exact bodyPost_ret (results_tmp2 rfl _ _ _) rfl ⟨rfl, rfl⟩
set_option maxRecDepth 100000 in
set_option maxHeartbeats 8000000 in
theorem open_fv {d : Nat} {m : DM} {fp av : List Nat} (D : DiskAt w d m fp) (hav : ∀ k ∈ av, k < w.heap.size) (hN1 : m.n ≤ 1024) (hmb : isBytes m.seen) (hwl : m.waits.length + 1 ≤ 1000000) :
    Calls Try.prog 9 #[.pointer (some ⟨d, 0, none⟩)] w fun en w' => OpenV w d fp av en w' (openM m) := by
  have HD := Lib.hid D
  have HAV := Lib.hid hav
  clear hav
  have HMB := Lib.hid hmb
  have hsl : m.seen.length = 64 * m.n := by obtain ⟨_, _, _, _, _, _, ok⟩ := D; exact ok.sl
  have HSL := Lib.hid hsl
  have HF0 := Lib.hid (Fr.refl fp w)
  have HN0 := Lib.hid (show News w fp fp from fun k hk => .inl hk)
  have HFP := Lib.hid (show ∀ k ∈ fp, k < w.heap.size from fun k hk => DiskAt.lt D k hk)
  clear D hmb hsl
  obtain ⟨RR, hRR⟩ : ∃ RR, RR = openM m := ⟨_, rfl⟩
  rw [← hRR]
  have HR := Lib.hid hRR
  clear hRR
  go_enter Try.func9, Try.ntmps9
  go_wp2_with fail
  refine (blocks_any HD.out).mono ?_
  rintro en w1 ⟨rfl, rfl⟩
  by_cases hn4 : m.n < 4
  · have hd : decide ((m.n : Int) < 4) = true := by rw [decide_eq_true_eq]; omega
    have HR1 := Lib.hid (HR.out.trans (show openM m = (1, none, m) by rw [openM, if_pos hn4]))
    go_wp2_with fail
    refine bodyPost_ret (results_tmp2 rfl _ _ _) rfl ?_
    rw [HR1.out]
    exact ⟨fp, rfl, HD.out, HF0.out, HN0.out⟩
  have hd4 : decide ((m.n : Int) < 4) = false := by rw [decide_eq_false_iff_not]; omega
  go_wp2_with fail
  refine (blocks_any HD.out).mono ?_
  rintro en w1 ⟨rfl, rfl⟩
  obtain ⟨h, hh⟩ : ∃ h, h = m.n / 2 := ⟨_, rfl⟩
  have hq : (m.n : Int).tdiv 2 = (h : Int) := by rw [Int.tdiv_eq_ediv_of_nonneg (by omega)]; omega
  have hh2 : 2 ≤ h := by omega
  have hh3 : 2 * h ≤ m.n := by omega
  have HH := Lib.hid hh
  clear hh
  have hmk : ∀ W : World, (Instr.makeMap 70 none).run Try.prog W = .ok (.map (some W.heap.size)) (W.alloc (.map #[] 0)) := fun W => by simp [Instr.makeMap]
  go_upto_region 6 with (fail)
  have hlow := DiskAt.lt HD.out
  refine OwB.named (Q := fun X => Code.wp _ _ _ _ X) (((((OwB.start w).allocN (.map #[] 0) w.heap.size rfl).allocN (.cells #[.pointer (some ⟨d, 0, none⟩), .int .i64 (h : Int), .int .i64 0, .int .u64 0, .int .u32 0, .int .u32 0, .map (some w.heap.size), .bool false] 75) (w.heap.size + 1) (by simp)).allocN (.cells #[.int .u64 0, .int .u32 0, .int .u32 0, .int .u64 0, .int .u32 0, .int .u32 0] 76) (w.heap.size + 1 + 1) (by simp)).allocN (.cells #[.bool false, .bool false] 77) (w.heap.size + 1 + 1 + 1) (by simp)) ?_
  intro V hV
  obtain ⟨mb, hmb⟩ : ∃ mb, mb = w.heap.size := ⟨_, rfl⟩
  obtain ⟨s, hs⟩ : ∃ s, s = w.heap.size + 1 := ⟨_, rfl⟩
  obtain ⟨bx, hbx⟩ : ∃ bx, bx = w.heap.size + 1 + 1 := ⟨_, rfl⟩
  obtain ⟨bh, hbh⟩ : ∃ bh, bh = w.heap.size + 1 + 1 + 1 := ⟨_, rfl⟩
  rw [← hbh, ← hbx, ← hs, ← hmb] at hV ⊢
  have HLB := Lib.hid (show w.heap.size ≤ mb ∧ w.heap.size ≤ s by omega)
  obtain ⟨SC, hSC⟩ : ∃ SC : Array Value, SC = #[.pointer (some ⟨d, 0, none⟩), .int .i64 (h : Int), .int .i64 0, .int .u64 0, .int .u32 0, .int .u32 0, .map (some mb), .bool false] := ⟨_, rfl⟩
  rw [← hSC] at hV
  have HSC := Lib.hid hSC
  have szC : SC.size = 8 := by rw [hSC]; rfl
  have x1 := Array.getElem?_eq_some_iff.1 (show SC[1]? = some (.int .i64 h) by rw [hSC]; rfl)
  obtain ⟨x1', x1⟩ := x1
  have HV := Lib.hid hV
  have HHL := Lib.hid hlow
  clear hmb hs hbx hbh hSC hlow hq hd4 hmk
  have fs := hV.nth 2 rfl
  have ts := hV.lt 2 rfl
  clear hV
  repeat go_step
  refine wp_loop_rounds 3 ?_
  rw [rounds_succ]
  go_wp2_with fail
  refine (read_any (HD.out.fr0 HV.out.fr) _).mono ?_
  rintro en w2 ⟨v, rfl, hv, F2⟩
  cases hdd : m.dead with
  | true =>
    have hrd : readM m 0 = (150, []) := by
      unfold readM
      rw [show noBlock m 0 = false by simp [noBlock] <;> omega, hdd]
      rfl
    rw [hrd]
    have HR1 := Lib.hid (HR.out.trans (show openM m = (150, none, m) by rw [openM, if_neg hn4, hdd]; try rfl))
    have HF2 := Lib.hid (HV.out.fr.trans F2)
    clear hv hrd F2 hdd fs ts
    go_wp2_with fail
    refine bodyPost_ret (results_tmp2 rfl _ _ _) rfl ?_
    rw [HR1.out]
    exact ⟨fp, rfl, HD.out.fr0 HF2.out, HF2.out.mono (by simp), HN0.out⟩
  | false =>
    have hrd : readM m 0 = (0, blockOf m.seen 0) := by
      unfold readM
      rw [show noBlock m 0 = false by simp [noBlock] <;> omega, hdd]; try rfl
    rw [hrd] at hv ⊢
    have hblk : ∀ k : Nat, k < m.n → (blockOf m.seen k).length = 64 := fun k hk => by
      have := HSL.out
      simp [blockOf]; omega
    have hbyt : ∀ k : Nat, isBytes (blockOf m.seen k) := fun k x hx => HMB.out x (by
      unfold blockOf at hx
      exact List.mem_of_mem_take (List.mem_of_mem_drop hx))
    have hvs : ∀ (W : World) (v : Value) (k lo : Nat), k < m.n → ((v = .slice none 0 0 ∧ ((0 : Int), blockOf m.seen k).2 = []) ∨ ∃ bb, BytesAt W v bb ((0 : Int), blockOf m.seen k).2 ∧ lo ≤ bb) → ∃ q2 c2, v = .slice q2 64 c2 ∧ Sl .u8 W q2 64 c2 (blockOf m.seen k) := by
      intro W v k lo hk hv
      have hbk := hblk k hk
      rcases hv with ⟨_, h⟩ | ⟨bb, B, _⟩
      · have h2 : blockOf m.seen k = [] := h
        rw [h2] at hbk
        cases hbk
      · obtain ⟨q2, c2, h1, h2⟩ := B.sl
        rw [hbk] at h1 h2
        exact ⟨q2, c2, h1, h2⟩
    obtain ⟨q2, c2, rfl, S2⟩ := hvs _ _ _ _ (by omega) hv
    have HVS := Lib.hid hvs
    have HBY := Lib.hid hbyt
    have HS2 := Lib.hid S2
    have HV2 := Lib.hid (HV.out.call F2)
    have fs := HV2.out.nth 2 rfl
    have ts := HV2.out.lt 2 rfl
    have HDD := Lib.hid hdd
    clear hv hrd F2 hdd hblk hvs hbyt S2
    go_wp2_with fail
    refine (look_f HS2.out (HBY.out 0) rfl (by omega)).mono ?_
    rintro en w3 ⟨e0, c0, n0, is0, ok0, rfl, hL0, F3⟩
    cases ok0 with
    | false =>
      have hno := LookR.no hL0
      have HR1 := Lib.hid (HR.out.trans (show openM m = (160, none, m) by rw [openM, if_neg hn4, HDD.out, ← HH.out, hno]; try rfl))
      have HF3 := Lib.hid (fun o => (HV2.out.fr.trans F3).alloc o)
      clear hno hL0 F3 fs ts
      go_wp2_with fail
      refine bodyPost_ret (results_tmp2 rfl _ _ _) rfl ?_
      rw [HR1.out]
      exact ⟨fp, rfl, HD.out.fr0 (HF3.out _), (HF3.out _).mono (by simp), HN0.out⟩
    | true =>
      have HL0 := Lib.hid hL0
      have HV3 := Lib.hid (HV2.out.call F3)
      have fs := HV3.out.nth 2 rfl
      have ts := HV3.out.lt 2 rfl
      have fx := HV3.out.nth 1 rfl
      have tx := HV3.out.lt 1 rfl
      have fh := HV3.out.nth 0 rfl
      have th := HV3.out.lt 0 rfl
      have n1 := HV3.out.ne 0 1 rfl rfl (by decide)
      have n2 := HV3.out.ne 0 2 rfl rfl (by decide)
      have n3 := HV3.out.ne 1 2 rfl rfl (by decide)
      have n1' := n1.symm
      have n2' := n2.symm
      have n3' := n3.symm
      clear hL0 F3
      go_upto_region 16 with (fail)
      obtain ⟨bt, hbt⟩ : ∃ bt, bt = w3.heap.size := ⟨_, rfl⟩
      rw [← hbt]
      refine OwB.named (L := [(bh, .cells #[.bool is0, .bool false] 77), (bx, .cells #[.int .u64 e0, .int .u32 c0, .int .u32 n0, .int .u64 0, .int .u32 0, .int .u32 0] 76), (s, .cells SC 75), (mb, .map #[] 0)]) (Q := fun X => Code.wp _ _ _ _ X) (((HV3.out.set 1 (.cells (spl #[.int .u64 0, .int .u32 0, .int .u32 0, .int .u64 0, .int .u32 0, .int .u32 0] 0 [.int .u64 e0, .int .u32 c0, .int .u32 n0]) 76) rfl).set 0 (.cells #[.bool is0, .bool false] 77) rfl).call ((Fr.refl [] _).alloc _)) ?_
      clear hbt
      intro V4 hV4
      have HV4 := Lib.hid hV4
      clear hV4 fs ts fx tx fh th
      have fs := HV4.out.nth 2 rfl
      have ts := HV4.out.lt 2 rfl
      go_wp2_with fail
      rw [rounds_succ]
      go_wp2_with fail
      refine (read_any (HD.out.fr0 HV4.out.fr) _).mono ?_
      rintro en w5 ⟨v, rfl, hv, F5⟩
      have hrd : readM m (h : Int) = (0, blockOf m.seen h) := by
        unfold readM
        rw [show noBlock m (h : Int) = false by simp [noBlock] <;> omega, HDD.out]
        rfl
      rw [hrd] at hv ⊢
      obtain ⟨q3, c3, rfl, S3⟩ := HVS.out _ _ _ _ (by omega) hv
      have HS3 := Lib.hid S3
      have HV5 := Lib.hid (HV4.out.call F5)
      have fs := HV5.out.nth 2 rfl
      have ts := HV5.out.lt 2 rfl
      clear hv hrd F5 S3
      go_wp2_with fail
      refine (look_f HS3.out (HBY.out h) rfl (by omega)).mono ?_
      rintro en w6 ⟨e1, c1, n1e, is1, ok1, rfl, hL1, F6⟩
      cases ok1 with
      | false =>
        have hno := LookR.no hL1
        have hyes := LookR.yes HL0.out
        have HR1 := Lib.hid (HR.out.trans (show openM m = (160, none, m) by rw [openM, if_neg hn4, HDD.out, ← HH.out, hno, hyes]; cases is0 <;> rfl))
        have HF3 := Lib.hid (fun o => (HV5.out.fr.trans F6).alloc o)
        clear hno hyes hL1 F6 fs ts
        go_wp2_with fail
        refine bodyPost_ret (results_tmp2 rfl _ _ _) rfl ?_
        rw [HR1.out]
        exact ⟨fp, rfl, HD.out.fr0 (HF3.out _), (HF3.out _).mono (by simp), HN0.out⟩
      | true =>
        have HL1 := Lib.hid hL1
        have HV6 := Lib.hid (HV5.out.call F6)
        have fs := HV6.out.nth 2 rfl
        have ts := HV6.out.lt 2 rfl
        have fx := HV6.out.nth 1 rfl
        have tx := HV6.out.lt 1 rfl
        have fh := HV6.out.nth 0 rfl
        have th := HV6.out.lt 0 rfl
        clear hL1 F6
        go_upto_region 16 with (fail)
        obtain ⟨bt, hbt⟩ : ∃ bt, bt = w6.heap.size := ⟨_, rfl⟩
        rw [← hbt]
        refine OwB.named (L := [(bh, .cells #[.bool is0, .bool is1] 77), (bx, .cells #[.int .u64 e0, .int .u32 c0, .int .u32 n0, .int .u64 e1, .int .u32 c1, .int .u32 n1e] 76), (s, .cells SC 75), (mb, .map #[] 0)]) (Q := fun X => Code.wp _ _ _ _ X) (((HV6.out.set 1 (.cells (spl #[.int .u64 e0, .int .u32 c0, .int .u32 n0, .int .u64 0, .int .u32 0, .int .u32 0] 3 [.int .u64 e1, .int .u32 c1, .int .u32 n1e]) 76) rfl).set 0 (.cells #[.bool is0, .bool is1] 77) rfl).call ((Fr.refl [] _).alloc _)) ?_
        clear hbt
        intro V7 hV7
        have HV7 := Lib.hid hV7
        clear hV7 fs ts fx tx fh th
        go_wp2_with fail
        rw [rounds_succ]
        have fs := HV7.out.nth 2 rfl
        have ts := HV7.out.lt 2 rfl
        have fx := HV7.out.nth 1 rfl
        have tx := HV7.out.lt 1 rfl
        have fh := HV7.out.nth 0 rfl
        have th := HV7.out.lt 0 rfl
        have hl0 := LookR.yes HL0.out
        have hl1 := LookR.yes HL1.out
        have hor := HR.out
        rw [openM, if_neg hn4, HDD.out, ← HH.out, hl0, hl1] at hor
        have HRO := Lib.hid hor
        have HL0 := Lib.hid hl0
        have HL1 := Lib.hid hl1
        have x2 := Array.getElem?_eq_some_iff.1 (show SC[2]? = some (.int .i64 0) by rw [HSC.out]; rfl)
        obtain ⟨x2', x2⟩ := x2
        have hsf : s ∉ fp := fun h => by have := HHL.out s h; have := HLB.out.2; omega
        have HSF := Lib.hid hsf
        have HMAP := Lib.hid (show MapAt V7 mb [] (av ++ fp) from ⟨fun h => by
          have h2 := HLB.out.1
          rcases List.mem_append.1 h with h | h
          · have := HAV.out mb h; omega
          · have := HHL.out mb h; omega, [], fun _ => .bool false, ⟨#[], 0, HV7.out.nth 3 rfl, rfl, by simp, by simp⟩, ⟨List.Perm.refl _⟩, by simp⟩)
        clear hor hl0 hl1 hsf
        cases is0 with
        | false =>
          cases is1 with
          | false =>
            have hRR : RR = if (putM m 0 (headB 1 0 1)).1 then (0, some ⟨0, 1, 0, 1, [], false⟩, (putM m 0 (headB 1 0 1)).2) else (150, none, (putM m 0 (headB 1 0 1)).2) := HRO.out
            have HRR := Lib.hid hRR
            go_upto_region 19 with (fail)
            refine named_world (A := fun X => X.blk s = some (.cells (stC d (m.n / 2) 0 1 0 1 mb false) 75 (0, 0)) ∧ MapAt X mb [] (av ++ fp) ∧ DiskAt X d m fp ∧ Fr [] w X) (Q := fun X => Code.wp _ _ _ _ X) ⟨by rw [World.at_put_same _ _ _ ts]; congr 2; rw [HSC.out, ← HH.out]; rfl, HMAP.out.put fs (by rw [HSC.out]; intro u hu x e; subst e; simp at hu), (HD.out.fr0 HV7.out.fr).frs HSF.out ((Fr.refl [s] _).put s _ (fun _ => by simp)), HV7.out.fr.put s _ (fun hl => by have := HLB.out.2; omega)⟩ ?_
            rintro X ⟨fX, MX, DX, FX⟩
            have HFX := Lib.hid FX
            have HDX := Lib.hid DX
            have HMX := Lib.hid MX
            have HFs := Lib.hid fX
            obtain ⟨SX, hSX⟩ : ∃ SX, SX = stC d (m.n / 2) 0 1 0 1 mb false := ⟨_, rfl⟩
            rw [← hSX] at fX
            have szX : SX.size = 8 := by rw [hSX]; rfl
            have hex : SX.extract 3 6 = #[.int .u64 1, .int .u32 0, .int .u32 1] := by rw [hSX]; rfl
            have tX := World.at_lt fX
            clear hRR hSX MX DX FX fs ts fx tx fh th
            go_wp2_with fail
            refine (hbytes_f (e := 1) (c := 0) (n := 1) (by omega) (by omega)).mono ?_
            rintro en w8 ⟨q8, m8, c8, rfl, B8⟩
            obtain rfl : m8 = 64 := by rw [← B8.len, headB_length]
            have HB8 := Lib.hid B8
            have F8 := B8.own.fr
            have HF8 := Lib.hid F8
            clear B8 F8 fX tX hex
            go_wp2_with fail
            have hpf : ∀ g, q8.map (·.block) = some g → g ∉ fp := fun g hg hgf => by
              have := (HB8.out.new g hg).1
              have := HHL.out g hgf
              have := HFX.out.size
              omega
            have hw := write_f (s := s) (d := d) (hs := m.n / 2) (half := 0) (e := 1) (c := 0) (f := 1) (mb := mb) (br := false) (fr := (0, 0)) (m := m) (fp := fp) (h2 := 0) (at_ := 0) (pos := 0) (k := 1) (HF8.out.get HFs.out (by simp)) HSF.out (HDX.out.fr0 HF8.out) HB8.out.sl hpf rfl (by omega) (by omega) (by omega) (by omega) (by omega) (by omega) (by omega)
            rw [show ((0 : Nat) : Int) = 0 from rfl] at hw
            refine hw.mono ?_
            clear hw
            rintro en w9 ⟨E, rfl, hE, fp', D9, F9, N9⟩
            have HD9 := Lib.hid D9
            have hsl9 : s < w8.heap.size := World.at_lt (HF8.out.get HFs.out (by simp))
            have HSL9 := Lib.hid hsl9
            have HF9 := Lib.hid F9
            have HFW := Lib.hid (((HFX.out.trans HF8.out).mono (fp' := fp) (by simp)).seq F9 (fun k hk hl => hk))
            have HNW := Lib.hid (show News w fp fp' from fun k hk => by
              rcases N9 k hk with h | h
              · exact .inl h
              · exact .inr (Nat.le_trans (HFX.out.trans HF8.out).size h))
            have HN9 := Lib.hid N9
            cases hp : (putM m 0 (headB 1 0 1)).1 with
            | false =>
              have HR1 := Lib.hid (HRR.out.trans (if_neg (by rw [hp]; simp)))
              rw [hp] at hE
              obtain rfl : E = 150 := hE
              clear hp D9 F9 N9 hsl9
              go_wp2_with fail
              refine bodyPost_ret (results_tmp2 rfl _ _ _) rfl ?_
              rw [HR1.out]
              exact ⟨fp', rfl, HD9.out, HFW.out, HNW.out⟩
            | true =>
              have HR1 := Lib.hid (HRR.out.trans (if_pos hp))
              rw [hp] at hE
              obtain rfl : E = 0 := hE
              have hnn : (putM m 0 (headB 1 0 1)).2.n = m.n := putM_n (by obtain ⟨_, _, _, _, _, _, ok⟩ := HD.out; exact ok) HDD.out (by rw [headB_length]; omega)
              have HNN := Lib.hid hnn
              clear hp D9 F9 N9 hsl9 hnn
              go_wp2_with fail
              refine bodyPost_ret (results_tmp2 rfl _ _ _) rfl ?_
              rw [HR1.out]
              refine ⟨rfl, s, fp', rfl, ⟨mb, by rw [HNN.out]; exact HF9.out.get (HF8.out.get HFs.out (by simp)) HSF.out, fun h => ?_, HD9.out, (HMX.out.fr0 HF8.out).frv HF9.out HN9.out⟩, HFW.out, HNW.out, HLB.out.2⟩
              rcases HN9.out s h with h1 | h1
              · exact HSF.out h1
              · have := HSL9.out; omega
          | true =>
            go_upto_region 28 with (fail)
            have hlk := HL1.out
            have hok := look_ok (HBY.out _) (by have := HSL.out; simp [blockOf]; omega) hlk
            have hRR : RR = readH m 1 (e1, c1, n1e) := HRO.out
            have HRR := Lib.hid hRR
            have HFV := Lib.hid HV7.out.fr
            have hnw : ∀ k ∈ [s], k < w.heap.size → k ∈ ([] : List Nat) := fun k hk hl => by
              have := HLB.out.2
              rw [List.mem_singleton] at hk
              omega
            have HNW := Lib.hid hnw
            refine named_world (A := fun X => X.blk s = some (.cells (stC d (m.n / 2) 1 e1 c1 n1e mb false) 75 (0, 0)) ∧ MapAt X mb [] (av ++ fp) ∧ DiskAt X d m fp ∧ Fr [] w X) (Q := fun X => Code.wp _ _ _ _ X) ⟨by rw [World.at_put_same _ _ _ ts]; congr 2; rw [HSC.out, ← HH.out]; rfl, HMAP.out.put fs (by rw [HSC.out]; intro u hu x e; subst e; simp at hu), (HD.out.fr0 HV7.out.fr).frs HSF.out ((Fr.refl [s] _).put s _ (fun _ => by simp)), HV7.out.fr.put s _ (fun hl => by have := HLB.out.2; omega)⟩ ?_
            rintro X ⟨fX, MX, DX, FX⟩
            have HFX := Lib.hid FX
            have HDX := Lib.hid DX
            have HMX := Lib.hid MX
            have HFs := Lib.hid fX
            clear hlk hRR hnw fX MX DX FX fs ts fx tx fh th
            go_wp2_with fail
            refine (read_f HFs.out HSF.out HDX.out hN1 HDD.out (by omega) hok.2.2.1 (by rw [← HH.out]; exact hok.2.2.2) HMX.out (fun k hk => Nat.lt_of_lt_of_le ((List.mem_append.1 hk).elim (HAV.out k) (HHL.out k)) HFX.out.size) List.Pairwise.nil (by simp) HMB.out hok.2.1 hok.1).mono ?_
            rintro en W ⟨hread, FW⟩
            have hrd : RR = match readR e1 c1 0 (recsM m 1 n1e) [] with
              | some L => (0, some ⟨1, e1, c1, n1e, L, false⟩, m)
              | none => (160, none, m) := HRR.out
            have HF9 := Lib.hid (HFX.out.seq FW HNW.out)
            have HD9 := Lib.hid (HDX.out.frs HSF.out FW)
            cases hr : readR e1 c1 0 (recsM m 1 n1e) [] with
            | none =>
              rw [hr] at hread hrd
              have HR1 := Lib.hid hrd
              obtain rfl : en = .returned (.bool false) := hread
              clear hr hrd FW hok
              go_wp2_with fail
              refine bodyPost_ret (results_tmp2 rfl _ _ _) rfl ?_
              rw [HR1.out]
              exact ⟨fp, rfl, HD9.out, HF9.out.mono (by simp), HN0.out⟩
            | some L =>
              rw [hr] at hread hrd
              have HR1 := Lib.hid hrd
              obtain ⟨mb', rfl, f9, M9⟩ := hread
              have H9 := Lib.hid f9
              have HM9 := Lib.hid M9
              clear hr hrd f9 M9 FW hok
              go_wp2_with fail
              refine bodyPost_ret (results_tmp2 rfl _ _ _) rfl ?_
              rw [HR1.out]
              exact ⟨rfl, s, fp, rfl, ⟨mb', H9.out, HSF.out, HD9.out, HM9.out⟩, HF9.out.mono (by simp), HN0.out, HLB.out.2⟩
        | true =>
          cases is1 with
          | false =>
            go_upto_region 28 with (fail)
            have hlk := HL0.out
            have hok := look_ok (HBY.out _) (by have := HSL.out; simp [blockOf]; omega) hlk
            have hRR : RR = readH m 0 (e0, c0, n0) := HRO.out
            have HRR := Lib.hid hRR
            have HFV := Lib.hid HV7.out.fr
            have hnw : ∀ k ∈ [s], k < w.heap.size → k ∈ ([] : List Nat) := fun k hk hl => by
              have := HLB.out.2
              rw [List.mem_singleton] at hk
              omega
            have HNW := Lib.hid hnw
            refine named_world (A := fun X => X.blk s = some (.cells (stC d (m.n / 2) 0 e0 c0 n0 mb false) 75 (0, 0)) ∧ MapAt X mb [] (av ++ fp) ∧ DiskAt X d m fp ∧ Fr [] w X) (Q := fun X => Code.wp _ _ _ _ X) ⟨by rw [World.at_put_same _ _ _ ts]; congr 2; rw [HSC.out, ← HH.out]; rfl, HMAP.out.put fs (by rw [HSC.out]; intro u hu x e; subst e; simp at hu), (HD.out.fr0 HV7.out.fr).frs HSF.out ((Fr.refl [s] _).put s _ (fun _ => by simp)), HV7.out.fr.put s _ (fun hl => by have := HLB.out.2; omega)⟩ ?_
            rintro X ⟨fX, MX, DX, FX⟩
            have HFX := Lib.hid FX
            have HDX := Lib.hid DX
            have HMX := Lib.hid MX
            have HFs := Lib.hid fX
            clear hlk hRR hnw fX MX DX FX fs ts fx tx fh th
            go_wp2_with fail
            refine (read_f HFs.out HSF.out HDX.out hN1 HDD.out (by omega) hok.2.2.1 (by rw [← HH.out]; exact hok.2.2.2) HMX.out (fun k hk => Nat.lt_of_lt_of_le ((List.mem_append.1 hk).elim (HAV.out k) (HHL.out k)) HFX.out.size) List.Pairwise.nil (by simp) HMB.out hok.2.1 hok.1).mono ?_
            rintro en W ⟨hread, FW⟩
            have hrd : RR = match readR e0 c0 0 (recsM m 0 n0) [] with
              | some L => (0, some ⟨0, e0, c0, n0, L, false⟩, m)
              | none => (160, none, m) := HRR.out
            have HF9 := Lib.hid (HFX.out.seq FW HNW.out)
            have HD9 := Lib.hid (HDX.out.frs HSF.out FW)
            cases hr : readR e0 c0 0 (recsM m 0 n0) [] with
            | none =>
              rw [hr] at hread hrd
              have HR1 := Lib.hid hrd
              obtain rfl : en = .returned (.bool false) := hread
              clear hr hrd FW hok
              go_wp2_with fail
              refine bodyPost_ret (results_tmp2 rfl _ _ _) rfl ?_
              rw [HR1.out]
              exact ⟨fp, rfl, HD9.out, HF9.out.mono (by simp), HN0.out⟩
            | some L =>
              rw [hr] at hread hrd
              have HR1 := Lib.hid hrd
              obtain ⟨mb', rfl, f9, M9⟩ := hread
              have H9 := Lib.hid f9
              have HM9 := Lib.hid M9
              clear hr hrd f9 M9 FW hok
              go_wp2_with fail
              refine bodyPost_ret (results_tmp2 rfl _ _ _) rfl ?_
              rw [HR1.out]
              exact ⟨rfl, s, fp, rfl, ⟨mb', H9.out, HSF.out, HD9.out, HM9.out⟩, HF9.out.mono (by simp), HN0.out, HLB.out.2⟩
          | true =>
            by_cases hee : e0 = e1
            · subst hee
              have HR1 := Lib.hid (HRO.out.trans (if_pos rfl))
              have HFV := Lib.hid HV7.out.fr
              have hqe : ((e0 : Int) == (e0 : Int)) = true := by simp
              go_wp2_with fail
              refine bodyPost_ret (results_tmp2 rfl _ _ _) rfl ?_
              rw [HR1.out]
              exact ⟨fp, rfl, HD.out.fr0 HFV.out, HFV.out.mono (by simp), HN0.out⟩
            have hqe : ((e0 : Int) == (e1 : Int)) = false := by rw [beq_eq_false_iff_ne]; omega
            by_cases hlt : e0 < e1
            · have dlt : decide ((e0 : Int) < (e1 : Int)) = true := by rw [decide_eq_true_eq]; omega
              go_upto_region 28 with (fail)
              have hlk := HL1.out
              have hok := look_ok (HBY.out _) (by have := HSL.out; simp [blockOf]; omega) hlk
              have hRR : RR = readH m 1 (e1, c1, n1e) := HRO.out.trans ((if_neg hee).trans (if_pos hlt))
              have HRR := Lib.hid hRR
              have HFV := Lib.hid HV7.out.fr
              have hnw : ∀ k ∈ [s], k < w.heap.size → k ∈ ([] : List Nat) := fun k hk hl => by
                have := HLB.out.2
                rw [List.mem_singleton] at hk
                omega
              have HNW := Lib.hid hnw
              refine named_world (A := fun X => X.blk s = some (.cells (stC d (m.n / 2) 1 e1 c1 n1e mb false) 75 (0, 0)) ∧ MapAt X mb [] (av ++ fp) ∧ DiskAt X d m fp ∧ Fr [] w X) (Q := fun X => Code.wp _ _ _ _ X) ⟨by rw [World.at_put_same _ _ _ ts]; congr 2; rw [HSC.out, ← HH.out]; rfl, HMAP.out.put fs (by rw [HSC.out]; intro u hu x e; subst e; simp at hu), (HD.out.fr0 HV7.out.fr).frs HSF.out ((Fr.refl [s] _).put s _ (fun _ => by simp)), HV7.out.fr.put s _ (fun hl => by have := HLB.out.2; omega)⟩ ?_
              rintro X ⟨fX, MX, DX, FX⟩
              have HFX := Lib.hid FX
              have HDX := Lib.hid DX
              have HMX := Lib.hid MX
              have HFs := Lib.hid fX
              clear hlk hRR hnw fX MX DX FX fs ts fx tx fh th
              go_wp2_with fail
              refine (read_f HFs.out HSF.out HDX.out hN1 HDD.out (by omega) hok.2.2.1 (by rw [← HH.out]; exact hok.2.2.2) HMX.out (fun k hk => Nat.lt_of_lt_of_le ((List.mem_append.1 hk).elim (HAV.out k) (HHL.out k)) HFX.out.size) List.Pairwise.nil (by simp) HMB.out hok.2.1 hok.1).mono ?_
              rintro en W ⟨hread, FW⟩
              have hrd : RR = match readR e1 c1 0 (recsM m 1 n1e) [] with
                | some L => (0, some ⟨1, e1, c1, n1e, L, false⟩, m)
                | none => (160, none, m) := HRR.out
              have HF9 := Lib.hid (HFX.out.seq FW HNW.out)
              have HD9 := Lib.hid (HDX.out.frs HSF.out FW)
              cases hr : readR e1 c1 0 (recsM m 1 n1e) [] with
              | none =>
                rw [hr] at hread hrd
                have HR1 := Lib.hid hrd
                obtain rfl : en = .returned (.bool false) := hread
                clear hr hrd FW hok
                go_wp2_with fail
                refine bodyPost_ret (results_tmp2 rfl _ _ _) rfl ?_
                rw [HR1.out]
                exact ⟨fp, rfl, HD9.out, HF9.out.mono (by simp), HN0.out⟩
              | some L =>
                rw [hr] at hread hrd
                have HR1 := Lib.hid hrd
                obtain ⟨mb', rfl, f9, M9⟩ := hread
                have H9 := Lib.hid f9
                have HM9 := Lib.hid M9
                clear hr hrd f9 M9 FW hok
                go_wp2_with fail
                refine bodyPost_ret (results_tmp2 rfl _ _ _) rfl ?_
                rw [HR1.out]
                exact ⟨rfl, s, fp, rfl, ⟨mb', H9.out, HSF.out, HD9.out, HM9.out⟩, HF9.out.mono (by simp), HN0.out, HLB.out.2⟩
            · have dlt : decide ((e0 : Int) < (e1 : Int)) = false := by rw [decide_eq_false_iff_not]; omega
              go_upto_region 28 with (fail)
              have hlk := HL0.out
              have hok := look_ok (HBY.out _) (by have := HSL.out; simp [blockOf]; omega) hlk
              have hRR : RR = readH m 0 (e0, c0, n0) := HRO.out.trans ((if_neg hee).trans (if_neg hlt))
              have HRR := Lib.hid hRR
              have HFV := Lib.hid HV7.out.fr
              have hnw : ∀ k ∈ [s], k < w.heap.size → k ∈ ([] : List Nat) := fun k hk hl => by
                have := HLB.out.2
                rw [List.mem_singleton] at hk
                omega
              have HNW := Lib.hid hnw
              refine named_world (A := fun X => X.blk s = some (.cells (stC d (m.n / 2) 0 e0 c0 n0 mb false) 75 (0, 0)) ∧ MapAt X mb [] (av ++ fp) ∧ DiskAt X d m fp ∧ Fr [] w X) (Q := fun X => Code.wp _ _ _ _ X) ⟨by rw [World.at_put_same _ _ _ ts]; congr 2; rw [HSC.out, ← HH.out]; rfl, HMAP.out.put fs (by rw [HSC.out]; intro u hu x e; subst e; simp at hu), (HD.out.fr0 HV7.out.fr).frs HSF.out ((Fr.refl [s] _).put s _ (fun _ => by simp)), HV7.out.fr.put s _ (fun hl => by have := HLB.out.2; omega)⟩ ?_
              rintro X ⟨fX, MX, DX, FX⟩
              have HFX := Lib.hid FX
              have HDX := Lib.hid DX
              have HMX := Lib.hid MX
              have HFs := Lib.hid fX
              clear hlk hRR hnw fX MX DX FX fs ts fx tx fh th
              go_wp2_with fail
              refine (read_f HFs.out HSF.out HDX.out hN1 HDD.out (by omega) hok.2.2.1 (by rw [← HH.out]; exact hok.2.2.2) HMX.out (fun k hk => Nat.lt_of_lt_of_le ((List.mem_append.1 hk).elim (HAV.out k) (HHL.out k)) HFX.out.size) List.Pairwise.nil (by simp) HMB.out hok.2.1 hok.1).mono ?_
              rintro en W ⟨hread, FW⟩
              have hrd : RR = match readR e0 c0 0 (recsM m 0 n0) [] with
                | some L => (0, some ⟨0, e0, c0, n0, L, false⟩, m)
                | none => (160, none, m) := HRR.out
              have HF9 := Lib.hid (HFX.out.seq FW HNW.out)
              have HD9 := Lib.hid (HDX.out.frs HSF.out FW)
              cases hr : readR e0 c0 0 (recsM m 0 n0) [] with
              | none =>
                rw [hr] at hread hrd
                have HR1 := Lib.hid hrd
                obtain rfl : en = .returned (.bool false) := hread
                clear hr hrd FW hok
                go_wp2_with fail
                refine bodyPost_ret (results_tmp2 rfl _ _ _) rfl ?_
                rw [HR1.out]
                exact ⟨fp, rfl, HD9.out, HF9.out.mono (by simp), HN0.out⟩
              | some L =>
                rw [hr] at hread hrd
                have HR1 := Lib.hid hrd
                obtain ⟨mb', rfl, f9, M9⟩ := hread
                have H9 := Lib.hid f9
                have HM9 := Lib.hid M9
                clear hr hrd f9 M9 FW hok
                go_wp2_with fail
                refine bodyPost_ret (results_tmp2 rfl _ _ _) rfl ?_
                rw [HR1.out]
                exact ⟨rfl, s, fp, rfl, ⟨mb', H9.out, HSF.out, HD9.out, HM9.out⟩, HF9.out.mono (by simp), HN0.out, HLB.out.2⟩
theorem open_f {d : Nat} {m : DM} {fp : List Nat} (D : DiskAt w d m fp) (hN1 : m.n ≤ 1024) (hmb : isBytes m.seen) (hwl : m.waits.length + 1 ≤ 1000000) :
    Calls Try.prog 9 #[.pointer (some ⟨d, 0, none⟩)] w fun en w' => OpenR w d fp en w' (openM m) :=
  (open_fv (av := []) D (fun _ h => by cases h) hN1 hmb hwl).mono fun _ _ h => h.st
end
end Go.Proofs.Ytombhkekocbfoaa
