/- Joined: KeM, DcA, DcB, DcC. -/
import Derived.Test.YtbhnfohoclcjdaaGreatZn
set_option linter.unusedVariables false
set_option linter.unusedSimpArgs false
namespace Go.Proofs.YtbhnfohoclcjdaaGreat
open Go.RowKit Go.Dr Go.Kd
/-- A row of bundles that a callee has made. -/
def New59 (w w' : World) (q : Option Addr) : Prop := ∀ x, q.map (·.block) = some x → w.heap.size ≤ x ∧ ∃ cs fr, w'.blk x = some (.cells cs 65 fr)
/-- What reads as it does as long as some blocks stand. -/
def Kept (p : Option Addr) (n c : Nat) (vs : List Value) (M : List (Nat × Obj)) : Prop := (∀ x ∈ M, ∃ cs fr, x.2 = .cells cs 65 fr) ∧ ∀ w', Has M w' → Lf w' p n c vs
theorem Kept.nil : Kept none 0 0 [] [] := ⟨by simp, fun w' _ => .inl ⟨rfl, rfl, rfl, rfl⟩⟩
section
variable {w0 w w' : World} {L : List (Nat × Obj)} {p : Option Addr} {n c : Nat} {vs : List Value}
theorem Sv.zero {sz : Nat} (S : Sv sz w p 0 c vs) (w' : World) : Sv sz w' p 0 c vs := ⟨S.len, S.cap_, .inl rfl, S.nil, S.mid⟩
theorem Lf.zero (h : Lf w p 0 c vs) (w' : World) : Lf w' p 0 c vs := h.imp id fun ⟨a, h1, S⟩ => ⟨a, h1, Sv.zero S w'⟩
theorem Lf.keep (h : Lf w' p n c vs) (hn : New59 w w' p) (hO : OwB w0 L w) (F : Fr [] w w') : ∃ M, OwB w0 (M ++ L) w' ∧ Kept p n c vs M := by
  rcases h with ⟨rfl, rfl, rfl, rfl⟩ | ⟨a, rfl, S⟩
  · exact ⟨[], hO.call F, Kept.nil⟩
  · rcases Nat.eq_zero_or_pos n with rfl | h0
    · exact ⟨[], hO.call F, by simp, fun w2 _ => .inr ⟨a, rfl, Sv.zero S w2⟩⟩
    · rcases S.row with h1 | ⟨b, off, cs, T, fr, hp, hb, hs, hx⟩
      · omega
      · obtain ⟨h2, cs2, fr2, h3⟩ := hn b (by rw [hp]; rfl)
        rw [hb] at h3
        simp only [Option.some.injEq, Obj.cells.injEq] at h3
        obtain ⟨rfl, rfl, rfl⟩ := h3
        refine ⟨[(b, .cells cs 65 fr)], (hO.call F).room hb (hO.fresh h2) (Nat.le_trans hO.fr.size h2), fun x hx => ?_, fun w2 hw2 => .inr ⟨a, rfl, S.len, S.cap_, .inr ⟨b, off, cs, 65, fr, hp, hw2.nth 0 rfl, hs, hx⟩, S.nil, S.mid⟩⟩
        simp only [List.mem_singleton] at hx
        subst hx
        exact ⟨_, _, rfl⟩
theorem BldV.new59 (h : BldV w [] 65 162 w' p n c vs) : New59 w w' p := fun x hx => ⟨(h.new x hx).1, h.block hx⟩
theorem BldV.callT {t : TTy} {lo e sz : Nat} (h : BldV w0 L e sz w p n c vs) (F : FrT t lo w w') (hL : ∀ q ∈ L, q.1 < lo ∨ other t q.2) (he : e ≠ t.tT ∧ e ≠ t.lT) (hl : w0.heap.size ≤ lo) : BldV w0 L e sz w' p n c vs := by
  obtain ⟨N, hO, hP⟩ := h.park
  refine hP.take (hO.callT F (fun q hq => ?_) hl)
  rcases List.mem_append.1 hq with hq | hq
  · rcases hP with ⟨rfl, _⟩ | ⟨g, r, rfl, _⟩
    · cases hq
    · simp only [List.mem_singleton] at hq
      subst hq
      exact .inr he
  · exact hL q hq
theorem Parked.other {t : TTy} {N : List (Nat × Obj)} {e sz : Nat} (hP : Parked N e sz p n c vs) (he : e ≠ t.tT ∧ e ≠ t.lT) : ∀ q ∈ N, other t q.2 := fun q hq => by
  rcases hP with ⟨rfl, _⟩ | ⟨g, r, rfl, _⟩
  · cases hq
  · simp only [List.mem_singleton] at hq
    subst hq
    exact he
end
section
variable {w : World}
set_option maxRecDepth 100000 in
set_option maxHeartbeats 2000000 in
/-- The first of those that are left. -/
theorem claim_g {has last : Value} {fall u : List Value} {us : List Value} {a : Addr} {n cap : Nat} (hf : fall.length = 162) (hfo : ∀ v ∈ fall, v.oneCell' = true) (ho : has.oneCell' = true) (hl : last.oneCell' = true) (S : Sv 162 w (some a) (n + 1) cap (u ++ us)) (hu : u.length = 162) (h1 : ∀ v ∈ u ++ us, v.oneCell' = true) (hn : n ≤ 1000) :
    Calls Tryz.prog 31 #[.agg (cShelf has fall (.slice (some a) (n + 1) cap) last).toArray] w fun e w' => ∃ q c, e = .returned (.tuple #[.agg (cShelf has fall (.slice q n c) last).toArray, .agg u.toArray, .bool true]) ∧ Sv 162 w' q n c us ∧ New59 w w' q ∧ Fr [] w w' := by
  obtain ⟨m, hm⟩ : ∃ m, m = n + 1 := ⟨_, rfl⟩
  rw [← hm] at S ⊢
  obtain ⟨xs, hxs⟩ : ∃ xs, xs = (cShelf has fall (.slice (some a) m cap) last).toArray := ⟨_, rfl⟩
  have hsz : xs.size = 165 := by rw [hxs, List.size_toArray, cShelf_length _ _ _ _ hf]
  have x1 : xs[163]? = some (.slice (some a) m cap) := by rw [hxs]; exact cShelf_get_left _ _ _ _ hf
  replace x1 := (Array.getElem?_eq_some_iff.1 x1).2
  have HXS := Lib.hid hxs
  rw [← hxs]
  have HS := Lib.hid S
  have H1 := Lib.hid h1
  have HM := Lib.hid hm
  have hm0 : decide ((m : Int) > 0) = true := by rw [decide_eq_true_eq]; omega
  have hm1 : decide (0 < m) = true := by rw [decide_eq_true_eq]; omega
  clear hxs S h1 hm
  go_enter Tryz.func31, Tryz.ntmps31
  go_wp2_with fail
  refine named_world (A := fun X => OwB w [(w.heap.size + 1 + 1, .cells Tryz.zeroCells65 65), (w.heap.size + 1, .cells Tryz.zeroCells68 68), (w.heap.size, .cells xs 68)] X) (Q := fun X => Calls Tryz.prog 60 _ X _) ((((OwB.start w).allocN _ w.heap.size rfl).allocN _ (w.heap.size + 1) (by simp)).allocN _ (w.heap.size + 1 + 1) (by simp)) ?_
  intro V hV
  generalize w.heap.size + 1 + 1 = b3 at hV ⊢
  generalize w.heap.size + 1 = b2 at hV ⊢
  generalize w.heap.size = b1 at hV ⊢
  have HV := Lib.hid hV
  clear hV
  refine (bclone_f (HS.out.fr0 HV.out.fr) H1.out (by have := HM.out; omega)).mono ?_
  rintro e W ⟨q, c, rfl, B⟩
  obtain ⟨g, rfl⟩ := B.row.some_of (by have := HM.out; omega)
  have hSv := B.sv
  obtain ⟨r, hO, hcz, hnc, hcm⟩ := B.room
  have hgl := hO.low 0 rfl
  have hall := (HV.out.merge hO)
  have HO := Lib.hid (OwB.call HV.out B.own.fr)
  have hgb := hO.nth 0 rfl
  have HGL : Hid (w.heap.size ≤ g) := Lib.hid (Nat.le_trans HV.out.fr.size hgl)
  have hg1 : g ≠ b1 := by have := HV.out.lt 2 rfl; omega
  have hg2 : g ≠ b2 := by have := HV.out.lt 1 rfl; omega
  have hg3 : g ≠ b3 := by have := HV.out.lt 0 rfl; omega
  have f1 := HO.out.nth 2 rfl
  have f2 := HO.out.nth 1 rfl
  have f3 := HO.out.nth 0 rfl
  have n12 := HO.out.ne 2 1 rfl rfl (by decide)
  have n13 := HO.out.ne 2 0 rfl rfl (by decide)
  have n23 := HO.out.ne 1 0 rfl rfl (by decide)
  have n21 := n12.symm
  have n31 := n13.symm
  have n32 := n23.symm
  have hext : (rowV (u ++ us) r).extract 0 162 = u.toArray := by
    apply Array.ext'
    rw [rowV]
    simp [hu]
  have hrs : 162 ≤ (rowV (u ++ us) r).size := by rw [size_rowV, List.length_append]; omega
  have t1 := World.at_lt f1
  have t2 := World.at_lt f2
  have t3 := World.at_lt f3
  have tg := World.at_lt hgb
  generalize rowV (u ++ us) r = cs at hgb hext hrs
  have HGB := Lib.hid hgb
  obtain ⟨ys, hys⟩ : ∃ ys, ys = (cShelf has fall (.slice (some ⟨g, 0, none⟩) m c) last).toArray := ⟨_, rfl⟩
  have hszy : ys.size = 165 := by rw [hys, List.size_toArray, cShelf_length _ _ _ _ hf]
  have y1 : ys[163]? = some (.slice (some ⟨g, 0, none⟩) m c) := by rw [hys]; exact cShelf_get_left _ _ _ _ hf
  replace y1 := (Array.getElem?_eq_some_iff.1 y1).2
  have xset : xs.setIfInBounds 163 (.slice (some ⟨g, 0, none⟩) m c) = ys := by rw [HXS.out, hys]; exact cShelf_set_left _ _ _ _ _ hf
  have HYS := Lib.hid hys
  have HSv := Lib.hid hSv
  have hmc : m ≤ c := hnc
  clear hys hSv B hO hall hcz hnc hcm
  have usz : u.toArray.size = 162 := by simpa using hu
  have uone : ones u = true := List.all_eq_true.2 (fun v hv => H1.out v (by simp [hv]))
  have hg1' := hg1.symm
  have hm2 : 0 < m := by have := HM.out; omega
  obtain ⟨zs, hzs⟩ : ∃ zs, zs = (cShelf has fall (.slice (if c = 1 then some ⟨g, 0, none⟩ else some ⟨g, 162, none⟩) (m - 1) (c - 1)) last).toArray := ⟨_, rfl⟩
  have hszz : zs.size = 165 := by rw [hzs, List.size_toArray, cShelf_length _ _ _ _ hf]
  have zset : ys.setIfInBounds 163 (.slice (if c = 1 then some ⟨g, 0, none⟩ else some ⟨g, 162, none⟩) (m - 1) (c - 1)) = zs := by rw [HYS.out, hzs]; exact cShelf_set_left _ _ _ _ _ hf
  have zones : ones zs.toList = true := by rw [hzs]; exact List.all_eq_true.2 (cShelf_one _ _ _ _ ho hfo rfl hl)
  have HZS := Lib.hid hzs
  have hc1 : decide ((1 : Int) ≤ (m : Int)) = true := by rw [decide_eq_true_eq]; omega
  clear hzs
  go_upto_region 5 with (fail)
  have hz59 : Tryz.zeroCells65.size = 162 := by kernel_rfl
  have hz62 : Tryz.zeroCells68.size = 165 := by kernel_rfl
  have zall : zs.extract 0 165 = zs := by rw [← hszz]; exact Array.extract_size
  have uall : u.toArray.extract 0 162 = u.toArray := by
    apply Array.ext'
    simp
    rw [← hu]
    exact List.take_length
  generalize hqq : (if c = 1 then some (⟨g, 0, none⟩ : Addr) else some ⟨g, 162, none⟩) = qq at HZS ⊢
  have HQQ := Lib.hid hqq
  clear hqq zset
  refine named_world (A := fun X => OwB w [(W.heap.size, .cells u.toArray 65), (b3, .cells Tryz.zeroCells65 65), (b2, .cells Tryz.zeroCells68 68), (b1, .cells zs 68)] X ∧ Fr [b1, b2, b3] W X) (Q := fun X => Code.wp _ _ _ _ X) ⟨((HO.out.set 2 _ rfl).allocN _ W.heap.size (by simp)), ((Fr.refl [b1, b2, b3] W).put b1 _ (by simp)).alloc _⟩ ?_
  rintro U ⟨hU, hFU⟩
  have hgW := tg
  clear f1 f2 f3 t1 t2 t3 tg hgb
  have n52 : W.heap.size ≠ b2 := hU.ne 0 2 rfl rfl (by decide)
  have n53 : W.heap.size ≠ b3 := hU.ne 0 1 rfl rfl (by decide)
  generalize W.heap.size = b5 at hU n52 n53 ⊢
  have f5 := hU.nth 0 rfl
  have f1 := hU.nth 3 rfl
  have f2 := hU.nth 2 rfl
  have f3 := hU.nth 1 rfl
  have t5 := World.at_lt f5
  have t1 := World.at_lt f1
  have t2 := World.at_lt f2
  have t3 := World.at_lt f3
  have n25 := n52.symm
  have n35 := n53.symm
  have l2 := hU.low 2 rfl
  have l3 := hU.low 1 rfl
  have HU := Lib.hid hU
  have HFU := Lib.hid hFU
  clear hU hFU
  refine drawn_begin 3 (fun w' => w'.blk b1 = some (.cells zs 68) ∧ w'.blk b5 = some (.cells u.toArray 65)) (by kernel_rfl) ?_
  refine drawn_reads (fuel := 3) [0, 1] rfl (by kernel_rfl) ⟨f1, f5⟩ ?_
  repeat (first | (refine rowK_step2 rfl rfl (fun K hK => ?_); go_wp2) | (refine rowK_step rfl (fun K hK => ?_); go_simp; refine hK _ ?_; clear hK K))
  refine rowK_nil ⟨fun w' e1 => ?_, ?_⟩
  · obtain ⟨e1, e2⟩ := e1
    clear f1 f5
    repeat (first | (refine rowWp_step2 rfl rfl (fun K hK => ?_); go_wp2) | (refine rowWp_step rfl (fun K hK => ?_); go_simp; refine hK _ ?_; clear hK K))
    exact rowWp_nil rfl
  refine drawn_next 2 (fuel := 2) rfl (by kernel_rfl) ?_
  intro K hK
  go_wp2_with fail
  refine ⟨⟨by go_simp, by go_simp⟩, ?_⟩
  refine drawn_end rfl (by kernel_rfl) ?_
  intro K hK
  go_wp2_with fail
  refine ret_cell2_tmp rfl rfl rfl rfl ?_
  go_simp
  have hmn : m - 1 = n := by have := HM.out; omega
  have hrest := sv_rest HSv.out hu hm2
  rw [HQQ.out, hmn] at hrest
  have hqg : ∀ x, qq.map (·.block) = some x → x = g := fun x hx => by
    rw [← HQQ.out] at hx
    split at hx
    · simpa using hx.symm
    · simpa using hx.symm
  refine ⟨by kernel_rfl, by kernel_rfl, qq, c - 1, by rw [HZS.out, hmn], hrest.fr (((HFU.out.put b2 _ (by simp)).put b3 _ (by simp)).drew) (fun x hx => ?_), fun x hx => ?_, ((HU.out.fr.put b2 _ (fun h => by omega)).put b3 _ (fun h => by omega)).drew⟩
  · obtain rfl := hqg x hx
    simp [hg1, hg2, hg3]
  · obtain rfl := hqg x hx
    exact ⟨HGL.out, cs, _, (((HFU.out.put b2 _ (by simp)).put b3 _ (by simp)).drew).get HGB.out (by simp [hg1, hg2, hg3])⟩
end
end Go.Proofs.YtbhnfohoclcjdaaGreat
namespace Go
open Go.Dr Go.Kd Go.RowKit
/-- The two cells of a term. -/
def Cell2 (t : TTy) (w : World) (vs : List Value) (i : Nat) (u : Tm) : Prop :=
  vs[2 * i]? = some (.int .i64 u.1) ∧ ∃ (q : Option Addr) (m c : Nat), vs[2 * i + 1]? = some (.slice q m c) ∧ After t w fun w' => Sll w' q m c u.2
structure DTab (t : TTy) (lo tb : Nat) (w : World) (T : List Tm) : Prop where
  ex : ∃ (w0 : World) (p : Option Addr) (cap : Nat) (vs : List Value), w0.heap.size = 0 ∧
    BldV w0 [(tb, .cells #[.slice p T.length cap] t.tT)] t.lT 2 w p T.length cap vs ∧ lo ≤ tb ∧ (∀ g, p.map (·.block) = some g → lo ≤ g) ∧
    (∀ u ∈ vs, u.oneCell' = true) ∧ ∀ i u, T[i]? = some u → Cell2 t w vs i u
  good : ∀ u ∈ T, goodT u
  len : T.length ≤ 65535
section
variable {t t2 : TTy} {lo lo' tb : Nat} {w w' : World} {T : List Tm}
theorem Cell2.step {vs : List Value} {i : Nat} {u : Tm} (h : Cell2 t w vs i u) (F : Stay t w w') : Cell2 t w' vs i u := by
  obtain ⟨a, q, m, c, b, d⟩ := h
  exact ⟨a, q, m, c, b, d.step F⟩
theorem DTab.fr0 (h : DTab t lo tb w T) (F : Fr [] w w') : DTab t lo tb w' T := by
  obtain ⟨w0, p, cap, vs, h0, B, h1, h2, h3, h4⟩ := h.ex
  exact ⟨⟨w0, p, cap, vs, h0, B.call F, h1, h2, h3, fun i u hu => (h4 i u hu).step (.of F)⟩, h.good, h.len⟩
theorem DTab.mono (h : DTab t lo tb w T) (hl : lo' ≤ lo) : DTab t lo' tb w T := by
  obtain ⟨w0, p, cap, vs, h0, B, h1, h2, h3, h4⟩ := h.ex
  exact ⟨⟨w0, p, cap, vs, h0, B, Nat.le_trans hl h1, fun g hg => Nat.le_trans hl (h2 g hg), h3, h4⟩, h.good, h.len⟩
theorem DTab.lower (h : DTab t lo tb w T) : lo ≤ tb := by
  obtain ⟨w0, p, cap, vs, h0, B, h1, _⟩ := h.ex
  exact h1
theorem DTab.lt (h : DTab t lo tb w T) : tb < w.heap.size := by
  obtain ⟨w0, p, cap, vs, h0, B, h1, _⟩ := h.ex
  exact B.own.lt 0 rfl
theorem DTab.new {w0 : World} (h : OwB w0 [(tb, .cells #[.slice none 0 0] t.tT)] w) : DTab t w0.heap.size tb w [] :=
  ⟨⟨w.void, none, 0, [], rfl, BldV.nil (h.weak w.void_fr (Nat.zero_le _)), h.low 0 rfl, (fun g hg => by cases hg), by simp, fun i u hu => by simp at hu⟩, by simp, by simp⟩
/-- Blocks of other types are written. -/
theorem DTab.writ (h : DTab t lo tb w T) {fp : List Nat} (F : Fr fp w w') (hfp : ∀ b ∈ fp, ∃ cs T' fr, w.blk b = some (.cells cs T' fr) ∧ T' ≠ t.bT ∧ T' ≠ t.sT ∧ T' ≠ t.tT ∧ T' ≠ t.lT) : DTab t lo tb w' T := by
  obtain ⟨w0, p, cap, vs, h0, B, k1, k2, k3, k4⟩ := h.ex
  have n1 : tb ∉ fp := fun hm => by
    obtain ⟨cs, T', fr, hb, _, _, h3, _⟩ := hfp tb hm
    have := B.own.nth 0 rfl
    rw [hb] at this
    simp only [Option.some.injEq, Obj.cells.injEq] at this
    exact h3 this.2.1
  have n3 : ∀ g, p.map (·.block) = some g → g ∉ fp := fun g hg hm => by
    obtain ⟨cs, T', fr, hb, _, _, _, h4⟩ := hfp g hm
    obtain ⟨cs2, fr2, hb2⟩ := B.block hg
    rw [hb] at hb2
    simp only [Option.some.injEq, Obj.cells.injEq] at hb2
    exact h4 hb2.2.1
  have hstay : Stay t w w' := fun k cs T2 fr2 h3 h4 => F.get h3 fun hm => by
    obtain ⟨cs', T', fr', hb, h5, h6, _⟩ := hfp k hm
    rw [h3] at hb
    simp only [Option.some.injEq, Obj.cells.injEq] at hb
    rcases h4 with h4 | h4
    · exact h5 (hb.2.1.symm.trans h4)
    · exact h6 (hb.2.1.symm.trans h4)
  refine ⟨⟨w0, p, cap, vs, h0, ⟨⟨fun q hq => ?_, B.own.nd, B.own.lo, B.own.fr.seq F (fun b _ hlt => by omega)⟩, ?_, B.new⟩, k1, k2, k3, fun i u hu => (k4 i u hu).step hstay⟩, h.good, h.len⟩
  · refine F.get (B.own.has q hq) ?_
    simp only [List.mem_singleton] at hq
    subst hq
    exact n1
  · exact F.owns B.row (fun g hg hgb => n3 g (by cases p with | none => cases hg | some q => simpa [Value.ownBlock] using hg) hgb)
/-- A box of the caller's own is written. -/
theorem DTab.put (h : DTab t lo tb w T) {b : Nat} {cs : Array Value} {T' : TypeId} {fr : Nat × Nat} (hb : w.blk b = some (.cells cs T' fr)) (h1 : T' ≠ t.bT ∧ T' ≠ t.sT ∧ T' ≠ t.tT ∧ T' ≠ t.lT) (o : Obj) : DTab t lo tb (w.put b o) T :=
  h.writ ((Fr.refl [b] w).put b o (by simp)) fun x hx => by
    rw [List.mem_singleton] at hx
    subst hx
    exact ⟨cs, T', fr, hb, h1⟩
/-- A row of the caller's own grows. -/
theorem DTab.grown {w0 : World} {L : List (Nat × Obj)} {e sz : Nat} {p : Option Addr} {n c : Nat} {vs : List Value} (h : DTab t lo tb w T) (B : BldV w0 L e sz w p n c vs) (F : Fr (p.map (·.block)).toList w w') (he : e ≠ t.bT ∧ e ≠ t.sT ∧ e ≠ t.tT ∧ e ≠ t.lT) : DTab t lo tb w' T :=
  h.writ F fun b hb => by
    obtain ⟨cs, fr, h1⟩ := B.block (Option.mem_toList.1 hb)
    exact ⟨cs, e, fr, h1, he⟩
/-- Two kinds of tables that have nothing in common but bytes. -/
structure Apart (t t2 : TTy) : Prop where
  a : t.tT ≠ t2.tT ∧ t.tT ≠ t2.lT ∧ t.lT ≠ t2.tT ∧ t.lT ≠ t2.lT
  b : t.bT = t2.bT ∧ t.sT = t2.sT
theorem Stay.cast (h : Stay t2 w w') (ha : Apart t t2) : Stay t w w' := fun k cs T fr h1 h2 => h k cs T fr h1 (by rw [← ha.b.1, ← ha.b.2]; exact h2)
theorem BldV.callA {w0 : World} {L : List (Nat × Obj)} {e sz : Nat} {p : Option Addr} {n cap : Nat} {vs : List Value} (h : BldV w0 L e sz w p n cap vs) (F : FrT t2 lo w w') (hL : ∀ q ∈ L, q.1 < lo ∨ other t2 q.2) (he : e ≠ t2.tT ∧ e ≠ t2.lT) (hl : w0.heap.size ≤ lo) : BldV w0 L e sz w' p n cap vs := by
  obtain ⟨N, hO, hP⟩ := h.park
  refine hP.take (hO.callT F (fun q hq => ?_) hl)
  rcases List.mem_append.1 hq with hq | hq
  · rcases hP with ⟨rfl, _⟩ | ⟨g, r, rfl, _⟩
    · cases hq
    · simp only [List.mem_singleton] at hq
      subst hq
      exact .inr he
  · exact hL q hq
/-- A call that makes terms of the other table. -/
theorem DTab.callT (h : DTab t lo tb w T) (F : FrT t2 lo' w w') (ha : Apart t t2) : DTab t lo tb w' T := by
  obtain ⟨w0, p, cap, vs, h0, B, h1, h2, h3, h4⟩ := h.ex
  refine ⟨⟨w0, p, cap, vs, h0, B.callA F (fun q hq => ?_) ⟨ha.a.2.2.1, ha.a.2.2.2⟩ (by omega), h1, h2, h3, fun i u hu => (h4 i u hu).step (F.stay.cast ha)⟩, h.good, h.len⟩
  simp only [List.mem_singleton] at hq
  subst hq
  exact .inr ⟨ha.a.1, ha.a.2.1⟩
theorem Tab.callD (h : Tab t lo tb w T) (F : FrT t2 lo' w w') (ha : Apart t t2) (hm : t2.mp = false) : Tab t lo tb w' T := by
  obtain ⟨w0, mb, p, cap, vs, es, clock, h0, B, h1, h2, h3, h4, h5, h6⟩ := h.ex
  refine ⟨⟨w0, mb, p, cap, vs, es, clock, h0, B.callA F (fun q hq => ?_) ⟨ha.a.2.2.1, ha.a.2.2.2⟩ (by omega), h1, h2, h3, h4, h5, fun i u hu => ?_⟩, h.good, h.len⟩
  · simp only [List.mem_cons, List.not_mem_nil, or_false] at hq
    rcases hq with rfl | rfl
    · exact .inr ⟨ha.a.1, ha.a.2.1⟩
    · exact .inr hm
  · obtain ⟨a, q, m, c, q2, m2, c2, b, d, e⟩ := h6 i u hu
    exact ⟨a, q, m, c, q2, m2, c2, b, d, e.step (F.stay.cast ha)⟩
/-- Only the table's own blocks, and new ones, have turned. -/
theorem FrT.ofDTab {w0 : World} {L : List (Nat × Obj)} {p : Option Addr} {n cap : Nat} {vs : List Value} {cs : Array Value} (B : BldV w0 L t.lT 2 w p n cap vs) (ht : w.blk tb = some (.cells cs t.tT))
    (h1 : lo ≤ tb) (h3 : ∀ g, p.map (·.block) = some g → lo ≤ g) (F : Fr ((p.map (·.block)).toList ++ [tb]) w w') : FrT t lo w w' := by
  refine FrT.turn F fun b hb => ?_
  simp only [List.mem_append, List.mem_cons, List.not_mem_nil, or_false, Option.mem_toList] at hb
  rcases hb with hb | rfl
  · obtain ⟨cs, fr, h⟩ := B.block hb
    refine ⟨h3 b hb, fun o ho => ?_⟩
    rw [h] at ho
    injection ho with ho
    subst ho
    exact fun hh => hh.2 rfl
  · refine ⟨h1, fun o ho => ?_⟩
    rw [ht] at ho
    injection ho with ho
    subst ho
    exact fun hh => hh.1 rfl
end
end Go
namespace Go.Proofs.YtbhnfohoclcjdaaGreat
open Go.RowKit Go.Dr Go.Kd
/-- The document's table. -/
def DT : TTy := ⟨98, 155, 5, 49, by decide, by decide, by decide, by decide, false⟩
abbrev DTabP (lo tb : Nat) (w : World) (T : List Tm) : Prop := DTab DT lo tb w T
abbrev FrD (lo : Nat) (w w' : World) : Prop := FrT DT lo w w'
theorem apartD : Apart DT TT := ⟨⟨by decide, by decide, by decide, by decide⟩, rfl, rfl⟩
theorem apartT : Apart TT DT := ⟨⟨by decide, by decide, by decide, by decide⟩, rfl, rfl⟩
section
variable {w : World}
set_option maxRecDepth 100000 in
set_option maxHeartbeats 2000000 in
theorem bytes_f {p q : Option Addr} {n c m d : Nat} {A B : List Int} (S : Sl .u8 w p n c A) (R : Sl .u8 w q m d B) (hA : isBytes A) (hB : isBytes B) :
    Calls Tryz.prog 36 #[.slice p n c, .slice q m d] w fun e w' => e = .returned (.bool (decide (A = B))) ∧ Fr [] w w' := by
  have h1 := conv47 S
  have h2 := conv47 R
  obtain ⟨y, hy⟩ : ∃ y, ((strB A).toList == (strB B).toList) = y := ⟨_, rfl⟩
  rw [← beq_str hA hB, hy]
  have HF := Lib.hid (Fr.refl [] w)
  clear S R
  go_enter Tryz.func36, Tryz.ntmps36
  go_wp2_with fail
  exact bodyPost_ret (results_tmp rfl _ _ _) rfl ⟨by simp [hy], HF.out⟩
set_option maxRecDepth 100000 in
set_option maxHeartbeats 2000000 in
theorem lists_f {p q : Option Addr} {n c m d : Nat} {A B : List (List Int)} (S : Sll w p n c A) (R : Sll w q m d B) (hA : ∀ l ∈ A, isBytes l) (hB : ∀ l ∈ B, isBytes l) (hn : n ≤ 1000000) (hm : m ≤ 1000000) :
    Calls Tryz.prog 83 #[.slice p n c, .slice q m d] w fun e w' => e = .returned (.bool (decide (A = B))) ∧ Fr [] w w' := by
  have HS := Lib.hid S
  have HR := Lib.hid R
  have HA := Lib.hid hA
  have HB := Lib.hid hB
  have HNA := Lib.hid S.len
  have HNB := Lib.hid R.len
  have HF := Lib.hid (Fr.refl [] w)
  clear S R hA hB
  obtain ⟨r, hr⟩ : ∃ r, r = decide (A = B) := ⟨_, rfl⟩
  rw [← hr]
  have HRR := Lib.hid hr
  clear hr
  go_enter Tryz.func83, Tryz.ntmps83
  by_cases hnm : n = m
  · subst hnm
    have d1 : ((n : Int) != (n : Int)) = false := by simp
    go_wp2_with fail
    go_loopw [5] (fun iv wy => ∃ i : Nat, i ≤ n ∧ iv = .int .i64 (i : Int) ∧ Hid (A.take i = B.take i) ∧ Hid (Fr [] w wy)) (fun iv _ => (n - intOf iv).toNat)
    case atStart => exact ⟨0, by omega, rfl, Lib.hid rfl, HF⟩
    case round =>
      clear HF
      obtain ⟨i, hi9, rfl, hti, HF⟩ := hrel
      by_cases hlt : i < n
      · have hd : decide ((i : Int) < (n : Int)) = true := by rw [decide_eq_true_eq]; omega
        obtain ⟨b1, o1, cs1, T1, fr1, q1, m1, c1, l1, rfl, f10, hs1, hc1, hl1, S1⟩ := HS.out.at hlt
        obtain ⟨b2, o2, cs2, T2, fr2, q2, m2, c2, l2, rfl, f20, hs2, hc2, hl2, S2⟩ := HR.out.at hlt
        have hc1' := (Array.getElem?_eq_some_iff.1 hc1).2
        have hc2' := (Array.getElem?_eq_some_iff.1 hc2).2
        obtain ⟨y, hy⟩ : ∃ y, y = decide (l1 = l2) := ⟨_, rfl⟩
        have cc : ∀ x : OwnW w [], Calls Tryz.prog 36 #[.slice q1 m1 c1, .slice q2 m2 c2] x.w fun e w' => e = .returned (.bool y) ∧ Fr [] x.w w' := fun x => by
          rw [hy]
          exact bytes_f (S1.fr0 x.h.fr) (S2.fr0 x.h.fr) (HA.out _ (List.mem_of_getElem? hl1)) (HB.out _ (List.mem_of_getElem? hl2))
        have CC := Lib.hid cc
        have hV : OwB w [] wr := (OwB.start w).call HF.out
        have hne : Nonempty (OwnW w []) := ⟨⟨_, hV⟩⟩
        have F1 := Lib.hid f10
        have F2 := Lib.hid f20
        have g1 : ∀ x : OwnW w [], x.w.blk b1 = some (.cells cs1 T1 fr1) := fun x => x.h.fr.get F1.out (by simp)
        have g2 : ∀ x : OwnW w [], x.w.blk b2 = some (.cells cs2 T2 fr2) := fun x => x.h.fr.get F2.out (by simp)
        have t1 : ∀ x : OwnW w [], b1 < x.w.heap.size := fun x => World.at_lt (g1 x)
        have t2 : ∀ x : OwnW w [], b2 < x.w.heap.size := fun x => World.at_lt (g2 x)
        have HY := Lib.hid hy
        have HL1 := Lib.hid hl1
        have HL2 := Lib.hid hl2
        have wi : IntKind.i64.wrap ((i : Int) + 1) = ((i + 1 : Nat) : Int) := by rw [IntKind.wrap_i64]; omega
        clear cc f10 f20 hy hl1 hl2 S1 S2
        go_upto_region 6 with (fail)
        refine wp_region_own (by kernel_rfl) (by kernel_rfl) hV ?_
        repeat (go_big_quiet_step (with_reducible first | exact Calls.own_of (CC.out _)))
        refine wpQuiet_nil ?_
        intro _ hw'
        obtain ⟨⟨V9, hV9⟩, rfl⟩ := hw'
        have HV9 := Lib.hid hV9
        clear hne hV hV9 g1 g2 t1 t2
        cases y
        · have hr0 : r = false := by
            rw [HRR.out, decide_eq_false_iff_not]
            intro e
            have e1 := HL1.out
            rw [e, HL2.out] at e1
            have := HY.out
            simp only [Option.some.injEq] at e1
            rw [e1] at this
            simp at this
          subst hr0
          go_wp2_with fail
          exact bodyPost_ret (results_tmp rfl _ _ _) rfl ⟨rfl, HV9.out.fr⟩
        · go_wp2_with fail
          go_roundw
          case rel =>
            refine ⟨i + 1, by omega, by first | rfl | simp, Lib.hid ?_, Lib.hid HV9.out.fr⟩
            have e : l1 = l2 := of_decide_eq_true HY.out.symm
            rw [List.take_add_one, List.take_add_one, hti.out, HL1.out, HL2.out, e]
          case measure => simp [intOf]; omega
      · obtain rfl : i = n := by omega
        have hd : decide ((i : Int) < (i : Int)) = false := by simp
        have hr1 : r = true := by
          rw [HRR.out, decide_eq_true_eq]
          have h := hti.out
          rwa [List.take_of_length_le (by have := HNA.out; omega), List.take_of_length_le (by have := HNB.out; omega)] at h
        subst hr1
        go_wp2_with fail
        exact bodyPost_ret (results_tmp rfl _ _ _) rfl ⟨rfl, HF.out⟩
  · have d1 : ((n : Int) != (m : Int)) = true := by simp; omega
    have hr0 : r = false := by
      rw [HRR.out, decide_eq_false_iff_not]
      intro e
      apply hnm
      rw [← HNA.out, ← HNB.out, e]
    subst hr0
    go_wp2_with fail
    exact bodyPost_ret (results_tmp rfl _ _ _) rfl ⟨rfl, HF.out⟩
end
end Go.Proofs.YtbhnfohoclcjdaaGreat
namespace Go.Proofs.YtbhnfohoclcjdaaGreat
open Go.RowKit Go.Dr Go.Kd
theorem getB_four (B : List Int) (h : 8 ≤ B.length) (hB : isBytes B) : (getB ((B.drop 4).take 4) : Int) = ((el B 4 * 16777216 + el B 5 * 65536) + el B 6 * 256) + el B 7 := by
  have e : (B.drop 4).take 4 = [el B 4, el B 5, el B 6, el B 7] := by
    apply List.ext_getElem?
    intro i
    rw [List.getElem?_take]
    rcases i with _ | _ | _ | _ | i
    · simp [el, List.getElem?_drop]; rw [List.getElem?_eq_getElem (by omega)]; rfl
    · simp [el, List.getElem?_drop]; rw [List.getElem?_eq_getElem (by omega)]; rfl
    · simp [el, List.getElem?_drop]; rw [List.getElem?_eq_getElem (by omega)]; rfl
    · simp [el, List.getElem?_drop]; rw [List.getElem?_eq_getElem (by omega)]; rfl
    · rw [if_neg (by omega)]; rfl
  rw [e]
  have h4 := el_byte hB (i := 4) (by omega)
  have h5 := el_byte hB (i := 5) (by omega)
  have h6 := el_byte hB (i := 6) (by omega)
  have h7 := el_byte hB (i := 7) (by omega)
  simp only [getB, List.foldl]
  omega
section
variable {w : World}
set_option maxRecDepth 100000 in
set_option maxHeartbeats 2000000 in
theorem dname_f {n : Nat} (hn : n < 4294967296) : Calls Tryz.prog 84 #[.int .i64 n] w fun e w' => e = .returned (.agg (ints .u8 (nameB n))) ∧ Fr [] w w' := by
  go_enter Tryz.func84, Tryz.ntmps84
  go_upto_region 3 with (fail)
  refine named_world (A := fun X => OwB w [(w.heap.size + 1, .cells (ints .u8 ([116, 101, 114, 109] ++ zs 28)) 33), (w.heap.size, .cells (ints .u8 (zs 32)) 33)] X) (Q := fun X => Code.wp _ _ _ _ X) (((OwB.start w).allocN (.cells (ints .u8 (zs 32)) 33) w.heap.size rfl).allocN (.cells (ints .u8 ([116, 101, 114, 109] ++ zs 28)) 33) (w.heap.size + 1) (by simp)) ?_
  intro V hV
  generalize w.heap.size + 1 = bk at hV ⊢
  generalize w.heap.size = br at hV ⊢
  have l4 : (putB n 4).length = 4 := putB_length n 4
  have fk := hV.nth 0 rfl
  have tk := World.at_lt fk
  have HV := Lib.hid hV
  clear hV
  refine drawn_begin 3 (fun w' => w'.blk bk = some (.cells (ints .u8 ([116, 101, 114, 109] ++ zs 28)) 33)) (by kernel_rfl) ?_
  refine drawn_reads (fuel := 2) [0, 1] rfl (by kernel_rfl) fk ?_
  repeat (first | (refine rowK_step2 rfl rfl (fun K hK => ?_); go_wp2) | (refine rowK_step rfl (fun K hK => ?_); go_simp; refine hK _ ?_; clear hK K))
  refine rowK_nil ⟨fun w' e1 => ?_, ?_⟩
  · clear fk tk
    repeat (first | (refine rowWp_step2 rfl rfl (fun K hK => ?_); go_wp2) | (refine rowWp_step rfl (fun K hK => ?_); go_simp; refine hK _ ?_; clear hK K))
    exact rowWp_nil rfl
  refine drawn_next 2 (fuel := 1) rfl (by kernel_rfl) ?_
  intro K hK
  go_wp2_with fail
  refine (rnum_b (n := n) (s := 4) (by omega) (by omega) (by omega)).mono ?_
  rintro e w3 ⟨b, rfl, hb, hs, F⟩
  have hO2 := HV.out.drew.call F
  clear fk tk
  have fk := hO2.nth 0 rfl
  have fr := hO2.nth 1 rfl
  have tk := World.at_lt fk
  have tr := World.at_lt fr
  have tb := World.at_lt hb
  have g1 : b ≠ bk := by have := HV.out.lt 0 rfl; have : V.drew.heap.size = V.heap.size := rfl; omega
  have g2 : bk ≠ b := g1.symm
  have e1 := hO2.ne 0 1 rfl rfl (by decide)
  have e2 := e1.symm
  have HO2 := Lib.hid hO2
  clear F hs hO2
  go_wp2_with fail
  refine ⟨fk, ?_⟩
  refine drawn_end rfl (by kernel_rfl) ?_
  intro K hK
  go_wp2_with fail
  have ev : lay (116 :: 101 :: 114 :: 109 :: zs 28) 4 (putB n 4) = nameB n := by
    unfold lay nameB
    rw [l4]
    rfl
  rw [ev]
  have O3 := (HO2.out.set 0 (.cells (ints .u8 (nameB n)) 33) rfl).set 1 (.cells (ints .u8 (nameB n)) 33) rfl
  have h3 := O3.nth 1 rfl
  refine ret_cell rfl rfl rfl ?_
  refine cellRet_of h3 (aggB_ints (nameB_length n) (by kernel_rfl)) ⟨rfl, O3.fr⟩
set_option maxRecDepth 100000 in
set_option maxHeartbeats 2000000 in
theorem din_f {p : Option Addr} {cap most : Nat} {B : List Int} (S : Sl .u8 w p 32 cap B) (hB : isBytes B) (hm : most < 4294967296) :
    Calls Tryz.prog 131 #[.slice p 32 cap, .int .i64 most] w fun e w' => ∃ q m c, e = .returned (.slice q m c) ∧ Bld w [] .i64 3 w' q m c (if numB B most = 0 then [] else [(numB B most : Int)]) := by
  obtain ⟨R, hR⟩ : ∃ R : List Int, R = if numB B most = 0 then [] else [(numB B most : Int)] := ⟨_, rfl⟩
  rw [← hR]
  have hl := S.len
  obtain ⟨g, hg⟩ : ∃ g, g = getB ((B.drop 4).take 4) := ⟨_, rfl⟩
  have hg4 := getB_four B (by omega) hB
  rw [← hg] at hg4
  have hR2 : R = if 1 ≤ g ∧ g ≤ most ∧ B = nameB g then [(g : Int)] else [] := by
    have e : numB B most = if g < 1 ∨ most < g ∨ B ≠ nameB g then 0 else g := by
      unfold numB
      rw [if_neg (by omega), ← hg, List.take_of_length_le (by omega)]
    rw [hR, e]
    by_cases h1 : g < 1
    · rw [if_pos (Or.inl h1), if_pos rfl, if_neg (by omega)]
    · by_cases h2 : most < g
      · rw [if_pos (Or.inr (Or.inl h2)), if_pos rfl, if_neg (by omega)]
      · by_cases h3 : B = nameB g
        · rw [if_neg (show ¬ (g < 1 ∨ most < g ∨ B ≠ nameB g) by rintro (h | h | h); exact h1 h; exact h2 h; exact h h3), if_neg (show ¬ g = 0 by omega), if_pos ⟨by omega, by omega, h3⟩]
        · rw [if_pos (Or.inr (Or.inr h3)), if_pos rfl, if_neg (fun h => h3 h.2.2)]
  have h4 := el_byte hB (i := 4) (by omega)
  have h5 := el_byte hB (i := 5) (by omega)
  have h6 := el_byte hB (i := 6) (by omega)
  have h7 := el_byte hB (i := 7) (by omega)
  have hgl : g < 4294967296 := by omega
  have HR := Lib.hid hR2
  have HG4 := Lib.hid hg4
  have H4 := Lib.hid h4
  have H5 := Lib.hid h5
  have H6 := Lib.hid h6
  have H7 := Lib.hid h7
  have HB := Lib.hid hB
  have HN := Lib.hid hl
  have hcap := S.cap_
  obtain ⟨b, off, cs, T, fr, rfl, f00, hs4, hc4⟩ := S.at (j := 4) (by omega)
  have same : ∀ j, j < 32 → ∃ h : off + j < cs.size, cs[off + j] = .int .u8 (el B j) := fun j hj => by
    obtain ⟨b', off', cs', T', fr', hp, f', hs', hc'⟩ := S.at (j := j) hj
    simp only [Option.some.injEq, Addr.mk.injEq, and_true] at hp
    obtain ⟨rfl, rfl⟩ := hp
    rw [f00] at f'
    simp only [Option.some.injEq, Obj.cells.injEq] at f'
    obtain ⟨rfl, rfl, rfl⟩ := f'
    exact Array.getElem?_eq_some_iff.1 hc'
  obtain ⟨k4, c4⟩ := same 4 (by omega)
  obtain ⟨k5, c5⟩ := same 5 (by omega)
  obtain ⟨k6, c6⟩ := same 6 (by omega)
  obtain ⟨k7, c7⟩ := same 7 (by omega)
  have HS := Lib.hid S
  have F00 := Lib.hid f00
  have HN0 : Hid (Bld w [] .i64 3 w none 0 0 []) := Lib.hid (Bld.nil (OwB.start w))
  clear S hB hR hR2 hg hg4 h4 h5 h6 h7 hl f00 hs4 hc4 same
  go_enter Tryz.func131, Tryz.ntmps131
  go_upto_region 3 with (fail)
  go_loopw [5, 6] (fun v iv wy => ∃ (i m : Nat) (q : Option Addr) (c : Nat) (l : List Int), iv = .int .i64 (i : Int) ∧ v = .slice q m c ∧ Hid ((i = 0 ∧ m = 0 ∧ l = []) ∨ ((i = 1 ∨ i = 32) ∧ l = R)) ∧ Hid (Bld w [] .i64 3 wy q m c l)) (fun _ iv _ => (100 - intOf iv).toNat)
  case atStart => exact ⟨0, 0, none, 0, [], rfl, rfl, Lib.hid (.inl ⟨rfl, rfl, rfl⟩), HN0⟩
  case round =>
    clear HN0
    obtain ⟨i, m, q, c, l, rfl, rfl, hcase, hO⟩ := hrel
    by_cases hi0 : i = 0
    · subst hi0
      obtain ⟨rfl, rfl⟩ : m = 0 ∧ l = [] := by
        rcases hcase.out with ⟨_, h1, h2⟩ | ⟨h | h, _⟩
        · exact ⟨h1, h2⟩
        · omega
        · omega
      have f0 := hO.out.own.fr.get F00.out (by simp)
      have t0 := World.at_lt f0
      have v4 : IntKind.i64.wrap (el B 4) = el B 4 := by have := H4.out; rw [IntKind.wrap_i64]; omega
      have v5 : IntKind.i64.wrap (el B 5) = el B 5 := by have := H5.out; rw [IntKind.wrap_i64]; omega
      have v6 : IntKind.i64.wrap (el B 6) = el B 6 := by have := H6.out; rw [IntKind.wrap_i64]; omega
      have v7 : IntKind.i64.wrap (el B 7) = el B 7 := by have := H7.out; rw [IntKind.wrap_i64]; omega
      have z4 : IntKind.i64.wrap (el B 4 * 16777216) = el B 4 * 16777216 := by have := H4.out; rw [IntKind.wrap_i64]; omega
      have z5 : IntKind.i64.wrap (el B 5 * 65536) = el B 5 * 65536 := by have := H5.out; rw [IntKind.wrap_i64]; omega
      have z6 : IntKind.i64.wrap (el B 6 * 256) = el B 6 * 256 := by have := H6.out; rw [IntKind.wrap_i64]; omega
      have y5 : IntKind.i64.wrap (el B 4 * 16777216 + el B 5 * 65536) = el B 4 * 16777216 + el B 5 * 65536 := by have := H4.out; have := H5.out; rw [IntKind.wrap_i64]; omega
      have y6 : IntKind.i64.wrap (el B 4 * 16777216 + el B 5 * 65536 + el B 6 * 256) = el B 4 * 16777216 + el B 5 * 65536 + el B 6 * 256 := by have := H4.out; have := H5.out; have := H6.out; rw [IntKind.wrap_i64]; omega
      have y7 : IntKind.i64.wrap (el B 4 * 16777216 + el B 5 * 65536 + el B 6 * 256 + el B 7) = (g : Int) := by have := H4.out; have := H5.out; have := H6.out; have := H7.out; have := HG4.out; rw [IntKind.wrap_i64]; omega
      go_upto_region 4 with (fail)
      refine wp_region_quiet_all (C := fun w' => ∃ _ : Unit, w' = wr.drew) (by kernel_rfl) (by kernel_rfl) ⟨(), rfl⟩ ?_
      repeat (go_big_quiet_step (fail))
      refine wpQuiet_nil ?_
      intro _ hw'
      obtain ⟨_, rfl⟩ := hw'
      clear v4 v5 v6 v7 z4 z5 z6 y5 y6 y7 c4 c5 c6 c7 k4 k5 k6 k7 f0 t0
      go_wp2_with fail
      refine (dname_f hgl).mono ?_
      rintro e W1 ⟨rfl, F1⟩
      have HO1 := Lib.hid ((hO.out.call (Fr.refl [] wr).drew).call F1)
      clear F1
      go_upto_region 6 with (fail)
      refine named_world (A := fun X => Bld w [] .i64 3 X q 0 c [] ∧ X.blk W1.heap.size = some (.cells (ints .u8 (nameB g)) 33)) (Q := fun X => Code.wp _ _ _ _ X) ⟨HO1.out.call ((Fr.refl [] W1).alloc _), World.at_alloc_new _ _ _ rfl⟩ ?_
      rintro W2 ⟨hB2, h8⟩
      generalize W1.heap.size = b8 at h8 ⊢
      have HB2 := Lib.hid hB2
      have ln := nameB_length g
      have H8 := Lib.hid h8
      clear hB2 h8
      obtain ⟨t6, ht6⟩ : ∃ t6 : Bool, t6 = decide (1 ≤ g ∧ g ≤ most ∧ B = nameB g) := ⟨_, rfl⟩
      have HT6 := Lib.hid ht6
      clear ht6
      have w32 : IntKind.i64.wrap (((0 : Nat) : Int) + 32) = 32 := by rw [IntKind.wrap_i64]; omega
      have w33 : IntKind.i64.wrap ((0 : Int) + 32) = 32 := by rw [IntKind.wrap_i64]; omega
      go_cut [46, 47, 48, 49, 50, 51, 52, 53, 54, 55, 56, 57, 58, 59, 60, 61, 62, 63] (fun _ _ _ _ _ _ _ _ _ _ _ _ _ _ _ _ _ v63 wy => v63 = .bool t6 ∧ wy = W2.drew)
      case first =>
        by_cases h1 : 1 ≤ g
        · have d1 : decide ((1 : Int) ≤ (g : Int)) = true := by rw [decide_eq_true_eq]; omega
          have d2 : decide ((g : Int) ≥ 1) = true := by rw [decide_eq_true_eq]; omega
          by_cases h2 : g ≤ most
          · have d3 : decide ((g : Int) ≤ (most : Int)) = true := by rw [decide_eq_true_eq]; omega
            have hb8 := H8.out
            have t8 := World.at_lt hb8
            have hS8 : Sl .u8 W2.drew (some ⟨b8, 0, none⟩) 32 32 (nameB g) := (Sl.whole hb8 ln).fr0 (Fr.refl [] W2).drew
            have hc1 := conv47 (HS.out.fr0 HB2.out.own.fr.drew)
            have hc2 := conv47 hS8
            obtain ⟨y, hy⟩ : ∃ y, ((strB B).toList == (strB (nameB g)).toList) = y := ⟨_, rfl⟩
            have hy2 : y = decide (B = nameB g) := by rw [← hy]; exact beq_str HB.out (byt_nameB g)
            have HY := Lib.hid hy2
            clear hS8 hy2
            refine wp_region_quiet_all (C := fun w' => ∃ _ : Unit, w' = W2.drew) (by kernel_rfl) (by kernel_rfl) ⟨(), rfl⟩ ?_
            repeat (go_big_quiet_step (fail))
            refine wpQuiet_nil ?_
            intro _ hw'
            obtain ⟨_, rfl⟩ := hw'
            clear hb8 t8 hc1 hc2
            go_wp2_with fail
            go_meet
            case rel =>
              refine ⟨?_, rfl⟩
              rw [HT6.out]
              have e : decide (1 ≤ g ∧ g ≤ most ∧ B = nameB g) = y := by rw [HY.out]; by_cases h : B = nameB g <;> simp [h1, h2, h]
              rw [e]
          · have d3 : decide ((g : Int) ≤ (most : Int)) = false := by rw [decide_eq_false_iff_not]; omega
            refine wp_region_quiet_all (C := fun w' => ∃ _ : Unit, w' = W2.drew) (by kernel_rfl) (by kernel_rfl) ⟨(), rfl⟩ ?_
            repeat (go_big_quiet_step (fail))
            refine wpQuiet_nil ?_
            intro _ hw'
            obtain ⟨_, rfl⟩ := hw'
            go_wp2_with fail
            go_meet
            case rel => exact ⟨by rw [HT6.out, decide_eq_false (fun h => h2 h.2.1)], rfl⟩
        · have d1 : decide ((1 : Int) ≤ (g : Int)) = false := by rw [decide_eq_false_iff_not]; omega
          have d2 : decide ((g : Int) ≥ 1) = false := by rw [decide_eq_false_iff_not]; omega
          refine wp_region_quiet_all (C := fun w' => ∃ _ : Unit, w' = W2.drew) (by kernel_rfl) (by kernel_rfl) ⟨(), rfl⟩ ?_
          repeat (go_big_quiet_step (fail))
          refine wpQuiet_nil ?_
          intro _ hw'
          obtain ⟨_, rfl⟩ := hw'
          go_wp2_with fail
          go_meet
          case rel => exact ⟨by rw [HT6.out, decide_eq_false (fun h => h1 h.1)], rfl⟩
      case rest =>
        obtain ⟨rfl, rfl⟩ := hcut
        have w1 : IntKind.i64.wrap (((0 : Nat) : Int) + 1) = 1 := by rw [IntKind.wrap_i64]; omega
        have w11 : IntKind.i64.wrap ((0 : Int) + 1) = 1 := by rw [IntKind.wrap_i64]; omega
        have HB3 := Lib.hid (HB2.out.call (Fr.refl [] W2).drew)
        cases t6 with
        | false =>
          have hr0 : R = [] := by rw [HR.out, if_neg (of_decide_eq_false HT6.out.symm)]
          go_wp2_with fail
          go_roundw
          case rel => exact ⟨1, 0, q, c, [], rfl, rfl, Lib.hid (.inr ⟨.inl rfl, hr0.symm⟩), HB3⟩
          case measure => simp [intOf]
        | true =>
          have hr1 : R = [(g : Int)] := by rw [HR.out, if_pos (of_decide_eq_true HT6.out.symm)]
          have HR1 := Lib.hid hr1
          clear hr1
          go_wp2_with (refine wpList_app127 rfl _ _ rfl rfl (HB3.out.call ((Fr.refl [] _).alloc (.cells #[.int .i64 (g : Int)] 3))) rfl (l2 := [(g : Int)]) (Sl.of (World.at_alloc_new _ _ _ rfl) (by simp) (by simp) (Nat.le_refl 1)) (by omega) ?_)
          intro q3 c3 W3 hB3
          have HB4 := Lib.hid hB3
          clear hB3
          go_wp2_with fail
          go_roundw
          case rel => exact ⟨32, 1, q3, c3, _, rfl, by simp, Lib.hid (.inr ⟨.inr rfl, HR1.out.symm⟩), HB4⟩
          case measure => simp [intOf]
    · have hi : i = 1 ∨ i = 32 := by
        rcases hcase.out with ⟨h, _⟩ | ⟨h, _⟩
        · exact absurd h hi0
        · exact h
      have hl : l = R := by
        rcases hcase.out with ⟨h, _⟩ | ⟨_, h⟩
        · exact absurd h hi0
        · exact h
      subst hl
      have w1 : IntKind.i64.wrap ((32 : Int) - (i : Int)) = 32 - (i : Int) := by rw [IntKind.wrap_i64]; omega
      have d1 : decide ((32 : Int) - (i : Int) ≥ 32) = false := by rw [decide_eq_false_iff_not]; omega
      have d2 : decide ((32 : Int) ≤ (32 : Int) - (i : Int)) = false := d1
      have hO' : Bld w [] .i64 3 wr q m c l := hO.out
      have HO := Lib.hid hO'
      clear hO' hi
      go_wp2_with fail
      exact bodyPost_ret (results_tmp rfl _ _ _) rfl ⟨q, m, c, rfl, HO.out⟩
end
end Go.Proofs.YtbhnfohoclcjdaaGreat
namespace Go.Proofs.YtbhnfohoclcjdaaGreat
open Go.RowKit Go.Dr Go.Kd
abbrev SllD (w : World) (q : Option Addr) (m c : Nat) (ls : List (List Int)) : Prop := After DT w fun w' => Sll w' q m c ls
/-- What the document's table tells of a name. -/
def DOfRes (T : List Tm) (k : List Int) (w : World) (kind : Int) (q : Option Addr) (m c : Nat) (ok : Bool) : Prop :=
  match ofT T k with
  | none => kind = 0 ∧ q = none ∧ m = 0 ∧ c = 0 ∧ ok = false
  | some t => kind = t.1 ∧ ok = true ∧ SllD w q m c t.2
theorem two_cells {l : List Value} {i : Nat} {a b : Value} (h1 : l[2 * i]? = some a) (h2 : l[2 * i + 1]? = some b) : ((l.drop (i * 2)).take 2).toArray = #[a, b] := by
  apply Array.ext'
  apply List.ext_getElem?
  intro j
  rw [List.getElem?_take]
  rcases j with _ | _ | j
  · rw [if_pos (by omega), List.getElem?_drop, show i * 2 + 0 = 2 * i by omega, h1]; rfl
  · rw [if_pos (by omega), List.getElem?_drop, show i * 2 + (0 + 1) = 2 * i + 1 by omega, h2]; rfl
  · rw [if_neg (by omega)]; rfl
section
variable {w : World}
set_option maxRecDepth 100000 in
set_option maxHeartbeats 2000000 in
theorem dof_f {lo tb : Nat} {T : List Tm} {k : List Int} (h : DTabP lo tb w T) (hk : k.length = 32) (hb : isBytes k) :
    Calls Tryz.prog 91 #[.pointer (some ⟨tb, 0, none⟩), .agg (ints .u8 k)] w fun e w' => ∃ (kind : Int) (q : Option Addr) (m c : Nat) (ok : Bool), e = .returned (.tuple #[.agg #[.int .i64 kind, .slice q m c], .bool ok]) ∧ Fr [] w w' ∧ DOfRes T k w' kind q m c ok := by
  obtain ⟨w0, p, cap, vs, h0, B, h1, h2, h3, h4⟩ := h.ex
  obtain ⟨N, hN⟩ : ∃ N, N = T.length := ⟨_, rfl⟩
  have hlen := h.len
  rw [← hN] at B hlen
  have HB := Lib.hid B
  have HC := Lib.hid h4
  have HN := Lib.hid hN
  have HKB := Lib.hid hb
  clear h h0 h1 h2 h3 h4 B hN hb
  have s1 : (ints .u8 k).size = 32 := by rw [size_ints, hk]
  go_enter Tryz.func91, Tryz.ntmps91
  go_upto_region 1 with (fail)
  refine named_world (A := fun X => OwB w [(w.heap.size + 1, .cells #[.int .i64 0, .slice none 0 0] 155), (w.heap.size, .cells (ints .u8 k) 33)] X) (Q := fun X => Code.wp _ _ _ _ X) (((OwB.start w).allocN _ w.heap.size rfl).allocN _ (w.heap.size + 1) (by simp)) ?_
  intro V hV
  generalize w.heap.size + 1 = b4 at hV ⊢
  generalize w.heap.size = b3 at hV ⊢
  have HV := Lib.hid hV
  have fk := hV.nth 1 rfl
  have ft : V.blk tb = some (.cells #[.slice p N cap] 98) := hV.fr.get (HB.out.own.nth 0 rfl) (by simp)
  have tk := World.at_lt fk
  have tt := World.at_lt ft
  clear hV
  refine drawn_begin 6 (fun w' => w'.blk b3 = some (.cells (ints .u8 k) 33) ∧ w'.blk tb = some (.cells #[.slice p N cap] 98)) (by kernel_rfl) ?_
  refine drawn_reads (fuel := 2) [0, 1, 2, 3, 4, 5] rfl (by kernel_rfl) ⟨fk, ft⟩ ?_
  repeat (first | (refine rowK_step2 rfl rfl (fun K hK => ?_); go_wp2) | (refine rowK_step rfl (fun K hK => ?_); go_simp; refine hK _ ?_; clear hK K))
  refine rowK_nil ⟨fun w' e1 => ?_, ?_⟩
  · obtain ⟨e1, e2⟩ := e1
    clear fk ft tk tt
    repeat (first | (refine rowWp_step2 rfl rfl (fun K hK => ?_); go_wp2) | (refine rowWp_step rfl (fun K hK => ?_); go_simp; refine hK _ ?_; clear hK K))
    exact rowWp_nil rfl
  refine drawn_end rfl (by kernel_rfl) ?_
  intro K hK
  go_wp2_with fail
  refine (din_f (most := N) ((Sl.whole fk hk).fr0 (Fr.refl [] V).drew) HKB.out (by omega)).mono ?_
  rintro e W1 ⟨q, m, c, rfl, hB1⟩
  have hO1 := HV.out.drew.call hB1.own.fr
  have HO1 := Lib.hid hO1
  have HB1 := Lib.hid hB1
  clear fk ft tk tt hO1 hB1
  have hm := HB1.out.len
  have hofe : ofT T k = if numB k N = 0 then none else T[numB k N - 1]? := by unfold ofT; rw [← HN.out]
  obtain ⟨u, hu⟩ : ∃ u, u = numB k N := ⟨_, rfl⟩
  have hul : u ≤ N := by rw [hu]; exact numB_le k N
  rw [← hu] at hofe hm
  have HU := Lib.hid hu
  have HOF := Lib.hid hofe
  clear hu hofe
  by_cases hu0 : u = 0
  · rw [if_pos hu0] at hm
    obtain rfl : m = 0 := by simpa using hm.symm
    have HU0 := Lib.hid hu0
    have f4 := HO1.out.nth 0 rfl
    have t4 := World.at_lt f4
    clear hm hu0
    go_wp2_with fail
    refine ret_cell_tmp rfl rfl rfl ?_
    go_simp
    refine ⟨by kernel_rfl, 0, none, 0, 0, ⟨rfl, rfl, rfl, rfl⟩, (HO1.out.set 0 _ rfl).fr, ?_⟩
    rw [DOfRes, HOF.out, if_pos HU0.out]
    exact ⟨rfl, rfl, rfl, rfl, rfl⟩
  · rw [if_neg hu0] at hm
    obtain rfl : m = 1 := by simpa using hm.symm
    have hTl : u - 1 < T.length := by rw [← HN.out]; omega
    obtain ⟨t, ht⟩ : ∃ t, T[u - 1]? = some t := ⟨T[u - 1], List.getElem?_eq_getElem hTl⟩
    have e9 : ofT T k = some t := by rw [HOF.out, if_neg hu0, ht]
    have E9 := Lib.hid e9
    have HT := Lib.hid ht
    obtain ⟨b1, o1, cs1, T1, fr1, rfl, f1, hs1, hc1⟩ := HB1.out.sl.at (j := 0) (by omega)
    have hel : el (if numB k N = 0 then [] else [(numB k N : Int)]) 0 = (u : Int) := by
      rw [← HU.out, if_neg hu0]; rfl
    rw [hel, Nat.add_zero] at hc1
    rw [Nat.add_zero] at hs1
    have hc1' := (Array.getElem?_eq_some_iff.1 hc1).2
    obtain ⟨b2, o2, cs2, T2, fr2, hp2, f2, hs2, hss2, hx2⟩ := HB.out.sv.elem (j := u - 1) (by omega)
    obtain ⟨hk1, q9, m9, c9, hk2, hA⟩ := HC.out (u - 1) t ht
    rw [two_cells hk1 hk2] at hx2
    subst hp2
    have f4 := HO1.out.nth 0 rfl
    have ft : W1.blk tb = some (.cells #[.slice (some ⟨b2, o2, none⟩) N cap] 98) := HO1.out.fr.get (HB.out.own.nth 0 rfl) (by simp)
    have f2' := HO1.out.fr.get f2 (by simp)
    have t1 := World.at_lt f1
    have t4 := World.at_lt f4
    have tt := World.at_lt ft
    have t2 := World.at_lt f2'
    have n41 : b4 ≠ b1 := by
      obtain ⟨g, hg⟩ := HB1.out.row.some_of (by omega)
      have h1 := (HB1.out.new b1 rfl).1
      have h2 := HV.out.lt 0 rfl
      have h3 : V.drew.heap.size = V.heap.size := rfl
      omega
    have n42 : b4 ≠ b2 := by
      have h1 := HV.out.low 0 rfl
      have h2 := World.at_lt f2
      omega
    have n4t : b4 ≠ tb := by
      have h1 := HV.out.low 0 rfl
      have h2 := HB.out.own.lt 0 rfl
      omega
    have n14 := n41.symm
    have n24 := n42.symm
    have nt4 := n4t.symm
    have wu : IntKind.i64.wrap ((u : Int) - 1) = ((u - 1 : Nat) : Int) := by rw [IntKind.wrap_i64]; omega
    have hun : u - 1 < N := by omega
    have hun2 : ((u - 1 : Nat) : Int) < (N : Int) := by omega
    have HAA := Lib.hid hA
    clear hm hu0 hel hk1 hk2 hA f2 ht e9
    generalize u - 1 = v at *
    go_upto_region 4 with (fail)
    refine drawn_begin 10 (fun w' => w'.blk b1 = some (.cells cs1 T1 fr1) ∧ w'.blk tb = some (.cells #[.slice (some ⟨b2, o2, none⟩) N cap] 98) ∧ w'.blk b2 = some (.cells cs2 T2 fr2)) (by kernel_rfl) ?_
    refine drawn_reads (fuel := 2) [0, 1, 2, 3, 4, 5, 6, 7, 8, 9] rfl (by kernel_rfl) ⟨f1, ft, f2'⟩ ?_
    repeat (first | (refine rowK_step2 rfl rfl (fun K hK => ?_); go_wp2) | (refine rowK_step rfl (fun K hK => ?_); go_simp; refine hK _ ?_; clear hK K))
    refine rowK_nil ⟨fun w' e1 => ?_, ?_⟩
    · obtain ⟨e1, e2, e3⟩ := e1
      clear f1 ft f2' t1 tt t2
      repeat (first | (refine rowWp_step2 rfl rfl (fun K hK => ?_); go_wp2) | (refine rowWp_step rfl (fun K hK => ?_); go_simp; refine hK _ ?_; clear hK K))
      exact rowWp_nil rfl
    refine drawn_end rfl (by kernel_rfl) ?_
    intro K hK
    go_wp2_with fail
    refine ret_cell_tmp rfl rfl rfl ?_
    go_simp
    refine ⟨by kernel_rfl, t.1, q9, m9, c9, ⟨rfl, rfl, rfl, rfl⟩, (HO1.out.set 0 _ rfl).drew.fr, ?_⟩
    rw [DOfRes, E9.out]
    exact ⟨rfl, rfl, HAA.out.step (.of (HO1.out.set 0 _ rfl).drew.fr)⟩
end
end Go.Proofs.YtbhnfohoclcjdaaGreat
