/- keydir.Claim, told with where the rest lies; rows of bundles that are kept among a call's own blocks. -/
import Derived.Test.YtbhnfohoclcjdaaKeL
set_option linter.unusedVariables false
set_option linter.unusedSimpArgs false
namespace Go.Proofs.Ytbhnfohoclcjdaa
open Go.RowKit Go.Dr Go.Kd
/-- A row of bundles that a callee has made. -/
def New59 (w w' : World) (q : Option Addr) : Prop := ∀ x, q.map (·.block) = some x → w.heap.size ≤ x ∧ ∃ cs fr, w'.blk x = some (.cells cs 59 fr)
/-- What reads as it does as long as some blocks stand. -/
def Kept (p : Option Addr) (n c : Nat) (vs : List Value) (M : List (Nat × Obj)) : Prop := (∀ x ∈ M, ∃ cs fr, x.2 = .cells cs 59 fr) ∧ ∀ w', Has M w' → Lf w' p n c vs
theorem Kept.nil : Kept none 0 0 [] [] := ⟨by simp, fun w' _ => .inl ⟨rfl, rfl, rfl, rfl⟩⟩
section
variable {w0 w w' : World} {L : List (Nat × Obj)} {p : Option Addr} {n c : Nat} {vs : List Value}
theorem Sv.zero {sz : Nat} (S : Sv sz w p 0 c vs) (w' : World) : Sv sz w' p 0 c vs := ⟨S.len, S.cap_, .inl rfl, S.nil, S.mid⟩
theorem Lf.zero (h : Lf w p 0 c vs) (w' : World) : Lf w' p 0 c vs := h.imp id fun ⟨a, h1, S⟩ => ⟨a, h1, Sv.zero S w'⟩
theorem Lf.keep (h : Lf w' p n c vs) (hn : New59 w w' p) (hO : OwB w0 L w) (F : Fr [] w w') : ∃ M, OwB w0 (M ++ L) w' ∧ Kept p n c vs M := by
  rcases h with ⟨rfl, rfl, rfl, rfl⟩ | ⟨a, rfl, S⟩
  · exact ⟨[], hO.call F, Kept.nil⟩
  · rcases Nat.eq_zero_or_pos n with rfl | h0
    · exact ⟨[], hO.call F, by simp, fun w2 _ => .inr ⟨a, rfl, Sv.zero S w2⟩⟩
    · rcases S.row with h1 | ⟨b, off, cs, T, fr, hp, hb, hs, hx⟩
      · omega
      · obtain ⟨h2, cs2, fr2, h3⟩ := hn b (by rw [hp]; rfl)
        rw [hb] at h3
        simp only [Option.some.injEq, Obj.cells.injEq] at h3
        obtain ⟨rfl, rfl, rfl⟩ := h3
        refine ⟨[(b, .cells cs 59 fr)], (hO.call F).room hb (hO.fresh h2) (Nat.le_trans hO.fr.size h2), fun x hx => ?_, fun w2 hw2 => .inr ⟨a, rfl, S.len, S.cap_, .inr ⟨b, off, cs, 59, fr, hp, hw2.nth 0 rfl, hs, hx⟩, S.nil, S.mid⟩⟩
        simp only [List.mem_singleton] at hx
        subst hx
        exact ⟨_, _, rfl⟩
theorem BldV.new59 (h : BldV w [] 59 162 w' p n c vs) : New59 w w' p := fun x hx => ⟨(h.new x hx).1, h.block hx⟩
theorem BldV.callT {t : TTy} {lo e sz : Nat} (h : BldV w0 L e sz w p n c vs) (F : FrT t lo w w') (hL : ∀ q ∈ L, q.1 < lo ∨ other t q.2) (he : e ≠ t.tT ∧ e ≠ t.lT) (hl : w0.heap.size ≤ lo) : BldV w0 L e sz w' p n c vs := by
  obtain ⟨N, hO, hP⟩ := h.park
  refine hP.take (hO.callT F (fun q hq => ?_) hl)
  rcases List.mem_append.1 hq with hq | hq
  · rcases hP with ⟨rfl, _⟩ | ⟨g, r, rfl, _⟩
    · cases hq
    · simp only [List.mem_singleton] at hq
      subst hq
      exact .inr he
  · exact hL q hq
theorem Parked.other {t : TTy} {N : List (Nat × Obj)} {e sz : Nat} (hP : Parked N e sz p n c vs) (he : e ≠ t.tT ∧ e ≠ t.lT) : ∀ q ∈ N, other t q.2 := fun q hq => by
  rcases hP with ⟨rfl, _⟩ | ⟨g, r, rfl, _⟩
  · cases hq
  · simp only [List.mem_singleton] at hq
    subst hq
    exact he
end
section
variable {w : World}
set_option maxRecDepth 100000 in
set_option maxHeartbeats 2000000 in
/-- The first of those that are left. -/
theorem claim_g {has last : Value} {fall u : List Value} {us : List Value} {a : Addr} {n cap : Nat} (hf : fall.length = 162) (hfo : ∀ v ∈ fall, v.oneCell' = true) (ho : has.oneCell' = true) (hl : last.oneCell' = true) (S : Sv 162 w (some a) (n + 1) cap (u ++ us)) (hu : u.length = 162) (h1 : ∀ v ∈ u ++ us, v.oneCell' = true) (hn : n ≤ 1000) :
    Calls Try.prog 18 #[.agg (cShelf has fall (.slice (some a) (n + 1) cap) last).toArray] w fun e w' => ∃ q c, e = .returned (.tuple #[.agg (cShelf has fall (.slice q n c) last).toArray, .agg u.toArray, .bool true]) ∧ Sv 162 w' q n c us ∧ New59 w w' q ∧ Fr [] w w' := by
  obtain ⟨m, hm⟩ : ∃ m, m = n + 1 := ⟨_, rfl⟩
  rw [← hm] at S ⊢
  obtain ⟨xs, hxs⟩ : ∃ xs, xs = (cShelf has fall (.slice (some a) m cap) last).toArray := ⟨_, rfl⟩
  have hsz : xs.size = 165 := by rw [hxs, List.size_toArray, cShelf_length _ _ _ _ hf]
  have x1 : xs[163]? = some (.slice (some a) m cap) := by rw [hxs]; exact cShelf_get_left _ _ _ _ hf
  replace x1 := (Array.getElem?_eq_some_iff.1 x1).2
  have HXS := Lib.hid hxs
  rw [← hxs]
  have HS := Lib.hid S
  have H1 := Lib.hid h1
  have HM := Lib.hid hm
  have hm0 : decide ((m : Int) > 0) = true := by rw [decide_eq_true_eq]; omega
  have hm1 : decide (0 < m) = true := by rw [decide_eq_true_eq]; omega
  clear hxs S h1 hm
  go_enter Try.func18, Try.ntmps18
  go_wp2_with fail
  refine named_world (A := fun X => OwB w [(w.heap.size + 1 + 1, .cells Try.zeroCells59 59), (w.heap.size + 1, .cells Try.zeroCells62 62), (w.heap.size, .cells xs 62)] X) (Q := fun X => Calls Try.prog 32 _ X _) ((((OwB.start w).allocN _ w.heap.size rfl).allocN _ (w.heap.size + 1) (by simp)).allocN _ (w.heap.size + 1 + 1) (by simp)) ?_
  intro V hV
  generalize w.heap.size + 1 + 1 = b3 at hV ⊢
  generalize w.heap.size + 1 = b2 at hV ⊢
  generalize w.heap.size = b1 at hV ⊢
  have HV := Lib.hid hV
  clear hV
  refine (bclone_f (HS.out.fr0 HV.out.fr) H1.out (by have := HM.out; omega)).mono ?_
  rintro e W ⟨q, c, rfl, B⟩
  obtain ⟨g, rfl⟩ := B.row.some_of (by have := HM.out; omega)
  have hSv := B.sv
  obtain ⟨r, hO, hcz, hnc, hcm⟩ := B.room
  have hgl := hO.low 0 rfl
  have hall := (HV.out.merge hO)
  have HO := Lib.hid (OwB.call HV.out B.own.fr)
  have hgb := hO.nth 0 rfl
  have HGL : Hid (w.heap.size ≤ g) := Lib.hid (Nat.le_trans HV.out.fr.size hgl)
  have hg1 : g ≠ b1 := by have := HV.out.lt 2 rfl; omega
  have hg2 : g ≠ b2 := by have := HV.out.lt 1 rfl; omega
  have hg3 : g ≠ b3 := by have := HV.out.lt 0 rfl; omega
  have f1 := HO.out.nth 2 rfl
  have f2 := HO.out.nth 1 rfl
  have f3 := HO.out.nth 0 rfl
  have n12 := HO.out.ne 2 1 rfl rfl (by decide)
  have n13 := HO.out.ne 2 0 rfl rfl (by decide)
  have n23 := HO.out.ne 1 0 rfl rfl (by decide)
  have n21 := n12.symm
  have n31 := n13.symm
  have n32 := n23.symm
  have hext : (rowV (u ++ us) r).extract 0 162 = u.toArray := by
    apply Array.ext'
    rw [rowV]
    simp [hu]
  have hrs : 162 ≤ (rowV (u ++ us) r).size := by rw [size_rowV, List.length_append]; omega
  have t1 := World.at_lt f1
  have t2 := World.at_lt f2
  have t3 := World.at_lt f3
  have tg := World.at_lt hgb
  generalize rowV (u ++ us) r = cs at hgb hext hrs
  have HGB := Lib.hid hgb
  obtain ⟨ys, hys⟩ : ∃ ys, ys = (cShelf has fall (.slice (some ⟨g, 0, none⟩) m c) last).toArray := ⟨_, rfl⟩
  have hszy : ys.size = 165 := by rw [hys, List.size_toArray, cShelf_length _ _ _ _ hf]
  have y1 : ys[163]? = some (.slice (some ⟨g, 0, none⟩) m c) := by rw [hys]; exact cShelf_get_left _ _ _ _ hf
  replace y1 := (Array.getElem?_eq_some_iff.1 y1).2
  have xset : xs.setIfInBounds 163 (.slice (some ⟨g, 0, none⟩) m c) = ys := by rw [HXS.out, hys]; exact cShelf_set_left _ _ _ _ _ hf
  have HYS := Lib.hid hys
  have HSv := Lib.hid hSv
  have hmc : m ≤ c := hnc
  clear hys hSv B hO hall hcz hnc hcm
  have usz : u.toArray.size = 162 := by simpa using hu
  have uone : ones u = true := List.all_eq_true.2 (fun v hv => H1.out v (by simp [hv]))
  have hg1' := hg1.symm
  have hm2 : 0 < m := by have := HM.out; omega
  obtain ⟨zs, hzs⟩ : ∃ zs, zs = (cShelf has fall (.slice (if c = 1 then some ⟨g, 0, none⟩ else some ⟨g, 162, none⟩) (m - 1) (c - 1)) last).toArray := ⟨_, rfl⟩
  have hszz : zs.size = 165 := by rw [hzs, List.size_toArray, cShelf_length _ _ _ _ hf]
  have zset : ys.setIfInBounds 163 (.slice (if c = 1 then some ⟨g, 0, none⟩ else some ⟨g, 162, none⟩) (m - 1) (c - 1)) = zs := by rw [HYS.out, hzs]; exact cShelf_set_left _ _ _ _ _ hf
  have zones : ones zs.toList = true := by rw [hzs]; exact List.all_eq_true.2 (cShelf_one _ _ _ _ ho hfo rfl hl)
  have HZS := Lib.hid hzs
  have hc1 : decide ((1 : Int) ≤ (m : Int)) = true := by rw [decide_eq_true_eq]; omega
  clear hzs
  go_upto_region 5 with (fail)
  have hz59 : Try.zeroCells59.size = 162 := by kernel_rfl
  have hz62 : Try.zeroCells62.size = 165 := by kernel_rfl
  have zall : zs.extract 0 165 = zs := by rw [← hszz]; exact Array.extract_size
  have uall : u.toArray.extract 0 162 = u.toArray := by
    apply Array.ext'
    simp
    rw [← hu]
    exact List.take_length
  generalize hqq : (if c = 1 then some (⟨g, 0, none⟩ : Addr) else some ⟨g, 162, none⟩) = qq at HZS ⊢
  have HQQ := Lib.hid hqq
  clear hqq zset
  refine named_world (A := fun X => OwB w [(W.heap.size, .cells u.toArray 59), (b3, .cells Try.zeroCells59 59), (b2, .cells Try.zeroCells62 62), (b1, .cells zs 62)] X ∧ Fr [b1, b2, b3] W X) (Q := fun X => Code.wp _ _ _ _ X) ⟨((HO.out.set 2 _ rfl).allocN _ W.heap.size (by simp)), ((Fr.refl [b1, b2, b3] W).put b1 _ (by simp)).alloc _⟩ ?_
  rintro U ⟨hU, hFU⟩
  have hgW := tg
  clear f1 f2 f3 t1 t2 t3 tg hgb
  have n52 : W.heap.size ≠ b2 := hU.ne 0 2 rfl rfl (by decide)
  have n53 : W.heap.size ≠ b3 := hU.ne 0 1 rfl rfl (by decide)
  generalize W.heap.size = b5 at hU n52 n53 ⊢
  have f5 := hU.nth 0 rfl
  have f1 := hU.nth 3 rfl
  have f2 := hU.nth 2 rfl
  have f3 := hU.nth 1 rfl
  have t5 := World.at_lt f5
  have t1 := World.at_lt f1
  have t2 := World.at_lt f2
  have t3 := World.at_lt f3
  have n25 := n52.symm
  have n35 := n53.symm
  have l2 := hU.low 2 rfl
  have l3 := hU.low 1 rfl
  have HU := Lib.hid hU
  have HFU := Lib.hid hFU
  clear hU hFU
  refine drawn_begin 3 (fun w' => w'.blk b1 = some (.cells zs 62) ∧ w'.blk b5 = some (.cells u.toArray 59)) (by kernel_rfl) ?_
  refine drawn_reads (fuel := 3) [0, 1] rfl (by kernel_rfl) ⟨f1, f5⟩ ?_
  repeat (first | (refine rowK_step2 rfl rfl (fun K hK => ?_); go_wp2) | (refine rowK_step rfl (fun K hK => ?_); go_simp; refine hK _ ?_; clear hK K))
  refine rowK_nil ⟨fun w' e1 => ?_, ?_⟩
  · obtain ⟨e1, e2⟩ := e1
    clear f1 f5
    repeat (first | (refine rowWp_step2 rfl rfl (fun K hK => ?_); go_wp2) | (refine rowWp_step rfl (fun K hK => ?_); go_simp; refine hK _ ?_; clear hK K))
    exact rowWp_nil rfl
  refine drawn_next 2 (fuel := 2) rfl (by kernel_rfl) ?_
  intro K hK
  go_wp2_with fail
  refine ⟨⟨by go_simp, by go_simp⟩, ?_⟩
  refine drawn_end rfl (by kernel_rfl) ?_
  intro K hK
  go_wp2_with fail
  refine ret_cell2_tmp rfl rfl rfl rfl ?_
  go_simp
  have hmn : m - 1 = n := by have := HM.out; omega
  have hrest := sv_rest HSv.out hu hm2
  rw [HQQ.out, hmn] at hrest
  have hqg : ∀ x, qq.map (·.block) = some x → x = g := fun x hx => by
    rw [← HQQ.out] at hx
    split at hx
    · simpa using hx.symm
    · simpa using hx.symm
  refine ⟨by kernel_rfl, by kernel_rfl, qq, c - 1, by rw [HZS.out, hmn], hrest.fr (((HFU.out.put b2 _ (by simp)).put b3 _ (by simp)).drew) (fun x hx => ?_), fun x hx => ?_, ((HU.out.fr.put b2 _ (fun h => by omega)).put b3 _ (fun h => by omega)).drew⟩
  · obtain rfl := hqg x hx
    simp [hg1, hg2, hg3]
  · obtain rfl := hqg x hx
    exact ⟨HGL.out, cs, _, (((HFU.out.put b2 _ (by simp)).put b3 _ (by simp)).drew).get HGB.out (by simp [hg1, hg2, hg3])⟩
end
end Go.Proofs.Ytbhnfohoclcjdaa
