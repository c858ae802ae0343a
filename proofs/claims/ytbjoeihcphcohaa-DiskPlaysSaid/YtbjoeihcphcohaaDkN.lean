/- The document's disk: Write. -/
import Derived.Test.YtbjoeihcphcohaaDkM
namespace Go.Proofs.Ytbjoeihcphcohaa
open Go.RowKit Go.Dr

theorem wl_at {P : Program} {ops : Array Oper} {Q : Exit → Act → World → Prop} {rest : List Oper} {a : Act} {w : World} (h : ∀ x, x = w → wpList P ops Q rest a x) : wpList P ops Q rest a w := h w rfl

section
variable {w : World} {r : Nat} {m : DM} {fp : List Nat}
theorem rwrite_arg (D : RefAt w r m fp) (at_ : Int) (bv : Value) (bb : Nat) (b : List Int) (B : BytesAt w bv bb b) (hb : b.length ≤ 1099511627776) (h : argM m at_ b = true) :
    Calls Try.prog 21 #[.pointer (some ⟨r, 0, none⟩), .int .i64 at_, bv] w fun e w' => e = .returned (.int .i64 1) ∧ w = w' := by
  obtain ⟨kb, pa, ca, pb, cb, bs, ⟨hr, hk, ha, hb', hl, hx, n0, na, nb, nx⟩, _, ok⟩ := D
  obtain ⟨bc, cur, T, rfl, hbb, _, _⟩ := B
  clear hk ha hb' hl hx n0 na nb nx hbb
  have hn := ok.n2
  have hrl := World.at_lt hr
  by_cases h1 : at_ < 0
  · clear h
    go_enter Try.func21, Try.ntmps21
    go_wp2
    go_ret
    exact ⟨rfl, rfl⟩
  · by_cases h2 : (m.n : Int) ≤ at_
    · clear h
      go_enter Try.func21, Try.ntmps21
      go_wp2
      go_ret
      exact ⟨rfl, rfl⟩
    · have h3 : ((b.length : Int) != 64) = true := by
        simp [argM, h1, h2] at h ⊢; omega
      have h1' : decide (at_ < 0) = false := by simpa using h1
      have h2' : decide ((m.n : Int) ≤ at_) = false := by simpa using h2
      have h1b : 0 ≤ at_ := by omega
      have h2b : at_ < m.n := by omega
      clear h h1 h2
      go_enter Try.func21, Try.ntmps21
      go_wp2
      go_ret
      exact ⟨rfl, rfl⟩
theorem rwrite_dead (D : RefAt w r m fp) (at_ : Int) (bv : Value) (bb : Nat) (b : List Int) (B : BytesAt w bv bb b) (h : argM m at_ b = false) (hl : livesM m = false) :
    Calls Try.prog 21 #[.pointer (some ⟨r, 0, none⟩), .int .i64 at_, bv] w fun e w' => e = .returned (.int .i64 150) ∧ RefAt w' r (aliveM m) fp ∧ Fr fp w w' := by
  have hA := rstep_any D
  rw [hl] at hA
  obtain ⟨kb, pa, ca, pb, cb, bs, ⟨hr, hk, ha, hb', hl, hx, n0, na, nb, nx⟩, _, ok⟩ := D
  obtain ⟨bc, cur, T, rfl, hbb, _, _⟩ := B
  clear hk ha hb' hl hx n0 na nb nx hbb
  have hn := ok.n2
  have hrl := World.at_lt hr
  simp only [argM, Bool.or_eq_false_iff, decide_eq_false_iff_not] at h
  obtain ⟨⟨h1, h2⟩, h3⟩ := h
  have h1b : 0 ≤ at_ := by omega
  have h2b : at_ < m.n := by omega
  obtain h3' : b.length = 64 := by simpa using h3
  rw [h3']
  clear h1 h2 h3 h3'
  have HA := Lib.hid hA
  clear hA
  go_enter Try.func21, Try.ntmps21
  go_wp2_with fail
  refine HA.out.mono ?_
  rintro e w' ⟨rfl, D1, F1⟩
  go_wp2
  go_ret
  exact ⟨rfl, D1, F1⟩

set_option maxHeartbeats 2000000 in
theorem rwrite_ok (D : RefAt w r m fp) (at_ : Int) (bv : Value) (bb : Nat) (b : List Int) (B : BytesAt w bv bb b) (hbf : bb ∉ fp) (hwl : m.waits.length ≤ 1000000) (h : argM m at_ b = false) (hl : livesM m = true) :
    Calls Try.prog 21 #[.pointer (some ⟨r, 0, none⟩), .int .i64 at_, bv] w fun e w' => e = .returned (.int .i64 0) ∧
      ∃ fp', RefAt w' r { aliveM m with seen := lay m.seen (at_.toNat * 64) b, waits := m.waits ++ [(at_.toNat, b)] } fp' ∧ Fr fp w w' ∧ News w fp fp' := by
  have hA := rstep_any D
  rw [hl] at hA
  obtain ⟨m1, hm1⟩ : ∃ m1, aliveM m = m1 := ⟨_, rfl⟩
  obtain ⟨s1, s2, s3, s4⟩ := aliveM_same m
  rw [hm1] at hA s1 s2 s3 s4 ⊢
  have hbf0 := hbf
  have D0 := D
  obtain ⟨_, _, _, _, _, _, ⟨hr0, _, _, _, _, _, _, _, _, _⟩, _, ok⟩ := D
  obtain ⟨bc, cur, T, rfl, hbb, hcl, hcx⟩ := B
  have hn := ok.n2
  simp only [argM, Bool.or_eq_false_iff, decide_eq_false_iff_not] at h
  obtain ⟨⟨h1, h2⟩, h3⟩ := h
  have h1b : 0 ≤ at_ := by omega
  have h2b : at_ < m.n := by omega
  obtain h3' : b.length = 64 := by simpa using h3
  rw [h3'] at hcl hcx
  have hrl := World.at_lt hr0
  have HA := Lib.hid hA
  have HS := Lib.hid (And.intro s1 (And.intro s2 (And.intro s3 s4)))
  have HB := Lib.hid hbb
  have HM := Lib.hid hm1
  have Hcx := Lib.hid hcx
  have HD0 := Lib.hid D0
  rw [h3']
  clear h1 h2 h3 hA hl s1 s2 s3 s4 hbb hm1 hcx D0
  go_enter Try.func21, Try.ntmps21
  go_wp2_with fail
  refine HA.out.mono ?_
  rintro e w1 ⟨rfl, ⟨kb, pa, ca, pb, cb, bs, ⟨hr, hk, ha, hb, hl, hx, n0, na, nb, nx⟩, hfp, ok1⟩, F1⟩
  have hb1 := F1.get HB.out hbf
  have hbr : bb ≠ r := fun e => hbf (by rw [hfp, e]; simp [rfpOf])
  have hbpa : pa.map (·.block) ≠ some bb := fun e => hbf (by rw [hfp]; simp [rfpOf, e])
  have hbpb : pb.map (·.block) ≠ some bb := fun e => hbf (by rw [hfp]; simp [rfpOf, e])
  have hl1 : m1.waits.length ≤ 1000000 := by rw [HS.out.2.2.2]; exact hwl
  have hrl1 := World.at_lt hr
  have HK := Lib.hid hk
  have HAA := Lib.hid ha
  have HBB := Lib.hid hb
  have HX := Lib.hid hx
  have HN := Lib.hid (And.intro n0 (And.intro na (And.intro nb nx)))
  have HF := Lib.hid F1
  have Hb1 := Lib.hid hb1
  have Hfp := Lib.hid hfp
  have Hr1 := Lib.hid hr
  clear hk ha hb hx n0 na nb nx F1 hr0 hb1 hfp hbf
  go_wp2_with (at_builtin; refine wpList_app rfl (.tmp 30) (.tmp 32) 47 rfl E47 (by omega) pa m1.waits.length ca (m1.waits.map fun x => .int .i64 x.1) rfl ?h1 w1.heap.size 0 1 1 rfl #[.int .i64 at_] 3 (0, 0) ?h2 [.int .i64 at_] ?h3 ?h4 ?h5 ?h6 ?h7 ?h8)
  case h1 => exact ((Fr.refl [] w1).alloc _).owns HAA.out (fun _ _ => by simp)
  case h2 => exact World.at_alloc_new _ _ _ rfl
  case h3 => rfl
  case h4 => simp
  case h5 => rfl
  case h6 => omega
  case h7 => omega
  case h8 =>
  intro pa2 ca2 w2 hR
  have F2 : Fr ((pa.map (·.block)).toList) w1 w2 := ((Fr.refl _ w1).alloc _).trans hR.fr
  have inA : ∀ x, x ∈ (pa.map (·.block)).toList → pa.map (·.block) = some x := fun x hx => by simpa using hx
  have hr2 := F2.get Hr1.out (fun h => (HN.out.2.1 _ (inA _ h)).1 rfl)
  have hk2 := F2.get HK.out (fun h => (HN.out.2.1 _ (inA _ h)).2 rfl)
  have hb2 := F2.get Hb1.out (fun h => hbpa (inA _ h))
  have hB2 := F2.owns HBB.out (fun g hg h => (HN.out.2.2.1 g (by cases pb <;> first | exact hg | cases hg)).2.2 (inA _ h))
  have hX2 : ∀ i (h : i < bs.length) (h' : i < m1.waits.length), ∃ cur T, w2.blk bs[i].1 = some (.cells cur T (0, 0)) ∧ 64 ≤ cur.size ∧ cur.toList.take 64 = (m1.waits[i]).2.map (Value.int .u8) := fun i h h' => by
    obtain ⟨cur, T, e1, e2, e3⟩ := HX.out i h h'
    exact ⟨cur, T, F2.get e1 (fun hh => (HN.out.2.2.2 _ (List.getElem_mem h)).2.2.1 (inA _ hh)), e2, e3⟩
  have hrl2 := World.at_lt hr2
  have HR2 := Lib.hid hR
  have HF2 := Lib.hid F2
  have HK2 := Lib.hid hk2
  have Hb2 := Lib.hid hb2
  have HB2 := Lib.hid hB2
  have HX2 := Lib.hid hX2
  clear hR F2 inA hk2 hb2 hB2 hX2
  go_wp2
  refine drawn_begin 10 (fun w' => w'.blk r = some (.cells #[.int .i64 m1.n, .slice (some ⟨kb, 0, none⟩) (64 * m1.n) (64 * m1.n), .slice pa2 (m1.waits.length + 1) ca2, .slice pb m1.waits.length cb, .int .i64 m1.fuse, .bool m1.dead] 50 (0, 0))) (by kernel_rfl) ?_
  refine drawn_reads (fuel := 6) [0, 1, 2, 3, 4, 5, 6] rfl (by kernel_rfl) ?_ ?_
  · exact (World.at_drew _ _).trans (World.at_put_same _ _ _ hrl2)
  repeat (refine rowK_step rfl (fun K hK => ?_); go_simp; refine hK _ ?_; clear hK K)
  refine rowK_nil ⟨fun w' hw' => ?_, ?_⟩
  · repeat (refine rowWp_step rfl (fun K hK => ?_); go_simp; refine hK _ ?_; clear hK K)
    exact rowWp_nil rfl
  refine drawn_next 7 (fuel := 5) rfl (by kernel_rfl) ?_
  intro K3 hK3
  refine wl_at ?_
  intro wA hwA
  have FA : Fr [r] w2 wA := by rw [hwA]; exact ((Fr.refl _ _).put _ _ (by simp)).drew
  have hAr : wA.blk r = some (.cells #[.int .i64 m1.n, .slice (some ⟨kb, 0, none⟩) (64 * m1.n) (64 * m1.n), .slice pa2 (m1.waits.length + 1) ca2, .slice pb m1.waits.length cb, .int .i64 m1.fuse, .bool m1.dead] 50 (0, 0)) := by
    rw [hwA, World.at_drew, World.at_put_same _ _ _ hrl2]
  have hbA := FA.get Hb2.out (by simpa using hbr)
  have HFA := Lib.hid FA
  clear hwA FA hr2
  refine wpList_app rfl _ _ 31 rfl E31 (by omega) none 0 0 [] rfl (World.ownsRow_nil _ _ _ _) bb 0 64 bc rfl cur T (0, 0) hbA (b.map (Value.int .u8)) ?_ ?_ ?_ (by omega) (by omega) ?_
  · rw [Nat.mul_one, Nat.zero_add, Hcx.out, toList_ints]
  · omega
  · exact ones_map_int _ _
  intro pc cc w4 hR4
  have F4 : Fr [] wA w4 := hR4.fr
  have hO4 := hR4.owns
  have hnew4 := hR4.new
  rcases hO4.2 with ⟨he, h0⟩ | ⟨gc, cap', curc, he, _, hgc, hnc, hcm, hcs, htake⟩
  · omega
  simp only [Value.slice.injEq] at he
  obtain ⟨rfl, _, rfl⟩ := he
  have hgcn : wA.heap.size ≤ gc := by
    rcases hnew4 gc rfl with h | h
    · cases h
    · exact h
  have h4r := F4.get hAr (by simp)
  have hgcl := World.at_lt hgc
  have HF4 := Lib.hid F4
  have Hgc := Lib.hid (And.intro hgc (And.intro hcs htake))
  clear hR4 hO4 hnew4 F4 hbA hgc hcs htake hcm hnc
  go_wp2
  (try with_reducible refine And.intro h4r ?_)
  refine drawn_next 8 (fuel := 4) rfl (by kernel_rfl) ?_
  intro K8 hK8
  go_wp2
  refine ⟨((Fr.refl [] w4).alloc _).get h4r (by simp), ?_⟩
  refine drawn_next 9 (fuel := 3) rfl (by kernel_rfl) ?_
  intro K9 hK9
  refine wl_at ?_
  intro wB hwB
  have FB : Fr [] w4 wB := by rw [hwB]; exact (Fr.refl _ _).alloc _
  have hB0 : wB.blk w4.heap.size = some (.cells #[.slice (some ⟨gc, 0, none⟩) 64 cc] 31 (0, 0)) := by rw [hwB]; exact World.at_alloc_new _ _ _ rfl
  have hBr := FB.get h4r (by simp)
  have FAB : Fr [r] w2 wB := HFA.out.seq (HF4.out.trans FB) (fun _ h => by cases h)
  have hOB : OwnsR wB 31 1 pb m1.waits.length cb (bs.map fun x => .slice (some ⟨x.1, 0, none⟩) 64 x.2) := FAB.owns HB2.out (fun g hg => by
    have := (HN.out.2.2.1 g (by cases pb <;> first | exact hg | cases hg)).1
    simpa using this)
  have HFB := Lib.hid FB
  have HFAB := Lib.hid FAB
  clear hwB FB FAB h4r
  refine wpList_app rfl _ _ 48 rfl E48 (by omega) pb m1.waits.length cb _ rfl hOB w4.heap.size 0 1 1 rfl _ 31 (0, 0) hB0 [.slice (some ⟨gc, 0, none⟩) 64 cc] rfl (by simp) rfl (by omega) (by omega) ?_
  intro pb2 cb2 w5 hR5
  have F5 : Fr ((pb.map (·.block)).toList) wB w5 := hR5.fr
  have inB : ∀ x, x ∈ (pb.map (·.block)).toList → pb.map (·.block) = some x := fun x hx => by simpa using hx
  have h5r := F5.get hBr (fun h => (HN.out.2.2.1 _ (inB _ h)).1 rfl)
  have hrl5 := World.at_lt h5r
  have HR5 := Lib.hid hR5
  have HF5 := Lib.hid F5
  have HinB := Lib.hid inB
  clear hR5 F5 inB hBr hOB hB0
  go_wp2
  (try with_reducible refine And.intro h5r ?_)
  refine drawn_end rfl (by kernel_rfl) ?_
  intro K10 hK10
  go_wp2
  go_ret

  refine ⟨rfl, ?_⟩
  obtain ⟨W, hW⟩ : ∃ W, W = w5.put r (.cells #[.int .i64 m1.n, .slice (some ⟨kb, 0, none⟩) (64 * m1.n) (64 * m1.n), .slice pa2 (m1.waits.length + 1) ca2, .slice pb2 (m1.waits.length + 1) cb2, .int .i64 m1.fuse, .bool m1.dead] 50 (0, 0)) := ⟨_, rfl⟩
  rw [← hW]
  have hWr : W.blk r = some (.cells #[.int .i64 m1.n, .slice (some ⟨kb, 0, none⟩) (64 * m1.n) (64 * m1.n), .slice pa2 (m1.waits.length + 1) ca2, .slice pb2 (m1.waits.length + 1) cb2, .int .i64 m1.fuse, .bool m1.dead] 50 (0, 0)) := by
    rw [hW]; exact World.at_put_same _ _ _ hrl5
  have F5W : Fr [r] w5 W := by rw [hW]; exact (Fr.refl _ _).put _ _ (by simp)
  have FBW : Fr (r :: (pb.map (·.block)).toList) wB W := (HF5.out.mono (fun _ h _ => List.mem_cons_of_mem _ h)).trans (F5W.mono (fun _ h _ => by simp at h; subst h; simp))
  have F2W : Fr (r :: (pb.map (·.block)).toList) w2 W := (HFAB.out.mono (fun _ h _ => by simp at h; subst h; simp)).trans FBW
  have F4W : Fr (r :: (pb.map (·.block)).toList) w4 W := (HFB.out.mono (fun _ h _ => by cases h)).trans FBW
  have inL : ∀ x, x ∈ r :: (pb.map (·.block)).toList → x = r ∨ pb.map (·.block) = some x := fun x hx => by simpa using hx
  obtain ⟨n0, na, nb, nx⟩ := HN.out
  have hwe : m.waits = m1.waits := HS.out.2.2.2.symm
  have hse : m.seen = m1.seen := HS.out.2.2.1.symm
  have z1 : kb < w1.heap.size := World.at_lt HK.out
  have z2 : w1.heap.size ≤ w2.heap.size := HF2.out.size
  have z3 : w2.heap.size ≤ wA.heap.size := HFA.out.size
  have z4 : w4.heap.size ≤ wB.heap.size := HFB.out.size
  have zx : ∀ x ∈ bs, x.1 < w1.heap.size := fun x hx => by
    obtain ⟨i, hi, rfl⟩ := List.getElem_of_mem hx
    obtain ⟨cur, T, e1, _⟩ := HX.out i hi (by rw [← hl]; exact hi)
    exact World.at_lt e1
  have zb : ∀ g, pb.map (·.block) = some g → g < w1.heap.size := fun g hg => (HBB.out.lt g (by cases pb <;> first | exact hg | cases hg)).2
  have za2 : ∀ g, pa2.map (·.block) = some g → g < w2.heap.size := fun g hg => (HR2.out.owns.lt g (by cases pa2 <;> first | exact hg | cases hg)).2
  have ea2 : ∀ g, pa2.map (·.block) = some g → pa.map (·.block) = some g ∨ w1.heap.size ≤ g := fun g hg => by
    rcases HR2.out.new g hg with h | h
    · exact .inl h
    · right; simp at h; omega
  have eb2 : ∀ g, pb2.map (·.block) = some g → pb.map (·.block) = some g ∨ wB.heap.size ≤ g := fun g hg => HR5.out.new g hg
  have inF : ∀ x, x = r ∨ x = kb ∨ pa.map (·.block) = some x ∨ pb.map (·.block) = some x ∨ x ∈ bs.map (·.1) → x ∈ fp := fun x hx => by
    rw [Hfp.out]
    simp only [rfpOf, List.mem_cons, List.mem_append, Option.mem_toList]
    exact hx
  have hFw := HF.out.size
  refine ⟨rfpOf r kb pa2 pb2 (bs ++ [(gc, cc)]), ⟨kb, pa2, ca2, pb2, cb2, bs ++ [(gc, cc)], ⟨?_, ?_, ?_, ?_, ?_, ?_, n0, ?_, ?_, ?_⟩, rfl, ?_⟩, ?_, ?_⟩
  · rw [hWr]; simp [hwe]
  · exact F2W.get HK2.out (fun h => by
      rcases inL _ h with h | h
      · exact n0 h.symm
      · exact (nb _ h).2.1 rfl)
  · have := F2W.owns HR2.out.owns (fun g hg h => by
      have hg' : pa2.map (·.block) = some g := by cases pa2 <;> first | exact hg | cases hg
      rcases inL _ h with h | h
      · rcases ea2 g hg' with e | e
        · exact (na _ e).1 h
        · omega
      · rcases ea2 g hg' with e | e
        · exact (nb _ h).2.2 e
        · have := zb _ h; omega)
    simpa [hwe, Int.toNat_of_nonneg h1b] using this
  · have := F5W.owns HR5.out.owns (fun g hg h => by
      have hg' : pb2.map (·.block) = some g := by cases pb2 <;> first | exact hg | cases hg
      simp at h
      rcases eb2 g hg' with e | e
      · exact (nb _ e).1 h
      · omega)
    simpa [hwe] using this
  · simp [hl, hwe]
  · intro i hi hi'
    by_cases hib : i < bs.length
    · have him : i < m1.waits.length := by omega
      obtain ⟨cur, T, e1, e2, e3⟩ := HX2.out i hib him
      have q := nx _ (List.getElem_mem hib)
      refine ⟨cur, T, ?_, e2, ?_⟩
      · rw [List.getElem_append_left hib]
        exact F2W.get e1 (fun h => by
          rcases inL _ h with h | h
          · exact q.1 h
          · exact q.2.2.2 h)
      · have e4 : (m.waits ++ [(at_.toNat, b)])[i]? = m1.waits[i]? := by rw [hwe, List.getElem?_append_left him]
        rw [List.getElem?_eq_getElem hi', List.getElem?_eq_getElem him, Option.some.injEq] at e4
        rw [e3]
        exact congrArg (fun x : Nat × List Int => x.2.map (Value.int .u8)) e4.symm
    · have hie : i = bs.length := by simp at hi; omega
      subst hie
      refine ⟨curc, 5, ?_, by have := congrArg List.length Hgc.out.2.2; simp [h3'] at this; omega, ?_⟩
      · rw [List.getElem_append_right (Nat.le_refl _)]
        simp only [Nat.sub_self, List.getElem_cons_zero]
        exact F4W.get Hgc.out.1 (fun h => by
          rcases inL _ h with h | h
          · omega
          · have := zb _ h; omega)
      · have e4 : (m.waits ++ [(at_.toNat, b)])[bs.length]? = some (at_.toNat, b) := by rw [hwe, hl]; simp
        rw [List.getElem?_eq_getElem hi', Option.some.injEq] at e4
        have := Hgc.out.2.2
        simp only [Nat.zero_add, Nat.mul_one, List.nil_append] at this
        rw [this]
        exact congrArg (fun x : Nat × List Int => x.2.map (Value.int .u8)) e4.symm
  · intro g hg
    rcases ea2 g hg with e | e
    · exact na _ e
    · constructor <;> omega
  · intro g hg
    rcases eb2 g hg with e | e
    · refine ⟨(nb _ e).1, (nb _ e).2.1, fun h => ?_⟩
      rcases ea2 g h with e' | e'
      · exact (nb _ e).2.2 e'
      · have := zb _ e; omega
    · exact ⟨by omega, by omega, fun h => by have := za2 _ h; omega⟩
  · intro x hx
    rcases List.mem_append.1 hx with hx | hx
    · have q := nx _ hx
      have qz := zx _ hx
      refine ⟨q.1, q.2.1, fun h => ?_, fun h => ?_⟩
      · rcases ea2 _ h with e | e
        · exact q.2.2.1 e
        · omega
      · rcases eb2 _ h with e | e
        · exact q.2.2.2 e
        · omega
    · obtain rfl : x = (gc, cc) := by simpa using hx
      refine ⟨by dsimp only; omega, by dsimp only; omega, fun h => ?_, fun h => ?_⟩
      · have := za2 _ h; dsimp only at this; omega
      · dsimp only at h
        rcases eb2 _ h with e | e
        · have := zb _ e; omega
        · omega
  · refine ⟨ok1.n1, ok1.n2, ok1.kl, ?_, ok1.f1, ok1.f2, ?_⟩
    · dsimp only
      have hsl := ok.sl
      have e1 := HS.out.1
      rw [length_lay _ _ _ (by omega), hse]; exact ok1.sl
    · intro x hx
      dsimp only at hx ⊢
      rw [hwe] at hx
      rcases List.mem_append.1 hx with hx | hx
      · exact ok1.ws x hx
      · obtain rfl : x = (at_.toNat, b) := by simpa using hx
        have e1 := HS.out.1
        exact ⟨by dsimp only; omega, h3'⟩
  · have a1 : Fr fp w w2 := HF.out.seq HF2.out (fun k hk _ => inF _ (.inr (.inr (.inl (by simpa using hk)))))
    exact a1.seq F2W (fun k hk _ => by
      rcases inL _ hk with h | h
      · exact inF _ (.inl h)
      · exact inF _ (.inr (.inr (.inr (.inl h)))))
  · intro k hk
    simp only [rfpOf, List.mem_cons, List.mem_append, Option.mem_toList, List.map_append, List.map_cons, List.map_nil, List.not_mem_nil, or_false] at hk
    rcases hk with h | h | h | h | h | h
    · exact .inl (inF _ (.inl h))
    · exact .inl (inF _ (.inr (.inl h)))
    · rcases ea2 _ h with e | e
      · exact .inl (inF _ (.inr (.inr (.inl e))))
      · right; omega
    · rcases eb2 _ h with e | e
      · exact .inl (inF _ (.inr (.inr (.inr (.inl e)))))
      · right; omega
    · exact .inl (inF _ (.inr (.inr (.inr (.inr h)))))
    · right; omega
end
end Go.Proofs.Ytbjoeihcphcohaa
