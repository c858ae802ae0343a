/- Signatures: the code's Sign. -/
import Derived.Test.YtakhmmnklkckpaaSgE
import Derived.Test.YtakhmmnklkckpaaParD
import Derived.Deep.CutBlock
import Derived.Deep.DeepCutAuto
namespace Go.Proofs.Ytakhmmnklkckpaa
open Go.RowKit Go.Dr
@[go_sem] theorem getElem_rowR_out (k : IntKind) (l : List Int) (u : Value) (n : Nat) (hi : n < (rowR k l #[u]).size) (h : l.length = n) : (rowR k l #[u])[n] = u := by
  have := getElem?_rowR_out k l u n h
  rw [Array.getElem?_eq_getElem hi] at this
  exact Option.some.inj this
theorem SLs.two {w : World} {p1 p2 : Option Addr} {n1 n2 c1 c2 : Nat} {l1 l2 : List Int} (h1 : Sl .u8 w p1 n1 c1 l1) (h2 : Sl .u8 w p2 n2 c2 l2) : SLs w [(p1, n1, c1), (p2, n2, c2)] [l1, l2] :=
  ⟨rfl, fun i h _ => by
    rcases (show i = 0 ∨ i = 1 by simp at h; omega) with rfl | rfl
    · exact h1
    · exact h2⟩
theorem SLs.three {w : World} {p1 p2 p3 : Option Addr} {n1 n2 n3 c1 c2 c3 : Nat} {l1 l2 l3 : List Int} (h1 : Sl .u8 w p1 n1 c1 l1) (h2 : Sl .u8 w p2 n2 c2 l2) (h3 : Sl .u8 w p3 n3 c3 l3) : SLs w [(p1, n1, c1), (p2, n2, c2), (p3, n3, c3)] [l1, l2, l3] :=
  ⟨rfl, fun i h _ => by
    rcases (show i = 0 ∨ i = 1 ∨ i = 2 by simp at h; omega) with rfl | rfl | rfl
    · exact h1
    · exact h2
    · exact h3⟩
theorem hash2_f {w : World} {b : Nat} {p1 p2 : Option Addr} {n1 n2 c1 c2 : Nat} {l1 l2 H : List Int} (hb : w.blk b = some (.cells (slc [(p1, n1, c1), (p2, n2, c2)]) 68)) (h1 : Sl .u8 w p1 n1 c1 l1) (h2 : Sl .u8 w p2 n2 c2 l2) (y1 : Byt l1) (y2 : Byt l2) (hl : l1.length + l2.length ≤ 1000000) (hH : hashB (l1 ++ l2) = H) :
    Calls Try.prog 92 #[.slice (some ⟨b, 0, none⟩) 2 2] w fun e w' => e = .returned (.agg (ints .u8 H)) ∧ Fr [] w w' := by
  have e : [l1, l2].flatten = l1 ++ l2 := by simp
  exact hash_f hb rfl (SLs.two h1 h2) (by rw [e]; exact byt_app y1 y2) (by rw [e, List.length_append]; exact hl) (by rw [e]; exact hH) (Nat.le_refl 2) (by omega)
theorem hash3_f {w : World} {b : Nat} {p1 p2 p3 : Option Addr} {n1 n2 n3 c1 c2 c3 : Nat} {l1 l2 l3 H : List Int} (hb : w.blk b = some (.cells (slc [(p1, n1, c1), (p2, n2, c2), (p3, n3, c3)]) 68)) (h1 : Sl .u8 w p1 n1 c1 l1) (h2 : Sl .u8 w p2 n2 c2 l2) (h3 : Sl .u8 w p3 n3 c3 l3) (y1 : Byt l1) (y2 : Byt l2) (y3 : Byt l3) (hl : l1.length + l2.length + l3.length ≤ 1000000) (hH : hashB (l1 ++ l2 ++ l3) = H) :
    Calls Try.prog 92 #[.slice (some ⟨b, 0, none⟩) 3 3] w fun e w' => e = .returned (.agg (ints .u8 H)) ∧ Fr [] w w' := by
  have e : [l1, l2, l3].flatten = l1 ++ l2 ++ l3 := by simp
  exact hash_f hb rfl (SLs.three h1 h2 h3) (by rw [e]; exact byt_app (byt_app y1 y2) y3) (by rw [e, List.length_append, List.length_append]; exact hl) (by rw [e]; exact hH) (Nat.le_refl 3) (by omega)
/-- The halves of a seed. -/
def splitOwn : Value → List Nat
  | .agg cs => match cs[32]? with
    | some (Value.slice (some a) _ _) => [a.block]
    | _ => []
  | _ => []
def evSplit (i d : Nat) (C U : List Int) : Ev := ⟨i, d, fun v w => ∃ b, v = .agg (rowR .u8 C #[.slice (some ⟨b, 32, none⟩) 32 32]) ∧ w.blk b = some (.cells (ints .u8 U) 69), splitOwn⟩
theorem evSplit_still (i d : Nat) (C U : List Int) : (evSplit i d C U).Still := fun _ _ _ F ⟨b, h1, h2⟩ => ⟨b, h1, F.get h2 (by simp)⟩
theorem splitOwn_eq {C : List Int} (lC : C.length = 32) (b : Nat) : splitOwn (.agg (rowR .u8 C #[.slice (some ⟨b, 32, none⟩) 32 32])) = [b] := by
  rw [splitOwn, getElem?_rowR_out _ _ _ _ lC]
def ptP (P : Pt) (v : Value) : Prop := ∃ x y z t s, v = .agg (ptC x y z t s) ∧ CP x y z t s P
def evPt (i d : Nat) (P : Pt) : Ev := evSome i d (ptP P)
section
variable {w : World}
set_option maxRecDepth 100000 in
set_option maxHeartbeats 8000000 in
theorem sign_core {S U C t r R A k s : List Int} {p : Option Addr} {n cap : Nat} {bs M : Pt} (lS : S.length = 32) (hS : Byt S) (St : Sl .u8 w p n cap t) (ht : Byt t) (hn : n ≤ 5000)
    (hU : sumF S = U) (hC : clampB U = C) (hr : hashB (U.drop 32 ++ t) = r) (hbs : bsP = bs) (hM : mulP dC (numB r) bs = M) (hR : encP M = R) (hA : pubB S = A) (hk : hashB (R ++ A ++ t) = k) (hs : outF (w4 ((vB k * vB C + vB r) % oL)) = s) :
    Calls Try.prog 65 #[.agg (ints .u8 S), .slice p n cap] w fun e w' => e = .returned (.agg (ints .u8 (R ++ s))) ∧ Fr [] w w' := by
  have lU : U.length = 64 := by rw [← hU]; exact length_sumF _
  have lC : C.length = 32 := by rw [← hC]; exact length_clampB lU
  have lR : R.length = 32 := by rw [← hR]; exact length_encP _
  have lA : A.length = 32 := by rw [← hA]; exact length_baseB _
  have lr : r.length = 32 := by rw [← hr]; exact length_hashB _
  have lk : k.length = 32 := by rw [← hk]; exact length_hashB _
  have ls : s.length = 32 := by rw [← hs]; exact length_outF _
  have HSt := Lib.hid St
  have HS := Lib.hid hS
  have HT := Lib.hid ht
  have HU := Lib.hid hU
  have HC := Lib.hid hC
  have Hr := Lib.hid hr
  have HBS := Lib.hid hbs
  have HM := Lib.hid hM
  have HR := Lib.hid hR
  have HA := Lib.hid hA
  have Hk := Lib.hid hk
  have Hs := Lib.hid hs
  clear St hS ht hU hC hr hbs hM hR hA hk hs
  go_enter Try.func65, Try.ntmps65
  go_wp2_with fail
  refine OwB.named (Q := fun X => Code.wp _ _ _ _ X) (show OwB w [(w.heap.size + 1, .cells (ints .u8 (zs 64)) 69), (w.heap.size, .cells (ints .u8 S) 22)] _ from ((OwB.start w).allocN (.cells (ints .u8 S) 22) w.heap.size rfl).allocN (.cells (ints .u8 (zs 64)) 69) (w.heap.size + 1) (by simp)) ?_
  intro V hV
  generalize w.heap.size + 1 = b4 at hV ⊢
  generalize w.heap.size = b2 at hV ⊢
  obtain ⟨L, hL⟩ : ∃ L : List (Nat × Obj), L = [(b4, .cells (ints .u8 (zs 64)) 69), (b2, .cells (ints .u8 S) 22)] := ⟨_, rfl⟩
  rw [← hL] at hV
  have HL := Lib.hid hL
  clear hL
  refine drawn_begin 6 (OwB w L) (by kernel_rfl) ?_
  refine OwB.named (Q := fun X => Go.Dr.wpAnyS Try.prog .any _ _ _ _ _ _ _ X) hV.drew ?_
  intro V1 h1
  clear hV
  have s1 := HL.out ▸ h1
  have f1 := s1.nth 1 rfl
  refine drawn_reads (fuel := 6) [0, 2] rfl (by kernel_rfl) h1 ?_
  repeat (first | (refine rowK_step2 rfl rfl (fun K hK => ?_); go_wp2) | (refine rowK_step rfl (fun K hK => ?_); go_simp; refine hK _ ?_; clear hK K))
  refine rowK_nil ⟨fun w' hw' => ?_, ?_⟩
  · have s2 := HL.out ▸ hw'
    have g0 := s2.nth 1 rfl
    clear f1 s1
    repeat (first | (refine rowWp_step2 rfl rfl (fun K hK => ?_); go_wp2) | (refine rowWp_step rfl (fun K hK => ?_); go_simp; refine hK _ ?_; clear hK K))
    exact rowWp_nil rfl
  clear f1 s1
  obtain ⟨evs, hevs⟩ : ∃ evs : List Ev, evs = [evSplit 1 12 C U, evVal 3 14 (.agg (ints .u8 A)), evRoom 4 5 (rowR .u8 (zs 32) #[.slice none 0 0]) 101, evRoom 5 6 (ints .u8 (zs 32)) 22] := ⟨_, rfl⟩
  have ok : Ev.ok evs := by
    rw [hevs]
    refine Ev.ok.of (by simp [evSplit, evVal, evRoom]) (by simp [evSplit, evVal, evRoom]) fun e he => ?_
    simp only [List.mem_cons, List.not_mem_nil, or_false] at he
    rcases he with rfl | rfl | rfl | rfl
    · exact evSplit_still _ _ _ _
    · exact evVal_still _ _ _
    · exact evRoom_still _ _ _ _
    · exact evRoom_still _ _ _ _
  refine drawn_inv2 6 (N := 6) (rest := 2) [12, 14, 5, 6] (fun L s w => Ev.Inv evs [0, 2] V1 L s w) (fun _ => undef) 4 (by kernel_rfl) (fun L s w h => ?_) (by kernel_rfl) ?_ ?_ ?_
  · exact h1.call h.fr
  · refine Ev.Inv.start ?_ ?_
    · intro i hi; simp at hi; rcases hi with rfl | rfl <;> rfl
    · rw [hevs]; intro i hi; simp [evSplit, evVal, evRoom] at hi; rcases hi with rfl | rfl | rfl | rfl <;> rfl
  · intro i o L s w2 ho hi hL hd h K hK
    rcases (show i = 0 ∨ i = 1 ∨ i = 2 ∨ i = 3 ∨ i = 4 ∨ i = 5 by omega) with rfl | rfl | rfl | rfl | rfl | rfl
    · rw [h.row 0 (by simp)] at hL; cases hL
    · injection (show some _ = some o from ho) with ho; subst ho
      simp only [fill]
      go_wp2_with fail
      refine (split_f lS HS.out).mono ?_
      rintro e w3 ⟨b, rfl, x1, x2, F⟩
      rw [HU.out] at x1 ⊢
      rw [HC.out]
      have hh := h.did ok (evSplit 1 12 C U) (by rw [hevs]; simp) F ⟨b, rfl, x1⟩ (fun c hc => by
        rw [show (evSplit 1 12 C U).own = splitOwn from rfl, splitOwn_eq lC, List.mem_singleton] at hc
        subst hc; exact ⟨x2, World.at_lt x1⟩)
      clear x1 x2 F
      simp only []
      go_wp2
      exact ⟨_, by kernel_rfl, hh⟩
    · rw [h.row 2 (by simp)] at hL; cases hL
    · injection (show some _ = some o from ho) with ho; subst ho
      simp only [fill]
      go_wp2_with fail
      refine (public_f lS HS.out).mono ?_
      rintro e w3 ⟨rfl, F⟩
      rw [HA.out]
      have hh := h.val ok 3 14 (.agg (ints .u8 A)) (by rw [hevs]; simp) F
      clear F
      simp only []
      go_wp2
      exact ⟨_, by kernel_rfl, hh⟩
    · injection (show some _ = some o from ho) with ho; subst ho
      have hh := h.room ok 4 5 (rowR .u8 (zs 32) #[.slice none 0 0]) 101 (by rw [hevs]; simp)
      simp only [fill]
      go_wp2
      exact ⟨_, by kernel_rfl, hh⟩
    · injection (show some _ = some o from ho) with ho; subst ho
      have hh := h.room ok 5 6 (ints .u8 (zs 32)) 22 (by rw [hevs]; simp)
      simp only [fill]
      go_wp2
      exact ⟨_, by kernel_rfl, hh⟩
  · intro s2 w2 h
    obtain ⟨⟨b, v12, g12⟩, n12⟩ := h.ev (evSplit 1 12 C U) (by rw [hevs]; simp) rfl
    obtain ⟨v14, _⟩ := h.ev (evVal 3 14 (.agg (ints .u8 A))) (by rw [hevs]; simp) rfl
    obtain ⟨⟨r5, v5, g5⟩, n5⟩ := h.ev (evRoom 4 5 (rowR .u8 (zs 32) #[.slice none 0 0]) 101) (by rw [hevs]; simp) rfl
    obtain ⟨⟨r6, v6, g6⟩, n6⟩ := h.ev (evRoom 5 6 (ints .u8 (zs 32)) 22) (by rw [hevs]; simp) rfl
    have a1 := h.apart (evSplit 1 12 C U) (by rw [hevs]; simp) (evRoom 4 5 (rowR .u8 (zs 32) #[.slice none 0 0]) 101) (by rw [hevs]; simp) (by simp [evSplit, evRoom]) rfl rfl b
    have a2 := h.apart (evSplit 1 12 C U) (by rw [hevs]; simp) (evRoom 5 6 (ints .u8 (zs 32)) 22) (by rw [hevs]; simp) (by simp [evSplit, evRoom]) rfl rfl b
    have a3 := h.apart (evRoom 4 5 (rowR .u8 (zs 32) #[.slice none 0 0]) 101) (by rw [hevs]; simp) (evRoom 5 6 (ints .u8 (zs 32)) 22) (by rw [hevs]; simp) (by simp [evRoom]) rfl rfl r5
    rw [v12, show (evSplit 1 12 C U).own = splitOwn from rfl, splitOwn_eq lC] at n12 a1 a2
    rw [v5] at n5 a1 a3
    rw [v6] at n6 a2 a3
    simp only [evRoom, ptrOwn, List.mem_singleton, forall_eq, forall_const] at n12 n5 n6 a1 a2 a3
    have h2 := (h1.call h.fr).room g12 (h1.fresh n12.1) (Nat.le_trans h1.fr.size n12.1)
    have h3 := h2.room g5 (fun hm => by
      rcases List.mem_cons.1 (show r5 ∈ b :: L.map Prod.fst from hm) with hm | hm
      · exact a1 hm.symm
      · exact h1.fresh n5.1 hm) (Nat.le_trans h1.fr.size n5.1)
    have h4 := h3.room g6 (fun hm => by
      rcases List.mem_cons.1 (show r6 ∈ r5 :: b :: L.map Prod.fst from hm) with hm | hm
      · exact a3 hm.symm
      · rcases List.mem_cons.1 hm with hm | hm
        · exact a2 hm.symm
        · exact h1.fresh n6.1 hm) (Nat.le_trans h1.fr.size n6.1)
    rw [HL.out] at h4
    have H4 := Lib.hid h4
    have V12 := Lib.hid (show s2 12 = _ from v12)
    have V14 := Lib.hid (show s2 14 = .agg (ints .u8 A) from v14)
    have V5 := Lib.hid (show s2 5 = _ from v5)
    have V6 := Lib.hid (show s2 6 = _ from v6)
    clear h ok hevs v12 v14 v5 v6 n12 n5 n6 a1 a2 a3 g12 g5 g6 h1 h2 h3 h4
    refine drawn_end (ol := [_, _]) rfl (by kernel_rfl) ?_
    intro K hK
    simp only [fill]
    rw [V12.out, V14.out, V5.out, V6.out]
    have f0 := H4.out.nth 0 rfl
    have f1 := H4.out.nth 1 rfl
    have t0 := H4.out.lt 0 rfl
    have t1 := H4.out.lt 1 rfl
    have e01 := H4.out.ne 0 1 rfl rfl (by decide)
    have e10 := e01.symm
    go_upto_region 2 with (fail)
    refine OwB.named (Q := fun X => Code.wp _ _ _ _ X) (show OwB w [(r6, .cells (ints .u8 A) 22), (r5, .cells (rowR .u8 C #[.slice (some ⟨b, 32, none⟩) 32 32]) 101), (b, .cells (ints .u8 U) 69), (b4, .cells (ints .u8 (zs 64)) 69), (b2, .cells (ints .u8 S) 22)] _ from (H4.out.set 1 (.cells (rowR .u8 C #[.slice (some ⟨b, 32, none⟩) 32 32]) 101) rfl).set 0 (.cells (ints .u8 A) 22) rfl) ?_
    intro V2 h2
    clear f0 f1 t0 t1 e01 e10 H4 V12 V14 V5 V6
    have hP := Lib.hid (Sl.ofInts (k := .u8) (off := 32) (n := 32) (cap := 32) (l := U.drop 32) (h2.nth 2 rfl) (by omega) (by rw [List.take_of_length_le (by rw [List.length_drop]; omega)]) (Nat.le_refl 32))
    have hT2 := Lib.hid (HSt.out.fr0 h2.fr)
    have f5 := h2.nth 1 rfl
    have t5 := h2.lt 1 rfl
    have H2 := Lib.hid h2
    clear h2
    go_wp2_with (refine wpList_bs (t := 115) (m := 2) (v := .slice (some ⟨V2.heap.size, 0, none⟩) 2 2) (w' := V2.alloc (.cells (slc [(some ⟨b, 32, none⟩, 32, 32), (p, n, cap)]) 68)) rfl rfl (by kernel_rfl) ?_)
    have h3 := H2.out.allocN (.cells (slc [(some ⟨b, 32, none⟩, 32, 32), (p, n, cap)]) 68) V2.heap.size rfl
    have Fa : Fr [] V2 (V2.alloc (.cells (slc [(some ⟨b, 32, none⟩, 32, 32), (p, n, cap)]) 68)) := (Fr.refl [] V2).alloc _
    refine (hash2_f (h3.nth 0 rfl) (hP.out.fr0 Fa) (hT2.out.fr0 Fa) (byt_drop (HU.out ▸ byt_sumF S) 32) HT.out (by have := hT2.out.len; rw [List.length_drop]; omega) Hr.out).mono ?_
    rintro e w5 ⟨rfl, F⟩
    have H5 := Lib.hid ((h3.call F).sub (.cons _ (List.Sublist.refl _)))
    clear h3 Fa F f5 t5 H2 hP hT2
    simp only []
    go_upto_region 3 with (fail)
    refine OwB.named (Q := fun X => Code.wp _ _ _ _ X) (H5.out.allocN (.cells (ints .u8 r) 22) w5.heap.size rfl) ?_
    intro V3 h3
    generalize w5.heap.size = r7 at h3 ⊢
    generalize V2.heap.size = bx
    clear H5
    obtain ⟨L3, hL3⟩ : ∃ L : List (Nat × Obj), L = [(r7, .cells (ints .u8 r) 22), (r6, .cells (ints .u8 A) 22), (r5, .cells (rowR .u8 C #[.slice (some ⟨b, 32, none⟩) 32 32]) 101), (b, .cells (ints .u8 U) 69), (b4, .cells (ints .u8 (zs 64)) 69), (b2, .cells (ints .u8 S) 22)] := ⟨_, rfl⟩
    rw [← hL3] at h3
    have HL3 := Lib.hid hL3
    clear hL3
    refine drawn_begin 5 (OwB w L3) (by kernel_rfl) ?_
    refine OwB.named (Q := fun X => Go.Dr.wpAnyS Try.prog .any _ _ _ _ _ _ _ X) h3.drew ?_
    intro V4 h4
    clear h3
    have s1 := HL3.out ▸ h4
    have f1 := s1.nth 0 rfl
    refine drawn_reads (fuel := 5) [0] rfl (by kernel_rfl) h4 ?_
    repeat (first | (refine rowK_step2 rfl rfl (fun K hK => ?_); go_wp2) | (refine rowK_step rfl (fun K hK => ?_); go_simp; refine hK _ ?_; clear hK K))
    refine rowK_nil ⟨fun w' hw' => ?_, ?_⟩
    · have s2 := HL3.out ▸ hw'
      have g0 := s2.nth 0 rfl
      clear f1 s1
      repeat (first | (refine rowWp_step2 rfl rfl (fun K hK => ?_); go_wp2) | (refine rowWp_step rfl (fun K hK => ?_); go_simp; refine hK _ ?_; clear hK K))
      exact rowWp_nil rfl
    clear f1 s1
    obtain ⟨evs, hevs⟩ : ∃ evs : List Ev, evs = [evPt 1 21 bs, evPt 2 22 M, evVal 3 23 (.agg (ints .u8 R)), evRoom 4 8 (ints .u8 (zs 32)) 22] := ⟨_, rfl⟩
    have ok : Ev.ok evs := by
      rw [hevs]
      refine Ev.ok.of (by simp [evPt, evSome, evVal, evRoom]) (by simp [evPt, evSome, evVal, evRoom]) fun e he => ?_
      simp only [List.mem_cons, List.not_mem_nil, or_false] at he
      rcases he with rfl | rfl | rfl | rfl
      · exact evSome_still _ _ _
      · exact evSome_still _ _ _
      · exact evVal_still _ _ _
      · exact evRoom_still _ _ _ _
    refine drawn_inv2 5 (N := 5) (rest := 1) [21, 22, 23, 8] (fun L s w => Ev.Inv evs [0] V4 L s w) (fun _ => undef) 4 (by kernel_rfl) (fun L s w h => ?_) (by kernel_rfl) ?_ ?_ ?_
    · exact h4.call h.fr
    · refine Ev.Inv.start ?_ ?_
      · intro i hi; simp at hi; subst hi; rfl
      · rw [hevs]; intro i hi; simp [evPt, evSome, evVal, evRoom] at hi; rcases hi with rfl | rfl | rfl | rfl <;> rfl
    · intro i o L s3 w3 ho hi hL hd h K hK
      rcases (show i = 0 ∨ i = 1 ∨ i = 2 ∨ i = 3 ∨ i = 4 by omega) with rfl | rfl | rfl | rfl | rfl
      · rw [h.row 0 (by simp)] at hL; cases hL
      · injection (show some _ = some o from ho) with ho; subst ho
        simp only [fill]
        go_wp2_with fail
        refine (cbase_n HBS.out).mono ?_
        rintro e w4 ⟨x, y, z, t', s', rfl, kk, F⟩
        have hh := h.some ok 1 21 (ptP bs) (by rw [hevs]; simp [evPt]) F ⟨x, y, z, t', s', rfl, kk⟩
        clear kk F
        simp only []
        go_wp2
        exact ⟨_, by kernel_rfl, hh⟩
      · injection (show some _ = some o from ho) with ho; subst ho
        have l1 : L 1 = true := after_on hd (by kernel_rfl)
        obtain ⟨⟨x, y, z, t', s', hv, kk⟩, _⟩ := h.ev (evPt 1 21 bs) (by rw [hevs]; simp) l1
        have hv2 : s3 21 = .agg (ptC x y z t' s') := hv
        have ct : Calls Try.prog 55 #[.agg (ints .u8 r), s3 21] w3 (fun e w' => ∃ x y z t s, e = .returned (.agg (ptC x y z t s)) ∧ CP x y z t s M ∧ Fr [] w3 w') := by
          rw [hv2]
          exact cmulP_n HM.out lr (Hr.out ▸ byt_hashB _) kk
        clear hv hv2 kk
        simp only [fill]
        go_wp2_with fail
        refine ct.mono ?_
        rintro e w4 ⟨x, y, z, t', s', rfl, kk, F⟩
        have hh := h.some ok 2 22 (ptP M) (by rw [hevs]; simp [evPt]) F ⟨x, y, z, t', s', rfl, kk⟩
        clear kk F
        simp only []
        go_wp2
        exact ⟨_, by kernel_rfl, hh⟩
      · injection (show some _ = some o from ho) with ho; subst ho
        have l2 : L 2 = true := after_on hd (by kernel_rfl)
        obtain ⟨⟨x, y, z, t', s', hv, kk⟩, _⟩ := h.ev (evPt 2 22 M) (by rw [hevs]; simp) l2
        have hv2 : s3 22 = .agg (ptC x y z t' s') := hv
        have ct : Calls Try.prog 49 #[s3 22] w3 (fun e w' => e = .returned (.agg (ints .u8 R)) ∧ Fr [] w3 w') := by
          rw [hv2]
          exact cenc_p HR.out kk
        clear hv hv2 kk
        simp only [fill]
        go_wp2_with fail
        refine ct.mono ?_
        rintro e w4 ⟨rfl, F⟩
        have hh := h.val ok 3 23 (.agg (ints .u8 R)) (by rw [hevs]; simp) F
        clear F
        simp only []
        go_wp2
        exact ⟨_, by kernel_rfl, hh⟩
      · injection (show some _ = some o from ho) with ho; subst ho
        have hh := h.room ok 4 8 (ints .u8 (zs 32)) 22 (by rw [hevs]; simp)
        simp only [fill]
        go_wp2
        exact ⟨_, by kernel_rfl, hh⟩
    intro s3 w3 h
    obtain ⟨v23, _⟩ := h.ev (evVal 3 23 (.agg (ints .u8 R))) (by rw [hevs]; simp) rfl
    obtain ⟨⟨r8, v8, g8⟩, n8⟩ := h.ev (evRoom 4 8 (ints .u8 (zs 32)) 22) (by rw [hevs]; simp) rfl
    rw [v8] at n8
    simp only [evRoom, ptrOwn, List.mem_singleton, forall_eq] at n8
    have h5 := (h4.call h.fr).room g8 (h4.fresh n8.1) (Nat.le_trans h4.fr.size n8.1)
    rw [HL3.out] at h5
    have H5 := Lib.hid h5
    have V23 := Lib.hid (show s3 23 = .agg (ints .u8 R) from v23)
    have V8 := Lib.hid (show s3 8 = _ from v8)
    clear h ok hevs v23 v8 n8 g8 h4 h5
    refine drawn_end (ol := [_]) rfl (by kernel_rfl) ?_
    intro K hK
    simp only [fill]
    rw [V23.out, V8.out]
    have f0 := H5.out.nth 0 rfl
    have t0 := H5.out.lt 0 rfl
    generalize s3 21 = z21
    generalize s3 22 = z22
    go_upto_region 4 with (fail)
    refine OwB.named (Q := fun X => Code.wp _ _ _ _ X) (show OwB w [(r8, .cells (ints .u8 R) 22), (r7, .cells (ints .u8 r) 22), (r6, .cells (ints .u8 A) 22), (r5, .cells (rowR .u8 C #[.slice (some ⟨b, 32, none⟩) 32 32]) 101), (b, .cells (ints .u8 U) 69), (b4, .cells (ints .u8 (zs 64)) 69), (b2, .cells (ints .u8 S) 22)] _ from H5.out.set 0 (.cells (ints .u8 R) 22) rfl) ?_
    intro V5 h5
    clear f0 t0 H5 V23 V8
    obtain ⟨L5, hL5⟩ : ∃ L : List (Nat × Obj), L = [(r8, .cells (ints .u8 R) 22), (r7, .cells (ints .u8 r) 22), (r6, .cells (ints .u8 A) 22), (r5, .cells (rowR .u8 C #[.slice (some ⟨b, 32, none⟩) 32 32]) 101), (b, .cells (ints .u8 U) 69), (b4, .cells (ints .u8 (zs 64)) 69), (b2, .cells (ints .u8 S) 22)] := ⟨_, rfl⟩
    rw [← hL5] at h5
    have HL5 := Lib.hid hL5
    clear hL5
    refine drawn_begin 10 (OwB w L5) (by kernel_rfl) ?_
    refine OwB.named (Q := fun X => Go.Dr.wpAnyS Try.prog .any _ _ _ _ _ _ _ X) h5.drew ?_
    intro V6 h6
    clear h5
    have s1 := HL5.out ▸ h6
    have f1 := s1.nth 1 rfl
    have f3 := s1.nth 3 rfl
    refine drawn_reads (fuel := 5) [0, 1, 2, 5, 6, 7] rfl (by kernel_rfl) h6 ?_
    repeat (first | (refine rowK_step2 rfl rfl (fun K hK => ?_); go_wp2) | (refine rowK_step rfl (fun K hK => ?_); go_simp; refine hK _ ?_; clear hK K))
    refine rowK_nil ⟨fun w' hw' => ?_, ?_⟩
    · have s2 := HL5.out ▸ hw'
      have g1 := s2.nth 1 rfl
      have g3 := s2.nth 3 rfl
      clear f1 f3 s1
      repeat (first | (refine rowWp_step2 rfl rfl (fun K hK => ?_); go_wp2) | (refine rowWp_step rfl (fun K hK => ?_); go_simp; refine hK _ ?_; clear hK K))
      exact rowWp_nil rfl
    have hSR := Lib.hid (Sl.ofInts (k := .u8) (off := 0) (n := 32) (cap := 32) (l := R) (s1.nth 0 rfl) (by omega) (by rw [List.drop_zero, List.take_of_length_le (by omega)]) (Nat.le_refl 32))
    have hSA := Lib.hid (Sl.ofInts (k := .u8) (off := 0) (n := 32) (cap := 32) (l := A) (s1.nth 2 rfl) (by omega) (by rw [List.drop_zero, List.take_of_length_le (by omega)]) (Nat.le_refl 32))
    have hST := Lib.hid (HSt.out.fr0 h6.fr)
    clear f1 f3 s1
    obtain ⟨evs, hevs⟩ : ∃ evs : List Ev, evs = [evRow 3 27 3 (slc [(some ⟨r8, 0, none⟩, 32, 32), (some ⟨r6, 0, none⟩, 32, 32), (p, n, cap)]) 68, evVal 4 28 (.agg (ints .u8 k)), evVal 8 32 (.agg (ints .u8 s)), evRoom 9 9 (ints .u8 (zs 32)) 22] := ⟨_, rfl⟩
    have ok : Ev.ok evs := by
      rw [hevs]
      refine Ev.ok.of (by simp [evRow, evVal, evRoom]) (by simp [evRow, evVal, evRoom]) fun e he => ?_
      simp only [List.mem_cons, List.not_mem_nil, or_false] at he
      rcases he with rfl | rfl | rfl | rfl
      · exact evRow_still _ _ _ _ _
      · exact evVal_still _ _ _
      · exact evVal_still _ _ _
      · exact evRoom_still _ _ _ _
    refine drawn_inv2 10 (N := 10) (rest := 1) [27, 28, 32, 9] (fun L s w => Ev.Inv evs [0, 1, 2, 5, 6, 7] V6 L s w) (fun _ => undef) 4 (by kernel_rfl) (fun L s w h => ?_) (by kernel_rfl) ?_ ?_ ?_
    · exact h6.call h.fr
    · refine Ev.Inv.start ?_ ?_
      · intro i hi; simp at hi; rcases hi with rfl | rfl | rfl | rfl | rfl | rfl <;> rfl
      · rw [hevs]; intro i hi; simp [evRow, evVal, evRoom] at hi; rcases hi with rfl | rfl | rfl | rfl <;> rfl
    · intro i o L s3 w3 ho hi hL hd h K hK
      rcases (show i = 0 ∨ i = 1 ∨ i = 2 ∨ i = 3 ∨ i = 4 ∨ i = 5 ∨ i = 6 ∨ i = 7 ∨ i = 8 ∨ i = 9 by omega) with rfl | rfl | rfl | rfl | rfl | rfl | rfl | rfl | rfl | rfl
      · rw [h.row 0 (by simp)] at hL; cases hL
      · rw [h.row 1 (by simp)] at hL; cases hL
      · rw [h.row 2 (by simp)] at hL; cases hL
      · injection (show some _ = some o from ho) with ho; subst ho
        have hh := h.rowMade ok 3 27 3 (slc [(some ⟨r8, 0, none⟩, 32, 32), (some ⟨r6, 0, none⟩, 32, 32), (p, n, cap)]) 68 (by rw [hevs]; simp)
        simp only [fill]
        refine wpList_bs (t := 115) (m := 3) (v := .slice (some ⟨w3.heap.size, 0, none⟩) 3 3) (w' := w3.alloc (.cells (slc [(some ⟨r8, 0, none⟩, 32, 32), (some ⟨r6, 0, none⟩, 32, 32), (p, n, cap)]) 68)) rfl rfl (by kernel_rfl) ?_
        go_wp2
        exact ⟨_, by kernel_rfl, hh⟩
      · injection (show some _ = some o from ho) with ho; subst ho
        have l3 : L 3 = true := after_on hd (by kernel_rfl)
        obtain ⟨⟨bb, hv, g⟩, _⟩ := h.ev (evRow 3 27 3 (slc [(some ⟨r8, 0, none⟩, 32, 32), (some ⟨r6, 0, none⟩, 32, 32), (p, n, cap)]) 68) (by rw [hevs]; simp) l3
        have hv2 : s3 27 = .slice (some ⟨bb, 0, none⟩) 3 3 := hv
        have ct : Calls Try.prog 92 #[s3 27] w3 (fun e w' => e = .returned (.agg (ints .u8 k)) ∧ Fr [] w3 w') := by
          rw [hv2]
          exact hash3_f g (hSR.out.fr0 h.fr) (hSA.out.fr0 h.fr) (hST.out.fr0 h.fr) (HR.out ▸ byt_encP _) (HA.out ▸ byt_baseB _) HT.out (by have := HSt.out.len; omega) Hk.out
        clear hv hv2 g
        simp only [fill]
        go_wp2_with fail
        refine ct.mono ?_
        rintro e w4 ⟨rfl, F⟩
        have hh := h.val ok 4 28 (.agg (ints .u8 k)) (by rw [hevs]; simp) F
        clear F
        simp only []
        go_wp2
        exact ⟨_, by kernel_rfl, hh⟩
      · rw [h.row 5 (by simp)] at hL; cases hL
      · rw [h.row 6 (by simp)] at hL; cases hL
      · rw [h.row 7 (by simp)] at hL; cases hL
      · injection (show some _ = some o from ho) with ho; subst ho
        have l4 : L 4 = true := after_on hd (by kernel_rfl)
        obtain ⟨hv, _⟩ := h.ev (evVal 4 28 (.agg (ints .u8 k))) (by rw [hevs]; simp) l4
        have hv2 : s3 28 = .agg (ints .u8 k) := hv
        have ct : Calls Try.prog 95 #[s3 28, .agg (ints .u8 C), .agg (ints .u8 r)] w3 (fun e w' => e = .returned (.agg (ints .u8 s)) ∧ Fr [] w3 w') := by
          rw [hv2, ← Hs.out]
          exact muladd_c lk lC lr (Hk.out ▸ byt_hashB _) (HC.out ▸ byt_clampB (HU.out ▸ byt_sumF _)) (Hr.out ▸ byt_hashB _)
        clear hv hv2
        simp only [fill]
        go_wp2_with fail
        refine ct.mono ?_
        rintro e w4 ⟨rfl, F⟩
        have hh := h.val ok 8 32 (.agg (ints .u8 s)) (by rw [hevs]; simp) F
        clear F
        simp only []
        go_wp2
        exact ⟨_, by kernel_rfl, hh⟩
      · injection (show some _ = some o from ho) with ho; subst ho
        have hh := h.room ok 9 9 (ints .u8 (zs 32)) 22 (by rw [hevs]; simp)
        simp only [fill]
        go_wp2
        exact ⟨_, by kernel_rfl, hh⟩
    intro s3 w3 h
    obtain ⟨v32, _⟩ := h.ev (evVal 8 32 (.agg (ints .u8 s))) (by rw [hevs]; simp) rfl
    obtain ⟨⟨r9, v9, g9⟩, n9⟩ := h.ev (evRoom 9 9 (ints .u8 (zs 32)) 22) (by rw [hevs]; simp) rfl
    rw [v9] at n9
    simp only [evRoom, ptrOwn, List.mem_singleton, forall_eq] at n9
    have h7 := (h6.call h.fr).room g9 (h6.fresh n9.1) (Nat.le_trans h6.fr.size n9.1)
    rw [HL5.out] at h7
    have H7 := Lib.hid h7
    have V32 := Lib.hid (show s3 32 = .agg (ints .u8 s) from v32)
    have V9 := Lib.hid (show s3 9 = _ from v9)
    clear h ok hevs v32 v9 n9 g9 h6 h7 hSR hSA hST
    refine drawn_end (ol := [_]) rfl (by kernel_rfl) ?_
    intro K hK
    simp only [fill]
    rw [V32.out, V9.out]
    have f0 := H7.out.nth 0 rfl
    have t0 := H7.out.lt 0 rfl
    generalize s3 27 = z27
    generalize s3 28 = z28
    go_upto_region 5 with (fail)
    refine OwB.named (Q := fun X => Code.wp _ _ _ _ X) (show OwB w [(r9, .cells (ints .u8 s) 22), (r8, .cells (ints .u8 R) 22), (r7, .cells (ints .u8 r) 22), (r6, .cells (ints .u8 A) 22), (r5, .cells (rowR .u8 C #[.slice (some ⟨b, 32, none⟩) 32 32]) 101), (b, .cells (ints .u8 U) 69), (b4, .cells (ints .u8 (zs 64)) 69), (b2, .cells (ints .u8 S) 22)] _ from H7.out.set 0 (.cells (ints .u8 s) 22) rfl) ?_
    intro V7 h7
    clear f0 t0 H7 V32 V9
    have h8 := h7.allocN (.cells (ints .u8 (zs 64)) 69) V7.heap.size rfl
    go_upto_region 6 with (fail)
    refine OwB.named (Q := fun X => Code.wp _ _ _ _ X) h8 ?_
    intro V8 h9
    generalize V7.heap.size = b10 at h9 ⊢
    clear h7 h8
    have f0 := h9.nth 0 rfl
    have f1 := h9.nth 1 rfl
    have f2 := h9.nth 2 rfl
    have f6 := h9.nth 7 rfl
    have t0 := h9.lt 0 rfl
    have t1 := h9.lt 1 rfl
    have t2 := h9.lt 2 rfl
    have t6 := h9.lt 7 rfl
    have e01 := h9.ne 0 1 rfl rfl (by decide)
    have e02 := h9.ne 0 2 rfl rfl (by decide)
    have e06 := h9.ne 0 7 rfl rfl (by decide)
    have e10 := e01.symm
    have e20 := e02.symm
    have e60 := e06.symm
    have H9 := Lib.hid h9
    clear h9
    refine drawn_head 2 (by kernel_rfl) rfl rfl (by kernel_rfl) ?_
    change rowK _ _ _ [0, 1] _ _
    repeat (refine rowK_step2 rfl rfl (fun K hK => ?_); go_wp2)
    refine rowK_nil ?_
    intro K hK
    go_wp2
    refine drawn_head 2 (by kernel_rfl) rfl rfl (by kernel_rfl) ?_
    change rowK _ _ _ [0, 1] _ _
    repeat (refine rowK_step2 rfl rfl (fun K hK => ?_); go_wp2)
    refine rowK_nil ?_
    intro K hK
    go_wp2
    have el : lay (lay (zs 64) 0 R) 32 s = R ++ s := by
      have e1 : lay (zs 64) 0 R = R ++ zs 32 := by rw [lay, lR]; rfl
      rw [e1, lay, ls, List.take_append_of_le_length (by omega), List.take_of_length_le (by omega), List.drop_of_length_le (by rw [List.length_append, lR, length_zs]; omega), List.append_nil]
    rw [el]
    have lRs : (R ++ s).length = 64 := by rw [List.length_append, lR, ls]
    have hn2 := ((H9.out.set 0 (.cells (ints .u8 (R ++ s)) 69) rfl).set 7 (.cells (ints .u8 (R ++ s)) 69) rfl).drew.drew
    refine ret_cell rfl rfl rfl ?_
    refine cellRet_of (hn2.nth 7 rfl) (aggB_ints lRs (by kernel_rfl)) ?_
    exact ⟨rfl, hn2.fr⟩
end
end Go.Proofs.Ytakhmmnklkckpaa
