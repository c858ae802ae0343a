/- Signatures: the document's Long; a seed's halves, on both sides. -/
import Derived.Test.YtakhmmnklkckpaaShF
import Derived.Test.YtakhmmnklkckpaaZi
namespace Go.Proofs.Ytakhmmnklkckpaa
open Go.RowKit Go.Dr
theorem _root_.Go.Sl.row' {k : IntKind} {w : World} {b off n cap : Nat} {l : List Int} (h : Sl k w (some ⟨b, off, none⟩) n cap l) (h0 : 0 < n) :
    ∃ cs T fr, w.blk b = some (.cells cs T fr) ∧ off + n ≤ cs.size ∧ cs.extract off (off + n) = ints k l := by
  obtain ⟨b', off', cs, T, fr, hp, hb, hs, hl⟩ := h.out h0
  simp only [Option.some.injEq, Addr.mk.injEq, and_true] at hp
  obtain ⟨rfl, rfl⟩ := hp
  exact ⟨cs, T, fr, hb, hs, Array.ext' (by rw [hl, toList_ints])⟩
section
variable {w : World}
set_option maxRecDepth 100000 in
set_option maxHeartbeats 2000000 in
theorem long_f {p : Option Addr} {n cap : Nat} {B : List Int} (S : Sl .u8 w p n cap B) (hB : Byt B) (hn : n ≤ 70368744177664) :
    Calls Try.prog 102 #[.slice p n cap] w fun e w' => e = .returned (.agg (ints .u8 (sumF B))) ∧ Fr [] w w' := by
  have HS := Lib.hid S
  have HB := Lib.hid hB
  clear S hB
  go_enter Try.func102, Try.ntmps102
  go_wp2_with fail
  refine OwB.named (Q := fun X => Code.wp _ _ _ _ X) (show OwB w [(w.heap.size + 1, .cells (ints .u8 (zs 64)) 69), (w.heap.size, .cells (ints .u8 (zs 64)) 69)] _ from ((OwB.start w).allocN (.cells (ints .u8 (zs 64)) 69) w.heap.size rfl).allocN (.cells (ints .u8 (zs 64)) 69) (w.heap.size + 1) (by simp)) ?_
  intro V hV
  generalize w.heap.size + 1 = b1 at hV ⊢
  generalize w.heap.size = b0 at hV ⊢
  refine drawn_begin 3 (OwB w [(b1, .cells (ints .u8 (zs 64)) 69), (b0, .cells (ints .u8 (zs 64)) 69)]) (by kernel_rfl) ?_
  refine OwB.named (Q := fun X => Go.Dr.wpAnyS Try.prog .any _ _ _ _ _ _ _ X) hV.drew ?_
  intro V1 h1
  clear hV
  refine drawn_reads (fuel := 2) [0, 1] rfl (by kernel_rfl) h1 ?_
  repeat (first | (refine rowK_step2 rfl rfl (fun K hK => ?_); go_wp2) | (refine rowK_step rfl (fun K hK => ?_); go_simp; refine hK _ ?_; clear hK K))
  refine rowK_nil ⟨fun w' hw' => ?_, ?_⟩
  · repeat (first | (refine rowWp_step2 rfl rfl (fun K hK => ?_); go_wp2) | (refine rowWp_step rfl (fun K hK => ?_); go_simp; refine hK _ ?_; clear hK K))
    exact rowWp_nil rfl
  refine drawn_next 2 (fuel := 1) rfl (by kernel_rfl) ?_
  intro K hK
  go_wp2_with fail
  refine (dhash_f (HS.out.fr0 h1.fr) HB.out hn).mono ?_
  rintro e w3 ⟨b, c, rfl, hs, hb, F⟩
  obtain ⟨cs, T, fr, hcs, hsz, hrow⟩ := hs.row' (by omega)
  rw [Nat.zero_add] at hsz hrow
  have h2 := h1.call F
  have e0 : b ≠ b1 := by have := h1.lt 0 rfl; omega
  have e1 := e0.symm
  obtain ⟨U, hU⟩ : ∃ U, U = sumF B := ⟨_, rfl⟩
  have lU : U.length = 64 := by rw [hU]; exact length_sumF B
  rw [← hU] at hrow
  have HU := Lib.hid hU
  clear F h1 hs hU
  simp only []
  go_wp2
  refine ⟨h2, ?_⟩
  refine drawn_end (ol := [_]) rfl (by kernel_rfl) ?_
  intro K hK
  have f0 := h2.nth 0 rfl
  have f1 := h2.nth 1 rfl
  have t0 := h2.lt 0 rfl
  have t1 := h2.lt 1 rfl
  have t2 := World.at_lt hcs
  have e2 := h2.ne 0 1 rfl rfl (by decide)
  go_wp2
  have hn := (h2.set 0 (.cells (ints .u8 U) 69) rfl).set 1 (.cells (ints .u8 U) 69) rfl
  refine ret_cell rfl rfl rfl ?_
  refine cellRet_of (hn.nth 1 rfl) (aggB_ints lU (by kernel_rfl)) ?_
  exact ⟨by rw [HU.out], hn.fr⟩
end
@[go_sem] theorem halves0 : (#[.int .u8 0, .int .u8 0, .int .u8 0, .int .u8 0, .int .u8 0, .int .u8 0, .int .u8 0, .int .u8 0, .int .u8 0, .int .u8 0, .int .u8 0, .int .u8 0, .int .u8 0, .int .u8 0, .int .u8 0, .int .u8 0, .int .u8 0, .int .u8 0, .int .u8 0, .int .u8 0, .int .u8 0, .int .u8 0, .int .u8 0, .int .u8 0, .int .u8 0, .int .u8 0, .int .u8 0, .int .u8 0, .int .u8 0, .int .u8 0, .int .u8 0, .int .u8 0, .slice none 0 0] : Array Value) = rowR .u8 (zs 32) #[.slice none 0 0] := rfl
theorem set_rowR_out (k : IntKind) (l : List Int) (u v : Value) (n : Nat) (h : l.length = n) : (rowR k l #[u]).setIfInBounds n v = rowR k l #[v] := by
  subst h
  rw [rowR, rowR]
  apply Array.ext'
  simp [ints]
theorem getElem?_rowR_out (k : IntKind) (l : List Int) (u : Value) (n : Nat) (h : l.length = n) : (rowR k l #[u])[n]? = some u := by
  subst h
  rw [rowR, Array.getElem?_append_right (by rw [size_ints]; exact Nat.le_refl _), size_ints, Nat.sub_self]
  rfl
theorem spl_rowR_all (k : IntKind) (l m : List Int) (r : Array Value) (h : l.length = m.length) : spl (rowR k l r) 0 (m.map (Value.int k)) = rowR k m r := by
  apply Array.ext'
  simp [spl, rowR, ints, h]
@[go_sem] theorem ones_rowR (k : IntKind) (l : List Int) (p : Option Addr) (n c : Nat) : ones (rowR k l #[.slice p n c]).toList = true := by
  rw [rowR, Array.toList_append, toList_ints, ones, List.all_append, Bool.and_eq_true]
  exact ⟨List.all_eq_true.2 fun v hv => by obtain ⟨x, _, rfl⟩ := List.mem_map.1 hv; rfl, rfl⟩
@[go_sem] theorem extract_rowR1 (k : IntKind) (l : List Int) (v : Value) (n : Nat) (h : l.length + 1 = n) : (rowR k l #[v]).extract 0 n = rowR k l #[v] := by
  rw [← h]
  apply Array.ext'
  simp [rowR, ints, List.take_of_length_le]
attribute [go_sem] set_rowR_out getElem?_rowR_out spl_rowR_all
theorem and248_all : ∀ n : Fin 256, bits .and .u8 ((n.val : Nat) : Int) 248 = ((n.val / 8 * 8 : Nat) : Int) := by decide +kernel
theorem andor_all : ∀ n : Fin 256, bits .or .u8 (bits .and .u8 ((n.val : Nat) : Int) 127) 64 = ((n.val % 64 + 64 : Nat) : Int) := by decide +kernel
theorem and248 {x : Int} (h : 0 ≤ x ∧ x < 256) : bits .and .u8 x 248 = x / 8 * 8 := by
  have h1 := and248_all ⟨x.toNat, by omega⟩
  simp only [Int.toNat_of_nonneg h.1] at h1
  rw [h1]; omega
theorem andor {x : Int} (h : 0 ≤ x ∧ x < 256) : bits .or .u8 (bits .and .u8 x 127) 64 = x % 64 + 64 := by
  have h1 := andor_all ⟨x.toNat, by omega⟩
  simp only [Int.toNat_of_nonneg h.1] at h1
  rw [h1]; omega
/-- A seed's number. -/
def clampB (h : List Int) : List Int := ((h.take 32).set 0 (el h 0 / 8 * 8)).set 31 (el h 31 % 64 + 64)
section
variable {w : World}
set_option maxRecDepth 100000 in
set_option maxHeartbeats 4000000 in
theorem split_f {S : List Int} (lS : S.length = 32) (hS : Byt S) :
    Calls Try.prog 88 #[.agg (ints .u8 S)] w fun e w' => ∃ b, e = .returned (.agg (rowR .u8 (clampB (sumF S)) #[.slice (some ⟨b, 32, none⟩) 32 32])) ∧ w'.blk b = some (.cells (ints .u8 (sumF S)) 69) ∧ w.heap.size ≤ b ∧ Fr [] w w' := by
  have HS := Lib.hid hS
  clear hS
  go_enter Try.func88, Try.ntmps88
  go_wp2_with fail
  have hO : OwB w [(w.heap.size + 1, .cells (rowR .u8 (zs 32) #[.slice none 0 0]) 101), (w.heap.size, .cells (ints .u8 S) 22)] _ := ((OwB.start w).allocN (.cells (ints .u8 S) 22) w.heap.size rfl).allocN (.cells (rowR .u8 (zs 32) #[.slice none 0 0]) 101) (w.heap.size + 1) (by simp)
  refine (sum512_f (Sl.ofInts (k := .u8) (n := 32) (cap := 32) (off := 0) (hO.nth 1 rfl) (by omega) (by rw [List.drop_zero, List.take_of_length_le (by omega)]) (Nat.le_refl 32)) HS.out (by omega)).mono ?_
  rintro e w1 ⟨rfl, F⟩
  have hO1 := hO.call F
  obtain ⟨U, hU⟩ : ∃ U, U = sumF S := ⟨_, rfl⟩
  have lU : U.length = 64 := by rw [hU]; exact length_sumF S
  have yU : Byt U := by rw [hU]; exact byt_sumF S
  rw [← hU]
  have HU := Lib.hid hU
  have YU := Lib.hid yU
  clear hU yU F hO
  simp only []
  go_wp2_with fail
  refine OwB.named (Q := fun X => Code.wp _ _ _ _ X) (show OwB w [(w1.heap.size + 1, .cells (rowR .u8 (zs 32) #[.slice none 0 0]) 101), (w1.heap.size, .cells (ints .u8 U) 69), (w.heap.size + 1, .cells (rowR .u8 (zs 32) #[.slice none 0 0]) 101), (w.heap.size, .cells (ints .u8 S) 22)] _ from (hO1.allocN (.cells (ints .u8 U) 69) w1.heap.size rfl).allocN (.cells (rowR .u8 (zs 32) #[.slice none 0 0]) 101) (w1.heap.size + 1) (by simp)) ?_
  intro V hV
  generalize w1.heap.size + 1 = b4 at hV ⊢
  generalize w1.heap.size = b3 at hV ⊢
  generalize w.heap.size + 1 = b2 at hV ⊢
  generalize w.heap.size = b1 at hV ⊢
  have f0 := hV.nth 0 rfl
  have f1 := hV.nth 1 rfl
  have f2 := hV.nth 2 rfl
  have t0 := hV.lt 0 rfl
  have t1 := hV.lt 1 rfl
  have t2 := hV.lt 2 rfl
  have e01 := hV.ne 0 1 rfl rfl (by decide)
  have e02 := hV.ne 0 2 rfl rfl (by decide)
  have e12 := hV.ne 1 2 rfl rfl (by decide)
  have e10 := e01.symm
  have e20 := e02.symm
  have e21 := e12.symm
  have HV := Lib.hid hV
  clear hV hO1
  obtain ⟨N, hN⟩ : ∃ N, N = U.take 32 := ⟨_, rfl⟩
  have lN : N.length = 32 := by rw [hN, List.length_take, lU]; rfl
  have yN : Byt N := by rw [hN]; exact byt_take YU.out 32
  have hex : (ints .u8 U).extract 0 32 = ints .u8 N := by rw [hN]; simp [ints]
  have eN0 : el N 0 = el U 0 := by rw [hN]; exact el_take U 32 0 (by omega)
  have eN31 : el N 31 = el U 31 := by rw [hN]; exact el_take U 32 31 (by omega)
  have r0 := byt_el yN 0
  have r31 := byt_el yN 31
  have a0 := and248 r0
  have h31 : el (N.set 0 (el N 0 / 8 * 8)) 31 = el N 31 := by rw [el_set _ _ _ _ (by omega), if_neg (by decide)]
  have a31 := andor r31
  have HN := Lib.hid hN
  have HEN0 := Lib.hid eN0
  have HEN31 := Lib.hid eN31
  clear hN yN eN0 eN31
  refine drawn_head 3 (by kernel_rfl) rfl rfl (by kernel_rfl) ?_
  change rowK _ _ _ [0, 1, 2] _ _
  repeat (refine rowK_step2 rfl rfl (fun K hK => ?_); go_wp2)
  refine rowK_nil ?_
  intro K hK
  go_wp2
  have eC : (N.set 0 (el N 0 / 8 * 8)).set 31 (el N 31 % 64 + 64) = clampB (sumF S) := by
    rw [HEN0.out, HEN31.out, HN.out, HU.out]; rfl
  rw [eC]
  have hn := ((HV.out.set 0 (.cells (rowR .u8 (clampB (sumF S)) #[.slice (some ⟨b3, 32, none⟩) 32 32]) 101) rfl).set 2 (.cells (rowR .u8 (clampB (sumF S)) #[.slice (some ⟨b3, 32, none⟩) 32 32]) 101) rfl).drew
  have lC : (clampB (sumF S)).length = 32 := by rw [← eC, List.length_set, List.length_set, lN]
  refine ret_cell rfl rfl rfl ?_
  refine cellRet_of (hn.nth 2 rfl) (by rw [size_rowR, lC]; kernel_rfl) ?_
  have h1 := hn.nth 1 rfl
  rw [HU.out] at h1
  exact ⟨b3, rfl, h1, hn.low 1 rfl, hn.fr⟩
theorem length_clampB {h : List Int} (l : h.length = 64) : (clampB h).length = 32 := by rw [clampB, List.length_set, List.length_set, List.length_take, l]; rfl
theorem byt_clampB {h : List Int} (hb : Byt h) : Byt (clampB h) := by
  have h0 := byt_el hb 0
  have h31 := byt_el hb 31
  exact byt_set (byt_set (byt_take hb 32) 0 (by omega)) 31 (by omega)
set_option maxRecDepth 100000 in
set_option maxHeartbeats 4000000 in
theorem parts_f {S : List Int} (lS : S.length = 32) (hS : Byt S) :
    Calls Try.prog 89 #[.agg (ints .u8 S)] w fun e w' => ∃ q c, e = .returned (.tuple #[.agg (ints .u8 (clampB (sumF S))), .slice q 32 c]) ∧ Sl .u8 w' q 32 c ((sumF S).drop 32) ∧ Fr [] w w' := by
  have HS := Lib.hid hS
  clear hS
  go_enter Try.func89, Try.ntmps89
  go_wp2_with fail
  have hO : OwB w [(w.heap.size + 1, .cells (ints .u8 (zs 32)) 22), (w.heap.size, .cells (ints .u8 S) 22)] _ := ((OwB.start w).allocN (.cells (ints .u8 S) 22) w.heap.size rfl).allocN (.cells (ints .u8 (zs 32)) 22) (w.heap.size + 1) (by simp)
  refine (long_f (Sl.ofInts (k := .u8) (n := 32) (cap := 32) (off := 0) (hO.nth 1 rfl) (by omega) (by rw [List.drop_zero, List.take_of_length_le (by omega)]) (Nat.le_refl 32)) HS.out (by omega)).mono ?_
  rintro e w1 ⟨rfl, F⟩
  have hO1 := hO.call F
  obtain ⟨U, hU⟩ : ∃ U, U = sumF S := ⟨_, rfl⟩
  have lU : U.length = 64 := by rw [hU]; exact length_sumF S
  have yU : Byt U := by rw [hU]; exact byt_sumF S
  rw [← hU]
  have HU := Lib.hid hU
  have YU := Lib.hid yU
  clear hU yU F hO
  simp only []
  go_wp2_with fail
  refine OwB.named (Q := fun X => Code.wp _ _ _ _ X) (show OwB w [(w1.heap.size + 1, .cells (ints .u8 (zs 32)) 22), (w1.heap.size, .cells (ints .u8 U) 69), (w.heap.size + 1, .cells (ints .u8 (zs 32)) 22), (w.heap.size, .cells (ints .u8 S) 22)] _ from (hO1.allocN (.cells (ints .u8 U) 69) w1.heap.size rfl).allocN (.cells (ints .u8 (zs 32)) 22) (w1.heap.size + 1) (by simp)) ?_
  intro V hV
  generalize w1.heap.size + 1 = b4 at hV ⊢
  generalize w1.heap.size = b3 at hV ⊢
  generalize w.heap.size + 1 = b2 at hV ⊢
  generalize w.heap.size = b1 at hV ⊢
  have f0 := hV.nth 0 rfl
  have f1 := hV.nth 1 rfl
  have t0 := hV.lt 0 rfl
  have t1 := hV.lt 1 rfl
  have e01 := hV.ne 0 1 rfl rfl (by decide)
  have e10 := e01.symm
  have HV := Lib.hid hV
  clear hV hO1
  obtain ⟨N, hN⟩ : ∃ N, N = U.take 32 := ⟨_, rfl⟩
  have lN : N.length = 32 := by rw [hN, List.length_take, lU]; rfl
  have yN : Byt N := by rw [hN]; exact byt_take YU.out 32
  have hex : (ints .u8 U).extract 0 32 = ints .u8 N := by rw [hN]; simp [ints]
  have eN0 : el N 0 = el U 0 := by rw [hN]; exact el_take U 32 0 (by omega)
  have eN31 : el N 31 = el U 31 := by rw [hN]; exact el_take U 32 31 (by omega)
  have r0 := byt_el yN 0
  have r31 := byt_el yN 31
  have h31 : el (N.set 0 (el N 0 / 8 * 8)) 31 = el N 31 := by rw [el_set _ _ _ _ (by omega), if_neg (by decide)]
  have HN := Lib.hid hN
  have HEN0 := Lib.hid eN0
  have HEN31 := Lib.hid eN31
  clear hN yN eN0 eN31
  refine drawn_head 2 (by kernel_rfl) rfl rfl (by kernel_rfl) ?_
  change rowK _ _ _ [0, 1] _ _
  repeat (refine rowK_step2 rfl rfl (fun K hK => ?_); go_wp2)
  refine rowK_nil ?_
  intro K hK
  go_wp2
  have eC : (N.set 0 (el N 0 / 8 * 8)).set 31 (el N 31 % 64 + 64) = clampB (sumF S) := by
    rw [HEN0.out, HEN31.out, HN.out, HU.out]; rfl
  rw [eC]
  obtain ⟨C, hC⟩ : ∃ C, C = clampB (sumF S) := ⟨_, rfl⟩
  have lC : C.length = 32 := by rw [hC]; exact length_clampB (length_sumF S)
  rw [← hC]
  have hn := (HV.out.set 0 (.cells (ints .u8 C) 22) rfl).drew
  refine OwB.named (Q := fun X => Code.wp _ _ _ _ X) hn ?_
  intro V2 hV2
  have HC := Lib.hid hC
  have g0 := hV2.nth 0 rfl
  have g1 := hV2.nth 1 rfl
  have g2 := hV2.nth 2 rfl
  have u0 := hV2.lt 0 rfl
  have u1 := hV2.lt 1 rfl
  have u2 := hV2.lt 2 rfl
  have e02 := hV2.ne 0 2 rfl rfl (by decide)
  have e12 := hV2.ne 1 2 rfl rfl (by decide)
  clear f0 f1 t0 t1 hex hC eC hn g0 g1 g2 u0 u1 u2 e02 e12
  obtain ⟨L, hL⟩ : ∃ L : List (Nat × Obj), L = [(b4, .cells (ints .u8 C) 22), (b3, .cells (ints .u8 U) 69), (b2, .cells (ints .u8 (zs 32)) 22), (b1, .cells (ints .u8 S) 22)] := ⟨_, rfl⟩
  have hV3 : OwB w L V2 := by rw [hL]; exact hV2
  have HL := Lib.hid hL
  clear hL hV2
  refine drawn_begin 4 (OwB w L) (by kernel_rfl) ?_
  refine OwB.named (Q := fun X => Go.Dr.wpAnyS Try.prog .any _ _ _ _ _ _ _ X) hV3.drew ?_
  intro V1 h1
  clear hV3
  have s1 := HL.out ▸ h1
  have f0 := s1.nth 0 rfl
  refine drawn_reads (fuel := 3) [0, 1, 2] rfl (by kernel_rfl) h1 ?_
  repeat (first | (refine rowK_step2 rfl rfl (fun K hK => ?_); go_wp2) | (refine rowK_step rfl (fun K hK => ?_); go_simp; refine hK _ ?_; clear hK K))
  refine rowK_nil ⟨fun w' hw' => ?_, ?_⟩
  · have s2 := HL.out ▸ hw'
    have g0 := s2.nth 0 rfl
    clear f0 s1
    repeat (first | (refine rowWp_step2 rfl rfl (fun K hK => ?_); go_wp2) | (refine rowWp_step rfl (fun K hK => ?_); go_simp; refine hK _ ?_; clear hK K))
    exact rowWp_nil rfl
  have hB0 := Bld.nil (k := .u8) (e := 5) h1
  have hS1 := Sl.ofInts (k := .u8) (off := 32) (n := 32) (cap := 32) (l := U.drop 32) (s1.nth 1 rfl) (by omega) (by rw [List.take_of_length_le (by rw [List.length_drop]; omega)]) (Nat.le_refl 32)
  clear f0 s1
  have hB0 := Lib.hid hB0
  have hS1 := Lib.hid hS1
  refine drawn_next 3 (fuel := 2) rfl (by kernel_rfl) ?_
  intro K hK
  refine wpList_app8 rfl (.tmp 23) (.tmp 24) rfl rfl hB0.out rfl hS1.out (by omega) ?_
  intro p7 c7 w7 B7
  rw [Nat.zero_add, List.nil_append] at B7
  have hB7 := Lib.hid B7
  clear B7 hB0 hS1 h1
  go_wp2
  refine ⟨hB7.out.own, ?_⟩
  refine drawn_end (ol := [_, _]) rfl (by kernel_rfl) ?_
  intro K hK
  have s1 := HL.out ▸ hB7.out.own
  have f2 := s1.nth 2 rfl
  have t2 := s1.lt 2 rfl
  go_wp2_with fail
  have hn := s1.set 2 (.cells (ints .u8 C) 22) rfl
  have hs := hB7.out.sl.fr (fp := [b2]) ((Fr.refl [b2] w7).put b2 (.cells (ints .u8 C) 22) (by simp)) (fun g hg hm => by
    rw [List.mem_singleton] at hm
    subst hm
    exact (hB7.out.new g hg).2 (by rw [HL.out]; simp))
  refine ret_cell_tmp rfl rfl rfl ?_
  refine cellRet_of (hn.nth 2 rfl) (aggB_ints lC (by kernel_rfl)) ?_
  rw [HU.out] at hs
  exact ⟨p7, c7, by rw [← HC.out]; rfl, hs, hn.fr⟩
end
end Go.Proofs.Ytakhmmnklkckpaa
