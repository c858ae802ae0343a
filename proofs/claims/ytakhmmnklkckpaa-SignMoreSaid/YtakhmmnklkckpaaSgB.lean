/- Signatures: public keys, on both sides. -/
import Derived.Test.YtakhmmnklkckpaaSgA
import Derived.Test.YtakhmmnklkckpaaCwX
namespace Go.Proofs.Ytakhmmnklkckpaa
open Go.RowKit Go.Dr
@[go_sem] theorem extract_rowR0 (k : IntKind) (l : List Int) (r : Array Value) (n : Nat) (h : l.length = n) : (rowR k l r).extract 0 n = ints k l := by
  rw [← h]
  apply Array.ext'
  simp [rowR, ints, List.take_of_length_le]
@[go_sem] theorem pop_rowR (k : IntKind) (l : List Int) (v : Value) : (rowR k l #[v]).pop = ints k l := by
  simp [rowR]
@[go_sem] theorem field101_0 (cs : Array Value) (w : World) : (Instr.field 101 (.agg cs) 0).run Try.prog w = .ok (.agg (cs.extract 0 32)) w := by kernel_rfl
theorem field101_1' (cs : Array Value) (w : World) : (Instr.field 101 (.agg cs) 1).run Try.prog w = (match cs[32]? with | some v => (pure v : Sem Value) | none => stuck "part: no such cell").run Try.prog w := by kernel_rfl
@[go_sem] theorem field101_1 (N : List Int) (v : Value) (w : World) (h : N.length = 32) : (Instr.field 101 (.agg (rowR .u8 N #[v])) 1).run Try.prog w = .ok v w := by
  rw [field101_1', getElem?_rowR_out _ _ _ _ h]; rfl
/-- So many times the base, as bytes. -/
def baseB (n : List Int) : List Int := encP (mulP dC (numB n) bsP)
/-- A seed's public key. -/
def pubB (S : List Int) : List Int := baseB (clampB (sumF S))
theorem length_baseB (n : List Int) : (baseB n).length = 32 := length_encP _
theorem byt_baseB (n : List Int) : Byt (baseB n) := byt_encP _
section
variable {w : World}
set_option maxRecDepth 100000 in
set_option maxHeartbeats 4000000 in
theorem public_core {S C R : List Int} {bs M : Pt} (lS : S.length = 32) (hS : Byt S) (hC : clampB (sumF S) = C) (hbs : bsP = bs) (hM : mulP dC (numB C) bs = M) (hR : encP M = R) :
    Calls Try.prog 61 #[.agg (ints .u8 S)] w fun e w' => e = .returned (.agg (ints .u8 R)) ∧ Fr [] w w' := by
  have lC : C.length = 32 := by rw [← hC]; exact length_clampB (length_sumF S)
  have yC : Byt C := by rw [← hC]; exact byt_clampB (byt_sumF S)
  have lR : R.length = 32 := by rw [← hR]; exact length_encP _
  have HS := Lib.hid hS
  have HC := Lib.hid hC
  have HBS := Lib.hid hbs
  have HM := Lib.hid hM
  have HR := Lib.hid hR
  have YC := Lib.hid yC
  clear hS hC hbs hM hR yC
  go_enter Try.func61, Try.ntmps61
  go_wp2_with fail
  have hO : OwB w [(w.heap.size + 1, .cells (ints .u8 (zs 32)) 22), (w.heap.size, .cells (ints .u8 S) 22)] _ := ((OwB.start w).allocN (.cells (ints .u8 S) 22) w.heap.size rfl).allocN (.cells (ints .u8 (zs 32)) 22) (w.heap.size + 1) (by simp)
  refine (split_f lS HS.out).mono ?_
  rintro e w1 ⟨b, rfl, x1, x2, F⟩
  clear x1 x2
  rw [HC.out]
  have hO1 := hO.call F
  clear hO F
  simp only []
  generalize w.heap.size + 1 = b1 at hO1 ⊢
  generalize w.heap.size = b0 at hO1 ⊢
  have HO1 := Lib.hid hO1
  clear hO1
  go_wp2_with fail
  refine (cbase_n HBS.out).mono ?_
  rintro e w2 ⟨x, y, z, t, s, rfl, k, F⟩
  have HO2 := Lib.hid (HO1.out.call F)
  have nx := k.nx
  have ny := k.ny
  have nz := k.nz
  have nt := k.nt
  have HK := Lib.hid k
  clear k F HO1
  simp only []
  go_wp2_with fail
  refine (cmulP_n HM.out lC YC.out HK.out).mono ?_
  rintro e w3 ⟨x', y', z', t', s', rfl, k, F⟩
  have HO3 := Lib.hid (HO2.out.call F)
  clear nx ny nz nt HK
  have nx := k.nx
  have ny := k.ny
  have nz := k.nz
  have nt := k.nt
  have HK := Lib.hid k
  clear k F HO2
  simp only []
  go_wp2_with fail
  refine (cenc_p HR.out HK.out).mono ?_
  rintro e w4 ⟨rfl, F⟩
  have h4 := HO3.out.call F
  clear F HO3
  have f0 := h4.nth 0 rfl
  have t0 := h4.lt 0 rfl
  simp only []
  go_wp2_with fail
  have hn := h4.set 0 (.cells (ints .u8 R) 22) rfl
  refine ret_cell rfl rfl rfl ?_
  refine cellRet_of (hn.nth 0 rfl) (aggB_ints lR (by kernel_rfl)) ?_
  exact ⟨rfl, hn.fr⟩
theorem public_f {S : List Int} (lS : S.length = 32) (hS : Byt S) : Calls Try.prog 61 #[.agg (ints .u8 S)] w fun e w' => e = .returned (.agg (ints .u8 (pubB S))) ∧ Fr [] w w' := public_core lS hS rfl rfl rfl rfl
set_option maxRecDepth 100000 in
set_option maxHeartbeats 4000000 in
theorem dbaseB_core {C R : List Int} {bs M : Pt} (lC : C.length = 32) (yC : Byt C) (hbs : bsP = bs) (hM : mulP dC (numB C) bs = M) (hR : encP M = R) :
    Calls Try.prog 90 #[.agg (ints .u8 C)] w fun e w' => e = .returned (.agg (ints .u8 R)) ∧ Fr [] w w' := by
  have lR : R.length = 32 := by rw [← hR]; exact length_encP _
  have HBS := Lib.hid hbs
  have HM := Lib.hid hM
  have HR := Lib.hid hR
  have YC := Lib.hid yC
  clear hbs hM hR yC
  go_enter Try.func90, Try.ntmps90
  go_wp2_with fail
  refine OwB.named (Q := fun X => Code.wp _ _ _ _ X) (show OwB w [(w.heap.size + 1, .cells (ints .u8 (zs 32)) 22), (w.heap.size, .cells (ints .u8 C) 22)] _ from ((OwB.start w).allocN (.cells (ints .u8 C) 22) w.heap.size rfl).allocN (.cells (ints .u8 (zs 32)) 22) (w.heap.size + 1) (by simp)) ?_
  intro V hV
  generalize w.heap.size + 1 = b1 at hV ⊢
  generalize w.heap.size = b0 at hV ⊢
  obtain ⟨L, hL⟩ : ∃ L : List (Nat × Obj), L = [(b1, .cells (ints .u8 (zs 32)) 22), (b0, .cells (ints .u8 C) 22)] := ⟨_, rfl⟩
  rw [← hL] at hV
  have HL := Lib.hid hL
  clear hL
  refine drawn_begin 4 (OwB w L) (by kernel_rfl) ?_
  refine OwB.named (Q := fun X => Go.Dr.wpAnyS Try.prog .any _ _ _ _ _ _ _ X) hV.drew ?_
  intro V1 h1
  clear hV
  have s1 := HL.out ▸ h1
  have f1 := s1.nth 1 rfl
  refine drawn_reads (fuel := 4) [0] rfl (by kernel_rfl) h1 ?_
  repeat (first | (refine rowK_step2 rfl rfl (fun K hK => ?_); go_wp2) | (refine rowK_step rfl (fun K hK => ?_); go_simp; refine hK _ ?_; clear hK K))
  refine rowK_nil ⟨fun w' hw' => ?_, ?_⟩
  · have s2 := HL.out ▸ hw'
    have g0 := s2.nth 1 rfl
    clear f1 s1
    repeat (first | (refine rowWp_step2 rfl rfl (fun K hK => ?_); go_wp2) | (refine rowWp_step rfl (fun K hK => ?_); go_simp; refine hK _ ?_; clear hK K))
    exact rowWp_nil rfl
  clear f1 s1
  refine drawn_next 1 (fuel := 3) rfl (by kernel_rfl) ?_
  intro K hK
  go_wp2_with fail
  refine (dbase_n HBS.out).mono ?_
  rintro e w2 ⟨X, Y, Z, rfl, k, F⟩
  have h2 := h1.call F
  have HK := Lib.hid k
  clear k F h1
  simp only []
  go_wp2
  refine ⟨h2, ?_⟩
  refine drawn_next 2 (fuel := 2) rfl (by kernel_rfl) ?_
  intro K hK
  go_wp2_with fail
  refine (dmulP_n HM.out lC YC.out HK.out).mono ?_
  rintro e w3 ⟨X', Y', Z', rfl, k, F⟩
  have h3 := h2.call F
  clear HK
  have HK := Lib.hid k
  clear k F h2
  simp only []
  go_wp2
  refine ⟨h3, ?_⟩
  refine drawn_next 3 (fuel := 1) rfl (by kernel_rfl) ?_
  intro K hK
  go_wp2_with fail
  refine (denc_p HR.out HK.out).mono ?_
  rintro e w4 ⟨rfl, F⟩
  have h4 := h3.call F
  clear F HK h3
  simp only []
  go_wp2
  refine ⟨h4, ?_⟩
  refine drawn_end (ol := [_]) rfl (by kernel_rfl) ?_
  intro K hK
  have s1 := HL.out ▸ h4
  have f0 := s1.nth 0 rfl
  have t0 := s1.lt 0 rfl
  go_wp2_with fail
  have hn := s1.set 0 (.cells (ints .u8 R) 22) rfl
  refine ret_cell rfl rfl rfl ?_
  refine cellRet_of (hn.nth 0 rfl) (aggB_ints lR (by kernel_rfl)) ?_
  exact ⟨rfl, hn.fr⟩
theorem dbaseB_f {C : List Int} (lC : C.length = 32) (yC : Byt C) : Calls Try.prog 90 #[.agg (ints .u8 C)] w fun e w' => e = .returned (.agg (ints .u8 (baseB C))) ∧ Fr [] w w' := dbaseB_core lC yC rfl rfl rfl
set_option maxRecDepth 100000 in
set_option maxHeartbeats 4000000 in
theorem dpublic_core {S C R : List Int} (lS : S.length = 32) (hS : Byt S) (hC : clampB (sumF S) = C) (hR : baseB C = R) :
    Calls Try.prog 62 #[.agg (ints .u8 S)] w fun e w' => e = .returned (.agg (ints .u8 R)) ∧ Fr [] w w' := by
  have lC : C.length = 32 := by rw [← hC]; exact length_clampB (length_sumF S)
  have yC : Byt C := by rw [← hC]; exact byt_clampB (byt_sumF S)
  have lR : R.length = 32 := by rw [← hR]; exact length_baseB _
  have HS := Lib.hid hS
  have HC := Lib.hid hC
  have HR := Lib.hid hR
  have YC := Lib.hid yC
  clear hS hC hR yC
  go_enter Try.func62, Try.ntmps62
  go_wp2_with fail
  have hO : OwB w [(w.heap.size + 1, .cells (ints .u8 (zs 32)) 22), (w.heap.size, .cells (ints .u8 S) 22)] _ := ((OwB.start w).allocN (.cells (ints .u8 S) 22) w.heap.size rfl).allocN (.cells (ints .u8 (zs 32)) 22) (w.heap.size + 1) (by simp)
  refine (parts_f lS HS.out).mono ?_
  rintro e w1 ⟨q, c, rfl, x1, F⟩
  clear x1
  rw [HC.out]
  have hO1 := hO.call F
  clear hO F
  simp only []
  generalize w.heap.size + 1 = b1 at hO1 ⊢
  generalize w.heap.size = b0 at hO1 ⊢
  have HO1 := Lib.hid hO1
  clear hO1
  go_wp2_with fail
  have hO2 := HO1.out.allocN (.cells (ints .u8 C) 22) w1.heap.size rfl
  refine (dbaseB_f lC YC.out).mono ?_
  rintro e w2 ⟨rfl, F⟩
  rw [HR.out]
  have h4 := hO2.call F
  clear F HO1 hO2
  have f0 := h4.nth 1 rfl
  have t0 := h4.lt 1 rfl
  simp only []
  go_wp2_with fail
  have hn := h4.set 1 (.cells (ints .u8 R) 22) rfl
  refine ret_cell rfl rfl rfl ?_
  refine cellRet_of (hn.nth 1 rfl) (aggB_ints lR (by kernel_rfl)) ?_
  exact ⟨rfl, hn.fr⟩
theorem dpublic_f {S : List Int} (lS : S.length = 32) (hS : Byt S) : Calls Try.prog 62 #[.agg (ints .u8 S)] w fun e w' => e = .returned (.agg (ints .u8 (pubB S))) ∧ Fr [] w w' := dpublic_core lS hS rfl rfl
end
end Go.Proofs.Ytakhmmnklkckpaa
