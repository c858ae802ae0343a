/- The statements of the package field: their example; FieldBytes. -/
import Derived.Test.YtakhmmnklkckpaaRfH
namespace Go.Proofs.Ytakhmmnklkckpaa
open Go.RowKit Go.Dr

theorem val_neg_ne {x : Fp} (h : x ≠ 0) : (-x).val + x.val = pN := by
  have h1 : x.val ≠ 0 := fun h0 => h (Fin.ext h0)
  have h2 := x.isLt
  have h3 := val_negF x
  unfold prI at h3
  unfold pN
  omega
theorem evenOf_neg (x : Fp) : evenOf (-x) = evenOf x := by
  by_cases h : x = 0
  · subst h
    have : (-(0 : Fp)) = 0 := by grobner
    rw [this]
  · have h1 := val_neg_ne h
    unfold evenOf oddF
    by_cases h2 : x.val % 2 = 1
    · have h3 : ¬ (-x).val % 2 = 1 := by unfold pN at h1; omega
      rw [decide_eq_true h2, decide_eq_false h3, if_neg Bool.false_ne_true, if_pos rfl]
    · have h3 : (-x).val % 2 = 1 := by unfold pN at h1; omega
      rw [decide_eq_false h2, decide_eq_true h3, if_pos rfl, if_neg Bool.false_ne_true]
      grobner
theorem rCand_ok {x : Fp} (h : pw x pEight * pw x pEight = x ∨ pw x pEight * pw x pEight = -x) : rCand x * rCand x = x := by
  have him := im_im
  unfold rCand
  rcases h with h | h
  · by_cases hx : pw x pEight * pw x pEight = -x
    · rw [if_pos hx]; grobner
    · rw [if_neg hx]; exact h
  · rw [if_pos h]; grobner
/-- Of a square the root is the number or its contrary: the even one. -/
theorem root_sq (x : Fp) : rootOk (x * x) = true ∧ rootF (x * x) = evenOf x := by
  have h : rCand (x * x) * rCand (x * x) = x * x := by
    rcases root_cases (x * x) with ⟨_, h⟩ | ⟨_, _, _, h⟩
    · exact rCand_ok h
    · exact (h ⟨x, rfl⟩).elim
  have hok : rootOk (x * x) = true := decide_eq_true h
  refine ⟨hok, ?_⟩
  rw [rootF, if_pos hok]
  have h2 : (rCand (x * x) - x) * (rCand (x * x) + x) = 0 := by grobner
  rcases mul_zero_or h2 with h3 | h3
  · rw [show rCand (x * x) = x from by grobner]
  · rw [show rCand (x * x) = -x from by grobner, evenOf_neg]
/-- A small number's bytes. -/
def b1 (n : Int) : List Int := [n, 0, 0, 0, 0, 0, 0, 0, 0, 0, 0, 0, 0, 0, 0, 0, 0, 0, 0, 0, 0, 0, 0, 0, 0, 0, 0, 0, 0, 0, 0, 0]
theorem byt_b1 {n : Int} (h : 0 ≤ n ∧ n < 256) : Byt (b1 n) := by
  intro x hx
  simp only [b1, List.mem_cons, List.not_mem_nil, or_false] at hx
  rcases hx with rfl | hx
  · exact h
  · have : x = 0 := by rcases hx with h | h | h | h | h | h | h | h | h | h | h | h | h | h | h | h | h | h | h | h | h | h | h | h | h | h | h | h | h | h | h <;> exact h
    omega
theorem le_b1 (n : Int) : le (b1 n) = n := by simp [b1, le]
theorem byt_bytesF (x : Fp) : Byt (bytesF x) := fun y hy => by
  rw [bytesF, bytesL, List.mem_map] at hy
  obtain ⟨i, _, rfl⟩ := hy
  omega
/-- The number that bytes say. -/
def fromB (b : List Int) : Fp := toFp (le b % 57896044618658097711785492504343953926634992332820282019728792003956564819968)
theorem fromB_b1 {n : Int} (h : 0 ≤ n ∧ n < 256) : fromB (b1 n) = toFp n := by
  rw [fromB, le_b1, Int.emod_eq_of_lt h.1 (by omega)]
theorem fromB_bytesF (x : Fp) : fromB (bytesF x) = x := by
  have := x.isLt
  rw [fromB, le_bytesF, Int.emod_eq_of_lt (by omega) (by omega), toFp_val]
theorem bytesF_4 : bytesF (toFp 4) = b1 4 := by kernel_rfl
theorem bytesF_2 : bytesF (toFp 2) = b1 2 := by kernel_rfl
theorem bytesF_0 : bytesF 0 = b1 0 := by kernel_rfl
theorem root_4 : rootOk (toFp 4) = true ∧ rootF (toFp 4) = toFp 2 := by
  have h := root_sq (toFp 2)
  rw [show toFp 2 * toFp 2 = toFp 4 from by kernel_rfl] at h
  refine ⟨h.1, h.2.trans ?_⟩
  rw [evenOf, if_neg (show ¬ oddF (toFp 2) = true from by rw [show oddF (toFp 2) = false from by kernel_rfl]; exact Bool.false_ne_true)]
section
variable {w : World}
theorem of_b {b : List Int} (hlb : b.length = 32) (hb : Byt b) : Calls Try.prog 27 #[.agg (ints .u8 b)] w fun e w' => ∃ c, e = .returned (fe c) ∧ Is c (fromB b) ∧ Fr [] w w' := of_f hlb hb
theorem of_1 {n : Int} (h : 0 ≤ n ∧ n < 256) : Calls Try.prog 27 #[.agg (ints .u8 (b1 n))] w fun e w' => ∃ c, e = .returned (fe c) ∧ Is c (toFp n) ∧ Fr [] w w' := by
  have := of_b (w := w) (b := b1 n) rfl (byt_b1 h)
  rwa [fromB_b1 h] at this
set_option maxRecDepth 100000 in
set_option maxHeartbeats 1000000 in
theorem alive_any : Calls Try.prog 25 #[] w fun e w' => e = .returned (.bool true) ∧ Fr [] w w' := by
  go_enter Try.func25, Try.ntmps25
  go_wp2_with fail
  refine (of_1 (n := 2) (by decide)).mono ?_
  rintro e w1 ⟨t, rfl, ht, F1⟩
  have HT := Lib.hid ht
  have lt := ht.len
  have HF1 := Lib.hid F1
  clear ht F1
  go_wp2_with fail
  refine (of_1 (n := 4) (by decide)).mono ?_
  rintro e w2 ⟨f, rfl, hf, F2⟩
  have HFo := Lib.hid hf
  have lf := hf.len
  have k1 := F2.get (b := w1.heap.size) (o := .cells (ints .u64 t) 28) (by go_simp) (by simp)
  have HF2 := Lib.hid ((HF1.out.alloc _).trans F2)
  have k1l := World.at_lt k1
  clear hf F2
  go_wp2_with fail
  refine (root_walk f (toFp 4) HFo.out).mono ?_
  rw [root_4.1, root_4.2]
  rintro e w3 ⟨r, rfl, hr, F3⟩
  have HR := Lib.hid hr
  have lr := hr.len
  have m1 := F3.get (b := w1.heap.size) (o := .cells (ints .u64 t) 28) (by go_simp) (by simp)
  have m2 := F3.get (b := w2.heap.size) (o := .cells (ints .u64 f) 28) (by go_simp) (by simp)
  have HF3 := Lib.hid ((HF2.out.alloc _).trans F3)
  have m1l := World.at_lt m1
  have m2l := World.at_lt m2
  clear hr F3 k1 k1l
  go_wp2_with fail
  refine (add_f HT.out HT.out).mono ?_
  rw [show toFp 2 + toFp 2 = toFp 4 from by kernel_rfl]
  rintro e w4 ⟨s, rfl, hs, F4⟩
  have HS := Lib.hid hs
  have q1 := F4.get (b := w1.heap.size) (o := .cells (ints .u64 t) 28) (by go_simp) (by simp)
  have q2 := F4.get (b := w2.heap.size) (o := .cells (ints .u64 f) 28) (by go_simp) (by simp)
  have q3 := F4.get (b := w3.heap.size) (o := .cells (ints .u64 r) 28) (by go_simp) (by simp)
  have HF4 := Lib.hid ((HF3.out.alloc _).trans F4)
  clear hs F4 m1 m2 m1l m2l
  go_wp2_with fail
  refine (bytes_f HS.out).mono ?_
  rw [bytesF_4]
  rintro e w5 ⟨rfl, F5⟩
  have r1 := F5.get q1 (by simp)
  have r2 := F5.get q2 (by simp)
  have r3 := F5.get q3 (by simp)
  have HF5 := Lib.hid (HF4.out.trans F5)
  have e4 : (b1 4 == [4, 0, 0, 0, 0, 0, 0, 0, 0, 0, 0, 0, 0, 0, 0, 0, 0, 0, 0, 0, 0, 0, 0, 0, 0, 0, 0, 0, 0, 0, 0, 0]) = true := by kernel_rfl
  have e2 : (b1 2 == [2, 0, 0, 0, 0, 0, 0, 0, 0, 0, 0, 0, 0, 0, 0, 0, 0, 0, 0, 0, 0, 0, 0, 0, 0, 0, 0, 0, 0, 0, 0, 0]) = true := by kernel_rfl
  have e0 : (b1 0 == [0, 0, 0, 0, 0, 0, 0, 0, 0, 0, 0, 0, 0, 0, 0, 0, 0, 0, 0, 0, 0, 0, 0, 0, 0, 0, 0, 0, 0, 0, 0, 0]) = true := by kernel_rfl
  have l4 : (b1 4).length = 32 := rfl
  have l2 : (b1 2).length = 32 := rfl
  have l0 : (b1 0).length = 32 := rfl
  clear F5 q1 q2 q3
  simp only []
  go_wp2_with fail
  refine (mul_f HT.out HT.out).mono ?_
  rw [show toFp 2 * toFp 2 = toFp 4 from by kernel_rfl]
  rintro e w6 ⟨m, rfl, hm, F6⟩
  have HM := Lib.hid hm
  have s1 := F6.get r1 (by simp)
  have s2 := F6.get r2 (by simp)
  have s3 := F6.get r3 (by simp)
  have HF6 := Lib.hid (HF5.out.trans F6)
  clear hm F6 r1 r2 r3
  simp only []
  go_wp2_with fail
  refine (bytes_f HM.out).mono ?_
  rw [bytesF_4]
  rintro e w7 ⟨rfl, F7⟩
  have t1 := F7.get s1 (by simp)
  have t2 := F7.get s2 (by simp)
  have t3 := F7.get s3 (by simp)
  have HF7 := Lib.hid (HF6.out.trans F7)
  clear F7 s1 s2 s3
  simp only []
  go_wp2_with fail
  refine (sub_f HFo.out HFo.out).mono ?_
  rw [show toFp 4 - toFp 4 = 0 from by kernel_rfl]
  rintro e w8 ⟨d, rfl, hd, F8⟩
  have HD := Lib.hid hd
  have u1 := F8.get t1 (by simp)
  have u2 := F8.get t2 (by simp)
  have u3 := F8.get t3 (by simp)
  have HF8 := Lib.hid (HF7.out.trans F8)
  clear hd F8 t1 t2 t3
  simp only []
  go_wp2_with fail
  refine (bytes_f HD.out).mono ?_
  rw [bytesF_0]
  rintro e w9 ⟨rfl, F9⟩
  have v3 := F9.get u3 (by simp)
  have HF9 := Lib.hid (HF8.out.trans F9)
  clear F9 u1 u2 u3
  simp only []
  go_wp2_with fail
  refine (bytes_f HR.out).mono ?_
  rw [bytesF_2]
  rintro e w10 ⟨rfl, F10⟩
  have HF10 := Lib.hid (HF9.out.trans F10)
  clear F10 v3
  simp only []
  go_wp2
  go_ret
  exact ⟨rfl, HF10.out⟩
end
end Go.Proofs.Ytakhmmnklkckpaa
