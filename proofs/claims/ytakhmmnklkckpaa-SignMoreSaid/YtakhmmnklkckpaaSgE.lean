/- Signatures: hashes modulo the order, on both sides. -/
import Derived.Test.YtakhmmnklkckpaaSgD
import Derived.Test.YtakhmmnklkckpaaScY
namespace Go.Proofs.Ytakhmmnklkckpaa
open Go.RowKit Go.Dr
/-- A row of slices, as cells. -/
def slc (P : List (Option Addr × Nat × Nat)) : Array Value := (P.map fun x => Value.slice x.1 x.2.1 x.2.2).toArray
@[go_sem] theorem size_slc (P : List (Option Addr × Nat × Nat)) : (slc P).size = P.length := by simp [slc]
@[go_sem] theorem getElem_slc (P : List (Option Addr × Nat × Nat)) (i : Nat) (h : i < (slc P).size) (h2 : i < P.length) : (slc P)[i] = .slice P[i].1 P[i].2.1 P[i].2.2 := by simp [slc]
@[go_sem] theorem getElem?_slc (P : List (Option Addr × Nat × Nat)) (i : Nat) (h2 : i < P.length) : (slc P)[i]? = some (.slice P[i].1 P[i].2.1 P[i].2.2) := by simp [slc, h2]
/-- They read as these lists. -/
structure SLs (w : World) (P : List (Option Addr × Nat × Nat)) (M : List (List Int)) : Prop where
  len : P.length = M.length
  at_ : ∀ (i : Nat) (h : i < P.length) (h2 : i < M.length), Sl .u8 w P[i].1 P[i].2.1 P[i].2.2 M[i]
/-- The hash, as bytes of a number below the order. -/
def hashB (l : List Int) : List Int := scB (sumF l)
theorem length_hashB (l : List Int) : (hashB l).length = 32 := length_scB _
theorem byt_hashB (l : List Int) : Byt (hashB l) := byt_scB _
theorem len_take_flat : ∀ (M : List (List Int)) (i : Nat), (M.take i).flatten.length ≤ M.flatten.length
  | [], _ => by simp
  | _ :: _, 0 => by simp
  | x :: r, i + 1 => by
    have := len_take_flat r i
    simp only [List.take_succ_cons, List.flatten_cons, List.length_append]
    omega
section
variable {w : World}
set_option maxRecDepth 100000 in
set_option maxHeartbeats 4000000 in
theorem hash_f {b n cap : Nat} {T : TypeId} {fr : Nat × Nat} {P : List (Option Addr × Nat × Nat)} {M : List (List Int)} {H : List Int} (hb : w.blk b = some (.cells (slc P) T fr)) (hn : P.length = n) (S : SLs w P M) (hM : Byt M.flatten) (hl : M.flatten.length ≤ 1000000) (hH : hashB M.flatten = H) (hc : n ≤ cap) (hn8 : n ≤ 8) :
    Calls Try.prog 92 #[.slice (some ⟨b, 0, none⟩) n cap] w fun e w' => e = .returned (.agg (ints .u8 H)) ∧ Fr [] w w' := by
  have hbl := World.at_lt hb
  have HB := Lib.hid hb
  have HS := Lib.hid S
  have HM := Lib.hid hM
  have HL := Lib.hid hl
  have HN := Lib.hid hn
  have lH : H.length = 32 := by rw [← hH]; exact length_hashB _
  have HH := Lib.hid hH
  clear hb S hM hl hn hH
  go_enter Try.func92, Try.ntmps92
  go_wp2_with fail
  refine OwB.named (Q := fun X => Code.wp _ _ _ _ X) (show OwB w [(w.heap.size, .cells (ints .u8 (zs 32)) 22)] _ from (OwB.start w).allocN (.cells (ints .u8 (zs 32)) 22) w.heap.size rfl) ?_
  intro V hV
  generalize w.heap.size = b0 at hV hbl ⊢
  go_loopw [3, 11] (fun v iv wr => ∃ (i m c : Nat) (q : Option Addr), i ≤ n ∧ iv = .int .i64 (i : Int) ∧ v = .slice q m c ∧ Hid (Bld w [(b0, .cells (ints .u8 (zs 32)) 22)] .u8 5 wr q m c (M.take i).flatten)) (fun _ iv _ => n - (intOf iv).toNat)
  case atStart => exact ⟨0, 0, 0, none, by omega, rfl, rfl, Lib.hid (by simpa using Bld.nil (k := .u8) (e := 5) hV)⟩
  case round =>
    clear hV
    obtain ⟨i, m, c, q, hi, rfl, rfl, hO⟩ := hrel
    by_cases hlt : i < n
    · have hd : decide (i < n) = true := by rw [decide_eq_true_eq]; exact hlt
      have hiP : i < P.length := by rw [HN.out]; exact hlt
      have hiM : i < M.length := by rw [← HS.out.len]; exact hiP
      have f1 := hO.out.own.fr.get HB.out (by simp)
      have t1 := World.at_lt f1
      have hs := HS.out.at_ i hiP hiM
      have hs2 := Lib.hid (hs.fr0 hO.out.own.fr)
      have hm : m = (M.take i).flatten.length := hO.out.len.symm
      have hms : P[i].2.1 = M[i].length := hs.len.symm
      have htk : (M.take i).flatten ++ M[i] = (M.take (i + 1)).flatten := by
        rw [List.take_succ_eq_append_getElem hiM, List.flatten_append]; simp only [List.flatten_cons, List.flatten_nil, List.append_nil]
      have hle : m + P[i].2.1 ≤ 140737488355328 := by
        have h1 := len_take_flat M (i + 1)
        rw [← htk, List.length_append, ← hm, ← hms] at h1
        have := HL.out
        omega
      have HTK := Lib.hid htk
      clear hs hm hms htk
      generalize hPi : P[i] = x at hs2 hle
      obtain ⟨xp, xn, xc⟩ := x
      have HPI := hPi
      clear hPi
      simp only [] at hs2 hle
      go_wp2_with (refine wpList_app8 rfl (.tmp 15) (.tmp 16) rfl rfl hO.out rfl hs2.out hle ?_; intro p6 c6 w6 B6; have hB6 := Lib.hid B6; clear B6)
      go_roundw
      case rel => exact ⟨i + 1, m + xn, c6, p6, by omega, by go_num, rfl, Lib.hid (by rw [← HTK.out]; exact hB6.out)⟩
      case measure => simp [intOf]; omega
    · obtain rfl : i = n := by omega
      have hd : decide (i < i) = false := by rw [decide_eq_false_iff_not]; omega
      have htk : (M.take i).flatten = M.flatten := by rw [List.take_of_length_le (by have := HN.out; have := HS.out.len; omega)]
      rw [htk] at hO
      have hm : m ≤ 70368744177664 := by have := hO.out.len; have := HL.out; omega
      clear htk hlt
      go_wp2_with fail
      refine (sum512_f hO.out.sl HM.out hm).mono ?_
      rintro e w1 ⟨rfl, F⟩
      have h1 := hO.out.own.call F
      obtain ⟨U, hU⟩ : ∃ U, U = sumF M.flatten := ⟨_, rfl⟩
      have lU : U.length = 64 := by rw [hU]; exact length_sumF _
      have yU : Byt U := by rw [hU]; exact byt_sumF _
      rw [← hU]
      have HU := Lib.hid hU
      have YU := Lib.hid yU
      clear hU yU F hO hd
      simp only []
      go_wp2_with fail
      have h2 := h1.allocN (.cells (ints .u8 U) 69) w1.heap.size rfl
      refine (reduce_f (Sl.ofInts (k := .u8) (n := 64) (cap := 64) (off := 0) (h2.nth 0 rfl) (by omega) (by rw [List.drop_zero, List.take_of_length_le (by omega)]) (Nat.le_refl 64)) YU.out (Nat.le_refl 64)).mono ?_
      rintro e w2 ⟨rfl, F⟩
      have h3 := h2.call F
      rw [show scB U = H from by rw [HU.out]; exact HH.out]
      clear F h1 h2
      have f0 := h3.nth 1 rfl
      have t0 := h3.lt 1 rfl
      simp only []
      go_wp2_with fail
      have hn2 := (h3.set 1 (.cells (ints .u8 H) 22) rfl).allocN (.cells (ints .u8 H) 22) w2.heap.size (by simp)
      refine ret_cell rfl rfl rfl ?_
      refine cellRet_of (hn2.nth 2 rfl) (aggB_ints lH (by kernel_rfl)) ?_
      exact ⟨rfl, hn2.fr⟩
set_option maxRecDepth 100000 in
set_option maxHeartbeats 4000000 in
theorem hash_d {p1 p2 p3 : Option Addr} {n1 n2 n3 c1 c2 c3 : Nat} {A B C H : List Int} (S1 : Sl .u8 w p1 n1 c1 A) (S2 : Sl .u8 w p2 n2 c2 B) (S3 : Sl .u8 w p3 n3 c3 C) (hM : Byt (A ++ B ++ C)) (hl : (A ++ B ++ C).length ≤ 1000000) (hH : hashB (A ++ B ++ C) = H) :
    Calls Try.prog 94 #[.slice p1 n1 c1, .slice p2 n2 c2, .slice p3 n3 c3] w fun e w' => e = .returned (.agg (ints .u8 H)) ∧ Fr [] w w' := by
  have HS1 := Lib.hid S1
  have HS2 := Lib.hid S2
  have HS3 := Lib.hid S3
  have HM := Lib.hid hM
  have hl1 : n1 + n2 + n3 ≤ 1000000 := by have := S1.len; have := S2.len; have := S3.len; rw [List.length_append, List.length_append] at hl; omega
  have lH : H.length = 32 := by rw [← hH]; exact length_hashB _
  have HH := Lib.hid hH
  clear S1 S2 S3 hM hl hH
  go_enter Try.func94, Try.ntmps94
  have hO : OwB w [(w.heap.size, .cells (ints .u8 (zs 32)) 22)] (w.alloc (.cells (ints .u8 (zs 32)) 22)) := (OwB.start w).allocN (.cells (ints .u8 (zs 32)) 22) w.heap.size rfl
  have hB0 := Lib.hid (Bld.nil (k := .u8) (e := 5) hO)
  have hS1 := Lib.hid (HS1.out.fr0 hO.fr)
  clear hO
  go_wp2_with (first | (refine wpList_app8 rfl (.tmp 9) (.tmp 10) rfl rfl hB0.out rfl hS1.out (by omega) ?_; intro q4 d4 w4 B4; rw [Nat.zero_add, List.nil_append] at B4; have hB4 := Lib.hid B4; clear B4; have hS4 := Lib.hid (HS2.out.fr0 hB4.out.own.fr)) | (refine wpList_app8 rfl (.tmp 12) (.tmp 13) rfl rfl hB4.out rfl hS4.out (by omega) ?_; intro q5 d5 w5 B5; have hB5 := Lib.hid B5; clear B5; have hS5 := Lib.hid (HS3.out.fr0 hB5.out.own.fr)) | (refine wpList_app8 rfl (.tmp 15) (.tmp 16) rfl rfl hB5.out rfl hS5.out (by omega) ?_; intro q6 d6 w6 B6; have hB6 := Lib.hid B6; clear B6))
  clear hB0 hB4 hB5 hS1 hS4 hS5
  refine (long_f hB6.out.sl HM.out (by omega)).mono ?_
  rintro e w7 ⟨rfl, F⟩
  have h1 := hB6.out.own.call F
  obtain ⟨U, hU⟩ : ∃ U, U = sumF (A ++ B ++ C) := ⟨_, rfl⟩
  have lU : U.length = 64 := by rw [hU]; exact length_sumF _
  have yU : Byt U := by rw [hU]; exact byt_sumF _
  rw [← hU]
  have HU := Lib.hid hU
  have YU := Lib.hid yU
  clear hU yU F hB6
  simp only []
  go_wp2_with fail
  have h2 := h1.allocN (.cells (ints .u8 U) 69) w7.heap.size rfl
  refine (reduce_d (Sl.ofInts (k := .u8) (n := 64) (cap := 64) (off := 0) (h2.nth 0 rfl) (by omega) (by rw [List.drop_zero, List.take_of_length_le (by omega)]) (Nat.le_refl 64)) YU.out (by omega)).mono ?_
  rintro e w2 ⟨rfl, F⟩
  have h3 := h2.call F
  rw [show scB U = H from by rw [HU.out]; exact HH.out]
  clear F h1 h2
  have f0 := h3.nth 1 rfl
  have t0 := h3.lt 1 rfl
  simp only []
  go_wp2_with fail
  have hn2 := (h3.set 1 (.cells (ints .u8 H) 22) rfl)
  refine ret_cell rfl rfl rfl ?_
  refine cellRet_of (hn2.nth 1 rfl) (aggB_ints lH (by kernel_rfl)) ?_
  exact ⟨rfl, hn2.fr⟩
end
end Go.Proofs.Ytakhmmnklkckpaa
