/- An object's text. -/
import Derived.Test.YtbhnfohoclcjdaaKdJ
import Derived.Lib.SlBytesConst
set_option linter.unusedVariables false
set_option linter.unusedSimpArgs false
namespace Go.Proofs.Ytbhnfohoclcjdaa
open Go.RowKit Go.Dr Go.Kd
theorem putB_len (k s : Nat) : (putB k s).length = s := by simp [putB]
section
variable {w : World}
set_option maxRecDepth 100000 in
set_option maxHeartbeats 2000000 in
theorem otext_f {server n frm til : Nat} {key sig : List Int} {vs : Value} (hs : server < 256) (hn : n < 256) (hf : frm < 4294967296) (ht : til < 4294967296) (hk : key.length = 32) (hg : sig.length = 64) (hv : vs.oneCell' = true) :
    Calls Try.prog 23 #[.agg (cObject (.int .u8 server) (.int .u8 n) key (.int .u32 frm) (.int .u32 til) sig vs).toArray] w fun e w' => ∃ q m c, e = .returned (.slice q m c) ∧ Bld w [] .u8 5 w' q m c (objText ⟨server, n, key, frm, til, sig, []⟩) := by
  obtain ⟨xs, hxs⟩ : ∃ xs, xs = (cObject (.int .u8 server) (.int .u8 n) key (.int .u32 frm) (.int .u32 til) sig vs).toArray := ⟨_, rfl⟩
  have hsz : xs.size = 101 := by rw [hxs, List.size_toArray, cObject_length _ _ _ _ _ _ _ hk hg]
  have x0 : xs[0]? = some (.int .u8 server) := by rw [hxs]; exact cObject_get_server _ _ _ _ _ _ _ hk hg
  have x1 : xs[1]? = some (.int .u8 n) := by rw [hxs]; exact cObject_get_n _ _ _ _ _ _ _ hk hg
  have x2 : xs.extract 2 34 = ints .u8 key := by rw [hxs]; exact cObject_ext_key _ _ _ _ _ _ _ hk hg
  have x3 : xs[34]? = some (.int .u32 frm) := by rw [hxs]; exact cObject_get_frm _ _ _ _ _ _ _ hk hg
  have x4 : xs[35]? = some (.int .u32 til) := by rw [hxs]; exact cObject_get_til _ _ _ _ _ _ _ hk hg
  rw [← hxs]
  have HX := Lib.hid hxs
  clear hxs
  replace x0 := (Array.getElem?_eq_some_iff.1 x0).2
  replace x1 := (Array.getElem?_eq_some_iff.1 x1).2
  replace x3 := (Array.getElem?_eq_some_iff.1 x3).2
  replace x4 := (Array.getElem?_eq_some_iff.1 x4).2
  have hconv : (convert 47 47 (.slice (some ⟨w.heap.size + 1, 0, none⟩) 3 3)).run Try.prog ((w.alloc (.cells xs 29)).alloc (.cells #[.int .u8 107, .int .u8 101, .int .u8 121] 5)) =
      .ok (.slice (some ⟨w.heap.size + 1, 0, none⟩) 3 3) ((w.alloc (.cells xs 29)).alloc (.cells #[.int .u8 107, .int .u8 101, .int .u8 121] 5 (3, 4))) := by
    have := Lib.run_convert_bytes_const (P := Try.prog) (w.alloc (.cells xs 29)) 47 5 #[.int .u8 107, .int .u8 101, .int .u8 121] 3 3 Try.underlying47 Try.underlying5
    rw [World.size_alloc] at this
    exact this
  go_enter Try.func23, Try.ntmps23
  go_wp2_with fail
  have hO := ((((OwB.start w).allocN (.cells xs 29) w.heap.size rfl).allocN (.cells #[.int .u8 107, .int .u8 101, .int .u8 121] 5 (3, 4)) (w.heap.size + 1) (by simp)).allocN (.cells #[.slice (some ⟨w.heap.size + 1, 0, none⟩) 3 3] 47) (w.heap.size + 1 + 1) (by simp)).allocN (.cells #[.slice (some ⟨w.heap.size + 1 + 1, 0, none⟩) 1 1, .bool false] 106) (w.heap.size + 1 + 1 + 1) (by simp)
  refine OwB.named (Q := fun X => Calls Try.prog 41 _ X _) hO ?_
  clear hO hconv
  intro V hO
  generalize w.heap.size + 1 + 1 + 1 = b3 at *
  generalize w.heap.size + 1 + 1 = b2 at *
  generalize w.heap.size + 1 = b1 at *
  generalize w.heap.size = b0 at *
  have B := BldV.of (sz := 1) (n := 1) (cap := 1) (vs := [.slice (some ⟨b1, 0, none⟩) 3 3]) (r := #[]) (L := [(b3, .cells #[.slice (some ⟨b2, 0, none⟩) 1 1, .bool false] 106), (b1, .cells (ints .u8 [107, 101, 121]) 5 (3, 4)), (b0, .cells xs 29)]) hO.swap rfl rfl (Nat.le_refl 1) (by simp [maxLen])
  clear hO
  have HB := Lib.hid B
  clear B
  refine (num_f (i := 0) (k := server) (s := 1) HB.out rfl (by omega) (by omega) (by omega) (by omega)).mono ?_
  rintro e w1 ⟨rfl, c1, p1, k1, B⟩
  have f0 := B.own.nth 3 rfl
  have t0 := B.own.lt 3 rfl
  clear HB
  have HB := Lib.hid B
  clear B
  go_wp2_with fail
  refine (num_f (i := 1) (k := n) (s := 1) HB.out rfl (by omega) (by omega) (by omega) (by omega)).mono ?_
  clear f0 t0
  rintro e w2 ⟨rfl, c2, p2, k2, B⟩
  have f0 := B.own.nth 4 rfl
  have t0 := B.own.lt 4 rfl
  clear HB
  have HB := Lib.hid B
  clear B
  go_wp2_with fail
  refine (key_f (i := 2) (k := key) HB.out rfl (by omega) hk).mono ?_
  clear f0 t0
  rintro e w3 ⟨rfl, c3, p3, k3, B⟩
  have f0 := B.own.nth 5 rfl
  have t0 := B.own.lt 5 rfl
  clear HB
  have HB := Lib.hid B
  clear B
  go_wp2_with fail
  refine (num_f (i := 3) (k := frm) (s := 4) HB.out rfl (by omega) (by omega) (by omega) (by omega)).mono ?_
  clear f0 t0
  rintro e w4 ⟨rfl, c4, p4, k4, B⟩
  have f0 := B.own.nth 6 rfl
  have t0 := B.own.lt 6 rfl
  clear HB
  have HB := Lib.hid B
  clear B
  go_wp2_with fail
  refine (num_f (i := 4) (k := til) (s := 4) HB.out rfl (by omega) (by omega) (by omega) (by omega)).mono ?_
  clear f0 t0
  rintro e w5 ⟨rfl, c5, p5, k5, B⟩
  have f0 := B.own.nth 5 rfl
  have S : Sll w5 p5 6 k5 [[107, 101, 121], putB server 1, putB n 1, key, putB frm 4, putB til 4] :=
    Sll.of B.sv (.cons (Sl.whole (B.own.nth 6 rfl) rfl) (.cons (Sl.whole (B.own.nth 4 rfl) (putB_len _ _)) (.cons (Sl.whole (B.own.nth 3 rfl) (putB_len _ _)) (.cons (Sl.whole (B.own.nth 2 rfl) hk) (.cons (Sl.whole (B.own.nth 1 rfl) (putB_len _ _)) (.cons (Sl.whole (B.own.nth 0 rfl) (putB_len _ _)) .nil))))))
  have F := Lib.hid B.own.fr
  have HS := Lib.hid S
  clear HB B S
  go_wp2_with fail
  refine (done_f f0 HS.out (by simp [fits, putB_len, hk])).mono ?_
  rintro e w6 ⟨q, m, c, rfl, B⟩
  have HB := Lib.hid B
  clear B f0
  go_wp2_with fail
  have e9 : objText ⟨server, n, key, frm, til, sig, []⟩ = joinB [[107, 101, 121], putB server 1, putB n 1, key, putB frm 4, putB til 4] := by simp [objText]
  rw [e9]
  exact bodyPost_ret (results_tmp rfl _ _ _) rfl ⟨q, m, c, rfl, HB.out.lift ((OwB.start w).call F.out)⟩
end
end Go.Proofs.Ytbhnfohoclcjdaa
