/- A bundle's text; the free suite's public keys. -/
import Derived.Test.YtbhnfohoclcjdaaKdV
set_option linter.unusedVariables false
set_option linter.unusedSimpArgs false
namespace Go.Proofs.Ytbhnfohoclcjdaa
open Go.RowKit Go.Dr Go.Kd
/-- A bundle's values. -/
structure Bn where
  device : Int
  agree : Bs
  signer : Bs
  id : Int
  once : Bs
  sig : Bs
abbrev bnC (x : Bn) : Array Value := (cBundle (.int .u8 x.device) x.agree x.signer (.int .u16 x.id) x.once x.sig).toArray
structure BnOk (x : Bn) : Prop where
  d0 : 0 ≤ x.device
  d1 : x.device < 256
  i0 : 0 ≤ x.id
  i1 : x.id < 65536
  al : x.agree.length = 32
  sl : x.signer.length = 32
  ol : x.once.length = 32
  gl : x.sig.length = 64
  ab : isBytes x.agree
  sb : isBytes x.signer
  ob : isBytes x.once
  gb : isBytes x.sig
def bunText (x : Bn) : Bs := joinB [[111, 110, 99, 101], putB x.device.toNat 1, x.agree, x.signer, putB x.id.toNat 2, x.once]
theorem bunText_length {x : Bn} (h : BnOk x) : (bunText x).length = 116 := by
  simp [bunText, joinB, h.al, h.sl, h.ol, putB_length]
theorem isBytes_bun {x : Bn} (h : BnOk x) : isBytes (bunText x) := by
  have hp : ∀ k s, isBytes (putB k s) := fun k s y hy => by
    simp only [putB, List.mem_map] at hy
    obtain ⟨i, _, rfl⟩ := hy
    omega
  refine isBytes_join (by simp [fits, putB_len, h.al, h.sl, h.ol]) ?_
  intro l hl
  simp only [List.mem_cons, List.not_mem_nil, or_false] at hl
  rcases hl with rfl | rfl | rfl | rfl | rfl | rfl
  · intro y hy; simp only [List.mem_cons, List.not_mem_nil, or_false] at hy; omega
  · exact hp _ _
  · exact h.ab
  · exact h.sb
  · exact hp _ _
  · exact h.ob
section
variable {w : World}
set_option maxRecDepth 100000 in
set_option maxHeartbeats 2000000 in
theorem btext_f {x : Bn} (hx : BnOk x) : Calls Try.prog 28 #[.agg (bnC x)] w fun e w' => ∃ q m c, e = .returned (.slice q m c) ∧ Bld w [] .u8 5 w' q m c (bunText x) := by
  obtain ⟨d, hd⟩ := Int.eq_ofNat_of_zero_le hx.d0
  obtain ⟨i, hi⟩ := Int.eq_ofNat_of_zero_le hx.i0
  have d1 : d < 256 := by have := hx.d1; omega
  have i1 : i < 65536 := by have := hx.i1; omega
  have la := hx.al
  have ls := hx.sl
  have lo := hx.ol
  obtain ⟨xs, hxs⟩ : ∃ xs, xs = bnC x := ⟨_, rfl⟩
  have hsz : xs.size = 162 := by rw [hxs, List.size_toArray, cBundle_length _ _ _ _ _ _ hx.al hx.sl hx.ol hx.gl]
  have x0 : xs[0]? = some (.int .u8 (d : Int)) := by rw [hxs, ← hd]; exact cBundle_get_device _ _ _ _ _ _ hx.al hx.sl hx.ol hx.gl
  have x1 : xs.extract 1 33 = ints .u8 x.agree := by rw [hxs]; exact cBundle_ext_agree _ _ _ _ _ _ hx.al hx.sl hx.ol hx.gl
  have x2 : xs.extract 33 65 = ints .u8 x.signer := by rw [hxs]; exact cBundle_ext_signer _ _ _ _ _ _ hx.al hx.sl hx.ol hx.gl
  have x3 : xs[65]? = some (.int .u16 (i : Int)) := by rw [hxs, ← hi]; exact cBundle_get_id _ _ _ _ _ _ hx.al hx.sl hx.ol hx.gl
  have x4 : xs.extract 66 98 = ints .u8 x.once := by rw [hxs]; exact cBundle_ext_once _ _ _ _ _ _ hx.al hx.sl hx.ol hx.gl
  have e9 : bunText x = joinB [[111, 110, 99, 101], putB d 1, x.agree, x.signer, putB i 2, x.once] := by simp only [bunText, hd, hi, Int.toNat_natCast]
  rw [← hxs]
  have HX := Lib.hid hxs
  have HE := Lib.hid e9
  clear hxs e9 hd hi
  generalize x.agree = ag at la x1 HE
  generalize x.signer = sg at ls x2 HE
  generalize x.once = on at lo x4 HE
  replace x0 := (Array.getElem?_eq_some_iff.1 x0).2
  replace x3 := (Array.getElem?_eq_some_iff.1 x3).2
  have hconv : (convert 47 47 (.slice (some ⟨w.heap.size + 1, 0, none⟩) 4 4)).run Try.prog ((w.alloc (.cells xs 59)).alloc (.cells #[.int .u8 111, .int .u8 110, .int .u8 99, .int .u8 101] 5)) =
      .ok (.slice (some ⟨w.heap.size + 1, 0, none⟩) 4 4) ((w.alloc (.cells xs 59)).alloc (.cells #[.int .u8 111, .int .u8 110, .int .u8 99, .int .u8 101] 5 (4, 5))) := by
    have := Lib.run_convert_bytes_const (P := Try.prog) (w.alloc (.cells xs 59)) 47 5 #[.int .u8 111, .int .u8 110, .int .u8 99, .int .u8 101] 4 4 Try.underlying47 Try.underlying5
    rw [World.size_alloc] at this
    exact this
  go_enter Try.func28, Try.ntmps28
  go_wp2_with fail
  have hO := ((((OwB.start w).allocN (.cells xs 59) w.heap.size rfl).allocN (.cells #[.int .u8 111, .int .u8 110, .int .u8 99, .int .u8 101] 5 (4, 5)) (w.heap.size + 1) (by simp)).allocN (.cells #[.slice (some ⟨w.heap.size + 1, 0, none⟩) 4 4] 47) (w.heap.size + 1 + 1) (by simp)).allocN (.cells #[.slice (some ⟨w.heap.size + 1 + 1, 0, none⟩) 1 1, .bool false] 106) (w.heap.size + 1 + 1 + 1) (by simp)
  refine OwB.named (Q := fun X => Calls Try.prog 41 _ X _) hO ?_
  clear hO hconv
  intro V hO
  generalize w.heap.size + 1 + 1 + 1 = b3 at *
  generalize w.heap.size + 1 + 1 = b2 at *
  generalize w.heap.size + 1 = b1 at *
  generalize w.heap.size = b0 at *
  have B := BldV.of (sz := 1) (n := 1) (cap := 1) (vs := [.slice (some ⟨b1, 0, none⟩) 4 4]) (r := #[]) (L := [(b3, .cells #[.slice (some ⟨b2, 0, none⟩) 1 1, .bool false] 106), (b1, .cells (ints .u8 [111, 110, 99, 101]) 5 (4, 5)), (b0, .cells xs 59)]) hO.swap rfl rfl (Nat.le_refl 1) (by simp [maxLen])
  clear hO
  have HB := Lib.hid B
  clear B
  refine (num_f (i := 0) (k := d) (s := 1) HB.out rfl (by omega) (by omega) (by omega) (by omega)).mono ?_
  rintro e w1 ⟨rfl, c1, p1, k1, B⟩
  have f0 := B.own.nth 3 rfl
  have t0 := B.own.lt 3 rfl
  clear HB
  have HB := Lib.hid B
  clear B
  go_wp2_with fail
  refine (key_f (i := 1) (k := ag) HB.out rfl (by omega) la).mono ?_
  clear f0 t0
  rintro e w2 ⟨rfl, c2, p2, k2, B⟩
  have f0 := B.own.nth 4 rfl
  have t0 := B.own.lt 4 rfl
  clear HB
  have HB := Lib.hid B
  clear B
  go_wp2_with fail
  refine (key_f (i := 2) (k := sg) HB.out rfl (by omega) ls).mono ?_
  clear f0 t0
  rintro e w3 ⟨rfl, c3, p3, k3, B⟩
  have f0 := B.own.nth 5 rfl
  have t0 := B.own.lt 5 rfl
  clear HB
  have HB := Lib.hid B
  clear B
  go_wp2_with fail
  refine (num_f (i := 3) (k := i) (s := 2) HB.out rfl (by omega) (by omega) (by omega) (by omega)).mono ?_
  clear f0 t0
  rintro e w4 ⟨rfl, c4, p4, k4, B⟩
  have f0 := B.own.nth 6 rfl
  have t0 := B.own.lt 6 rfl
  clear HB
  have HB := Lib.hid B
  clear B
  go_wp2_with fail
  refine (key_f (i := 4) (k := on) HB.out rfl (by omega) lo).mono ?_
  clear f0 t0
  rintro e w5 ⟨rfl, c5, p5, k5, B⟩
  have f0 := B.own.nth 5 rfl
  have S : Sll w5 p5 6 k5 [[111, 110, 99, 101], putB d 1, ag, sg, putB i 2, on] :=
    Sll.of B.sv (.cons (Sl.whole (B.own.nth 6 rfl) rfl) (.cons (Sl.whole (B.own.nth 4 rfl) (putB_len _ _)) (.cons (Sl.whole (B.own.nth 3 rfl) la) (.cons (Sl.whole (B.own.nth 2 rfl) ls) (.cons (Sl.whole (B.own.nth 1 rfl) (putB_len _ _)) (.cons (Sl.whole (B.own.nth 0 rfl) lo) .nil))))))
  have F := Lib.hid B.own.fr
  have HS := Lib.hid S
  clear HB B S
  go_wp2_with fail
  refine (done_f f0 HS.out (by simp [fits, putB_len, la, ls, lo])).mono ?_
  rintro e w6 ⟨q, m, c, rfl, B⟩
  have HB := Lib.hid B
  clear B f0
  go_wp2_with fail
  rw [HE.out]
  exact bodyPost_ret (results_tmp rfl _ _ _) rfl ⟨q, m, c, rfl, HB.out.lift ((OwB.start w).call F.out)⟩
end
end Go.Proofs.Ytbhnfohoclcjdaa
