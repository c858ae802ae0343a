/- Joined: KdH, KdI, KdJ, KdK, GnG, KdM. -/
import Derived.Test.YtbhnfohoclcjdaaGreatZf
import Derived.Lib.SlBytesConst
set_option linter.unusedVariables false
set_option linter.unusedSimpArgs false
namespace Go.Proofs.YtbhnfohoclcjdaaGreat
open Go.RowKit Go.Dr Go.Kd
theorem info47 : (Tryz.prog.info? 49).map (fun i => (i.zero, i.size, i.bytes)) = some (some (.slice none 0 0), 1, 24) := by kernel_rfl
theorem E86 : ElemT Tryz.prog 102 49 1 24 #[.slice none 0 0] := ⟨Tryz.underlying102, by kernel_rfl, rfl⟩
@[go_sem] theorem one86 (w : World) (q : Option Addr) (m c : Nat) : (buildOneK 102 #[(0, .slice q m c)]).run Tryz.prog w = .ok (.slice (some ⟨w.heap.size, 0, none⟩) 1 1) (w.alloc (.cells #[.slice q m c] 49)) :=
  E86.buildOne (by omega) (by omega) w (.slice q m c) rfl
section
variable {w0 w : World} {L : List (Nat × Obj)} {p : Option Addr} {n cap : Nat} {vs : List Value} {ops : Array Oper} {rest : List Oper} {o : Oper} {a : Act} {Q : Exit → Act → World → Prop}
/-- [][]byte: append of a slice of slices. -/
theorem wpList_app86 (hgd : o.guard = none) (s x : Operand) (ho : o.op = .call { callee := .builtin .append, args := #[s, x], argTypes := #[102, 102] })
    (hs : a.eval s = .slice p n cap) (B : BldV w0 L 49 1 w p n cap vs) {q : Option Addr} {m c : Nat} {us : List Value} (hx : a.eval x = .slice q m c) (S : Sv 1 w q m c us) (h1 : ∀ u ∈ us, u.oneCell' = true) (hbig : n + m ≤ 1000000)
    (h : ∀ p' cap' w', BldV w0 L 49 1 w' p' (n + m) cap' (vs ++ us) → wpList Tryz.prog ops Q rest (a.put o.dst (.slice p' (n + m) cap')) w') : wpList Tryz.prog ops Q (o :: rest) a w := by
  obtain ⟨i, hi, hz, hs1, hb1⟩ := info_parts info47
  exact wpList_apdV hgd s x 102 102 ho Tryz.underlying102 hi hz hs1 (by omega) hb1 rfl hs B hx (Apd.ofSrc Tryz.underlying102 hi hz (by rw [hs1]; exact S.src Tryz.underlying102 h1)) (by omega) (by omega) h
end
section
variable {w0 w : World} {L : List (Nat × Obj)} {p : Option Addr} {n cap : Nat} {vs : List Value}
set_option maxRecDepth 100000 in
set_option maxHeartbeats 2000000 in
theorem num_f {i wb k s : Nat} (B : BldV w0 L 49 1 w p n cap vs) (hi : L[i]? = some (wb, .cells #[.slice p n cap, .bool false] 160)) (hn : n ≤ 1000) (h1 : 1 ≤ s) (h8 : s < 8) (hk : k < 256 ^ s) :
    Calls Tryz.prog 85 #[.pointer (some ⟨wb, 0, none⟩), .int .u64 k, .int .i64 s] w fun e w' => e = .returned (.tuple #[]) ∧ ∃ b p' cap', BldV w0 ((b, .cells (ints .u8 (putB k s)) 5) :: L.set i (wb, .cells #[.slice p' (n + 1) cap', .bool false] 160)) 49 1 w' p' (n + 1) cap' (vs ++ [.slice (some ⟨b, 0, none⟩) s s]) := by
  have HB := Lib.hid B
  have HI := Lib.hid hi
  clear B hi
  go_enter Tryz.func85, Tryz.ntmps85
  go_wp2_with fail
  refine (put_b h1 h8 hk).mono ?_
  rintro e w' ⟨b, rfl, hb, hs, F⟩
  have B2 := HB.out.add F hb hs
  have hi2 : ((b, .cells (ints .u8 (putB k s)) 5) :: L)[i + 1]? = some (wb, .cells #[.slice p n cap, .bool false] 160) := HI.out
  have f1 := B2.own.nth (i + 1) hi2
  have t1 := B2.own.lt (i + 1) hi2
  have HB2 := Lib.hid B2
  have HI2 := Lib.hid hi2
  clear hb hs F B2 hi2
  go_wp2_with (refine wpList_app86 rfl _ _ rfl rfl (HB2.out.call ((Fr.refl [] w').alloc (.cells #[.slice (some ⟨b, 0, none⟩) s s] 49))) rfl (Sv.one (World.at_alloc_new _ _ _ rfl)) (by simp [Value.oneCell']) (by omega) ?_)
  intro p3 c3 W3 B3
  have f3 := B3.own.nth (i + 1) HI2.out
  have t3 := B3.own.lt (i + 1) HI2.out
  have HB3 := Lib.hid B3
  clear B3 f1 t1
  go_wp2_with fail
  have B4 := HB3.out.set (i + 1) (.cells #[.slice p3 (n + 1) c3, .bool false] 160) HI2.out
  exact bodyPost_end (results_none rfl _ _ _) rfl ⟨rfl, b, p3, c3, B4⟩
end
end Go.Proofs.YtbhnfohoclcjdaaGreat
namespace Go.Proofs.YtbhnfohoclcjdaaGreat
open Go.RowKit Go.Dr Go.Kd
section
variable {w : World}
set_option maxRecDepth 100000 in
set_option maxHeartbeats 2000000 in
theorem done_f {wb : Nat} {p : Option Addr} {n cap : Nat} {fr : Nat × Nat} {ls : List (List Int)} (hb : w.blk wb = some (.cells #[.slice p n cap, .bool false] 160 fr)) (S : Sll w p n cap ls) (hf : fits ls = true) :
    Calls Tryz.prog 87 #[.pointer (some ⟨wb, 0, none⟩)] w fun e w' => ∃ q m c, e = .returned (.tuple #[.slice q m c, .bool true]) ∧ Bld w [] .u8 5 w' q m c (joinB ls) := by
  have HS := Lib.hid S
  have t0 := World.at_lt hb
  clear S
  go_enter Tryz.func87, Tryz.ntmps87
  go_wp2_with fail
  refine (join_f HS.out hf).mono ?_
  rintro e w' ⟨q, m, c, rfl, B⟩
  have f0 := B.own.fr.get hb (by simp)
  have t1 := World.at_lt f0
  have HB := Lib.hid B
  clear B hb t0
  go_wp2_with fail
  exact bodyPost_ret (results_tmp2 rfl _ _ _) rfl ⟨q, m, c, rfl, HB.out⟩
end
end Go.Proofs.YtbhnfohoclcjdaaGreat
namespace Go.Proofs.YtbhnfohoclcjdaaGreat
open Go.RowKit Go.Dr Go.Kd
section
variable {w0 w : World} {L : List (Nat × Obj)} {p : Option Addr} {n cap : Nat} {vs : List Value}
set_option maxRecDepth 100000 in
set_option maxHeartbeats 2000000 in
theorem key_f {i wb : Nat} {k : List Int} (B : BldV w0 L 49 1 w p n cap vs) (hi : L[i]? = some (wb, .cells #[.slice p n cap, .bool false] 160)) (hn : n ≤ 1000) (hk : k.length = 32) :
    Calls Tryz.prog 86 #[.pointer (some ⟨wb, 0, none⟩), .agg (ints .u8 k)] w fun e w' => e = .returned (.tuple #[]) ∧ ∃ b p' cap', BldV w0 ((b, .cells (ints .u8 k) 34) :: L.set i (wb, .cells #[.slice p' (n + 1) cap', .bool false] 160)) 49 1 w' p' (n + 1) cap' (vs ++ [.slice (some ⟨b, 0, none⟩) 32 32]) := by
  obtain ⟨wA, hwA⟩ : ∃ wA, wA = w.alloc (.cells (ints .u8 k) 34) := ⟨_, rfl⟩
  obtain ⟨b, hb⟩ : ∃ b, b = w.heap.size := ⟨_, rfl⟩
  have B2 : BldV w0 ((b, .cells (ints .u8 k) 34) :: L) 49 1 wA p n cap vs := by
    rw [hwA, hb]
    exact B.add ((Fr.refl [] w).alloc _) (World.at_alloc_new _ _ _ rfl) (Nat.le_refl _)
  have hi2 : ((b, .cells (ints .u8 k) 34) :: L)[i + 1]? = some (wb, .cells #[.slice p n cap, .bool false] 160) := hi
  have f1 := B2.own.nth (i + 1) hi2
  have t1 := B2.own.lt (i + 1) hi2
  have HB2 := Lib.hid B2
  have HI2 := Lib.hid hi2
  clear B hi B2 hi2
  go_enter Tryz.func86, Tryz.ntmps86
  go_upto_region 1 with (fail)
  rw [← hwA, ← hb]
  clear hwA hb
  refine drawn_begin 8 (fun w' => w'.blk wb = some (.cells #[.slice p n cap, .bool false] 160)) (by kernel_rfl) ?_
  refine drawn_reads (fuel := 5) [0, 1, 2, 3, 4, 5] rfl (by kernel_rfl) (by go_simp) ?_
  repeat (refine rowK_step rfl (fun K hK => ?_); go_simp; refine hK _ ?_; clear hK K)
  refine rowK_nil ⟨fun w' e1 => ?_, ?_⟩
  · repeat (refine rowWp_step rfl (fun K hK => ?_); go_simp; refine hK _ ?_; clear hK K)
    exact rowWp_nil rfl
  refine drawn_next 6 (fuel := 4) rfl (by kernel_rfl) ?_
  intro K hK
  go_wp2
  refine ⟨by go_simp, ?_⟩
  refine drawn_next 7 (fuel := 3) rfl (by kernel_rfl) ?_
  intro K hK
  refine wpList_app86 rfl _ _ rfl rfl (HB2.out.call (((Fr.refl [] wA).alloc (.cells #[.slice (some ⟨b, 0, none⟩) 32 32] 49)).drew)) rfl (Sv.one (v := .slice (some ⟨b, 0, none⟩) 32 32) (T := 49) (fr := (0, 0)) (show (wA.alloc (.cells #[.slice (some ⟨b, 0, none⟩) 32 32] 49)).blk wA.heap.size = _ from World.at_alloc_new _ _ _ rfl)) (by simp [Value.oneCell']) (by omega) ?_
  intro p3 c3 W3 B3
  have f3 := B3.own.nth (i + 1) HI2.out
  have t3 := B3.own.lt (i + 1) HI2.out
  have HB3 := Lib.hid B3
  clear B3 f1 t1
  refine wpList_nil ?_
  refine hK _ _ ⟨f3, ?_⟩
  refine drawn_end rfl (by kernel_rfl) ?_
  intro K hK
  go_wp2_with fail
  have B4 := HB3.out.set (i + 1) (.cells #[.slice p3 (n + 1) c3, .bool false] 160) HI2.out
  exact bodyPost_end (results_none rfl _ _ _) rfl ⟨rfl, b, p3, c3, B4⟩
end
end Go.Proofs.YtbhnfohoclcjdaaGreat
namespace Go.Proofs.YtbhnfohoclcjdaaGreat
open Go.RowKit Go.Dr Go.Kd
theorem putB_len (k s : Nat) : (putB k s).length = s := by simp [putB]
section
variable {w : World}
set_option maxRecDepth 100000 in
set_option maxHeartbeats 2000000 in
theorem otext_f {server n frm til : Nat} {key sig : List Int} {vs : Value} (hs : server < 256) (hn : n < 256) (hf : frm < 4294967296) (ht : til < 4294967296) (hk : key.length = 32) (hg : sig.length = 64) (hv : vs.oneCell' = true) :
    Calls Tryz.prog 44 #[.agg (cObject (.int .u8 server) (.int .u8 n) key (.int .u32 frm) (.int .u32 til) sig vs).toArray] w fun e w' => ∃ q m c, e = .returned (.slice q m c) ∧ Bld w [] .u8 5 w' q m c (objText ⟨server, n, key, frm, til, sig, []⟩) := by
  obtain ⟨xs, hxs⟩ : ∃ xs, xs = (cObject (.int .u8 server) (.int .u8 n) key (.int .u32 frm) (.int .u32 til) sig vs).toArray := ⟨_, rfl⟩
  have hsz : xs.size = 101 := by rw [hxs, List.size_toArray, cObject_length _ _ _ _ _ _ _ hk hg]
  have x0 : xs[0]? = some (.int .u8 server) := by rw [hxs]; exact cObject_get_server _ _ _ _ _ _ _ hk hg
  have x1 : xs[1]? = some (.int .u8 n) := by rw [hxs]; exact cObject_get_n _ _ _ _ _ _ _ hk hg
  have x2 : xs.extract 2 34 = ints .u8 key := by rw [hxs]; exact cObject_ext_key _ _ _ _ _ _ _ hk hg
  have x3 : xs[34]? = some (.int .u32 frm) := by rw [hxs]; exact cObject_get_frm _ _ _ _ _ _ _ hk hg
  have x4 : xs[35]? = some (.int .u32 til) := by rw [hxs]; exact cObject_get_til _ _ _ _ _ _ _ hk hg
  rw [← hxs]
  have HX := Lib.hid hxs
  clear hxs
  replace x0 := (Array.getElem?_eq_some_iff.1 x0).2
  replace x1 := (Array.getElem?_eq_some_iff.1 x1).2
  replace x3 := (Array.getElem?_eq_some_iff.1 x3).2
  replace x4 := (Array.getElem?_eq_some_iff.1 x4).2
  have hconv : (convert 49 49 (.slice (some ⟨w.heap.size + 1, 0, none⟩) 3 3)).run Tryz.prog ((w.alloc (.cells xs 48)).alloc (.cells #[.int .u8 107, .int .u8 101, .int .u8 121] 5)) =
      .ok (.slice (some ⟨w.heap.size + 1, 0, none⟩) 3 3) ((w.alloc (.cells xs 48)).alloc (.cells #[.int .u8 107, .int .u8 101, .int .u8 121] 5 (3, 4))) := by
    have := Lib.run_convert_bytes_const (P := Tryz.prog) (w.alloc (.cells xs 48)) 49 5 #[.int .u8 107, .int .u8 101, .int .u8 121] 3 3 Tryz.underlying49 Tryz.underlying5
    rw [World.size_alloc] at this
    exact this
  go_enter Tryz.func44, Tryz.ntmps44
  go_wp2_with fail
  have hO := ((((OwB.start w).allocN (.cells xs 48) w.heap.size rfl).allocN (.cells #[.int .u8 107, .int .u8 101, .int .u8 121] 5 (3, 4)) (w.heap.size + 1) (by simp)).allocN (.cells #[.slice (some ⟨w.heap.size + 1, 0, none⟩) 3 3] 49) (w.heap.size + 1 + 1) (by simp)).allocN (.cells #[.slice (some ⟨w.heap.size + 1 + 1, 0, none⟩) 1 1, .bool false] 160) (w.heap.size + 1 + 1 + 1) (by simp)
  refine OwB.named (Q := fun X => Calls Tryz.prog 85 _ X _) hO ?_
  clear hO hconv
  intro V hO
  generalize w.heap.size + 1 + 1 + 1 = b3 at *
  generalize w.heap.size + 1 + 1 = b2 at *
  generalize w.heap.size + 1 = b1 at *
  generalize w.heap.size = b0 at *
  have B := BldV.of (sz := 1) (n := 1) (cap := 1) (vs := [.slice (some ⟨b1, 0, none⟩) 3 3]) (r := #[]) (L := [(b3, .cells #[.slice (some ⟨b2, 0, none⟩) 1 1, .bool false] 160), (b1, .cells (ints .u8 [107, 101, 121]) 5 (3, 4)), (b0, .cells xs 48)]) hO.swap rfl rfl (Nat.le_refl 1) (by simp [maxLen])
  clear hO
  have HB := Lib.hid B
  clear B
  refine (num_f (i := 0) (k := server) (s := 1) HB.out rfl (by omega) (by omega) (by omega) (by omega)).mono ?_
  rintro e w1 ⟨rfl, c1, p1, k1, B⟩
  have f0 := B.own.nth 3 rfl
  have t0 := B.own.lt 3 rfl
  clear HB
  have HB := Lib.hid B
  clear B
  go_wp2_with fail
  refine (num_f (i := 1) (k := n) (s := 1) HB.out rfl (by omega) (by omega) (by omega) (by omega)).mono ?_
  clear f0 t0
  rintro e w2 ⟨rfl, c2, p2, k2, B⟩
  have f0 := B.own.nth 4 rfl
  have t0 := B.own.lt 4 rfl
  clear HB
  have HB := Lib.hid B
  clear B
  go_wp2_with fail
  refine (key_f (i := 2) (k := key) HB.out rfl (by omega) hk).mono ?_
  clear f0 t0
  rintro e w3 ⟨rfl, c3, p3, k3, B⟩
  have f0 := B.own.nth 5 rfl
  have t0 := B.own.lt 5 rfl
  clear HB
  have HB := Lib.hid B
  clear B
  go_wp2_with fail
  refine (num_f (i := 3) (k := frm) (s := 4) HB.out rfl (by omega) (by omega) (by omega) (by omega)).mono ?_
  clear f0 t0
  rintro e w4 ⟨rfl, c4, p4, k4, B⟩
  have f0 := B.own.nth 6 rfl
  have t0 := B.own.lt 6 rfl
  clear HB
  have HB := Lib.hid B
  clear B
  go_wp2_with fail
  refine (num_f (i := 4) (k := til) (s := 4) HB.out rfl (by omega) (by omega) (by omega) (by omega)).mono ?_
  clear f0 t0
  rintro e w5 ⟨rfl, c5, p5, k5, B⟩
  have f0 := B.own.nth 5 rfl
  have S : Sll w5 p5 6 k5 [[107, 101, 121], putB server 1, putB n 1, key, putB frm 4, putB til 4] :=
    Sll.of B.sv (.cons (Sl.whole (B.own.nth 6 rfl) rfl) (.cons (Sl.whole (B.own.nth 4 rfl) (putB_len _ _)) (.cons (Sl.whole (B.own.nth 3 rfl) (putB_len _ _)) (.cons (Sl.whole (B.own.nth 2 rfl) hk) (.cons (Sl.whole (B.own.nth 1 rfl) (putB_len _ _)) (.cons (Sl.whole (B.own.nth 0 rfl) (putB_len _ _)) .nil))))))
  have F := Lib.hid B.own.fr
  have HS := Lib.hid S
  clear HB B S
  go_wp2_with fail
  refine (done_f f0 HS.out (by simp [fits, putB_len, hk])).mono ?_
  rintro e w6 ⟨q, m, c, rfl, B⟩
  have HB := Lib.hid B
  clear B f0
  go_wp2_with fail
  have e9 : objText ⟨server, n, key, frm, til, sig, []⟩ = joinB [[107, 101, 121], putB server 1, putB n 1, key, putB frm 4, putB til 4] := by simp [objText]
  rw [e9]
  exact bodyPost_ret (results_tmp rfl _ _ _) rfl ⟨q, m, c, rfl, HB.out.lift ((OwB.start w).call F.out)⟩
end
end Go.Proofs.YtbhnfohoclcjdaaGreat
namespace Go
open Go.Dr Go.Kd

/-! ### A world without memory -/
def World.void (w : World) : World := { w with heap := #[] }
theorem World.void_fr (w : World) : Fr [] w.void w := ⟨rfl, rfl, rfl, Nat.zero_le _, fun k hk _ => by simp [World.void] at hk⟩
theorem World.void_size (w : World) : w.void.heap.size = 0 := rfl
/-- Blocks that are held, new or old. -/
theorem OwB.hold (w : World) : OwB w.void [] w := ⟨.nil _, List.nodup_nil, (fun p hp => by cases hp), w.void_fr⟩
theorem OwB.weak {w0 w1 w : World} {L : List (Nat × Obj)} (h : OwB w0 L w) (h1 : Fr [] w1 w) (hs : w1.heap.size ≤ w0.heap.size) : OwB w1 L w := ⟨h.has, h.nd, fun p hp => Nat.le_trans hs (h.lo p hp), h1⟩

/-! ### What a call that makes terms leaves alone -/
/-- The types of a table, of its list's cells, of bytes, of slices of bytes. -/
structure TTy where
  tT : Nat
  lT : Nat
  bT : Nat
  sT : Nat
  h1 : bT ≠ tT
  h2 : bT ≠ lT
  h3 : sT ≠ tT
  h4 : sT ≠ lT
  /-- May maps turn? -/
  mp : Bool
/-- A table doesn't consist of it. -/
def other (t : TTy) : Obj → Prop
  | .cells _ T _ => T ≠ t.tT ∧ T ≠ t.lT
  | .map .. => t.mp = false
  | _ => True
structure FrT (t : TTy) (lo : Nat) (w w' : World) : Prop where
  os : w'.os = w.os
  tape : w'.tape = w.tape
  output : w'.output = w.output
  size : w.heap.size ≤ w'.heap.size
  at_ : ∀ k o, w.blk k = some o → (k < lo ∨ other t o) → w'.blk k = some o
/-- Bytes, and slices of them, stay. -/
def Stay (t : TTy) (w w' : World) : Prop := ∀ k cs T fr, w.blk k = some (.cells cs T fr) → (T = t.bT ∨ T = t.sT) → w'.blk k = some (.cells cs T fr)
section
variable {t : TTy} {lo : Nat} {w w' w1 w0 : World} {L : List (Nat × Obj)}
theorem FrT.of (F : Fr [] w w') : FrT t lo w w' := ⟨F.os, F.tape, F.output, F.size, fun k o h _ => F.get h (by simp)⟩
theorem FrT.refl (w : World) : FrT t lo w w := .of (Fr.refl _ _)
theorem FrT.trans (h : FrT t lo w w1) (k : FrT t lo w1 w') : FrT t lo w w' :=
  ⟨k.os.trans h.os, k.tape.trans h.tape, k.output.trans h.output, Nat.le_trans h.size k.size, fun i o ho hc => k.at_ i o (h.at_ i o ho hc) hc⟩
theorem FrT.get (h : FrT t lo w w') {k : Nat} {o : Obj} (ho : w.blk k = some o) (hc : k < lo ∨ other t o) : w'.blk k = some o := h.at_ k o ho hc
theorem FrT.fr (h : FrT t lo w w') (hl : w.heap.size ≤ lo) : Fr [] w w' := ⟨h.os, h.tape, h.output, h.size, fun k hk _ => by
  have e : w.blk k = some w.heap[k] := Array.getElem?_eq_getElem hk
  rw [e]; exact h.at_ k _ e (.inl (by omega))⟩
/-- Seen from an older world, all whose blocks are older than the tables. -/
theorem FrT.fr2 (h : FrT t lo w w') (F : Fr [] w0 w) (hl : w0.heap.size ≤ lo) : Fr [] w0 w' := ⟨h.os.trans F.os, h.tape.trans F.tape, h.output.trans F.output, Nat.le_trans F.size h.size, fun k hk hn => by
  have e0 := F.at_ k hk hn
  have e : w0.blk k = some w0.heap[k] := Array.getElem?_eq_getElem hk
  rw [e] at e0 ⊢
  exact h.at_ k _ e0 (.inl (by omega))⟩
/-- A write to what is new. -/
theorem FrT.put (h : FrT t lo w w') {b : Nat} (o : Obj) (hb : w.heap.size ≤ b) : FrT t lo w (w'.put b o) :=
  ⟨h.os, h.tape, h.output, by simpa using h.size, fun k o' ho hc => by
    have := World.at_lt ho
    rw [World.at_put_other _ _ _ _ (by omega)]
    exact h.at_ k o' ho hc⟩
theorem FrT.drew (h : FrT t lo w w') : FrT t lo w w'.drew := ⟨h.os, h.tape, h.output, h.size, h.at_⟩
theorem FrT.alloc (h : FrT t lo w w') (o : Obj) : FrT t lo w (w'.alloc o) := h.trans (.of ((Fr.refl [] w').alloc o))
/-- Only blocks of a table, or new ones, have turned. -/
theorem FrT.turn {fp : List Nat} (F : Fr fp w w') (h : ∀ b ∈ fp, lo ≤ b ∧ ∀ o, w.blk b = some o → ¬ other t o) : FrT t lo w w' :=
  ⟨F.os, F.tape, F.output, F.size, fun k o ho hc => F.get ho fun hm => by
    have := h k hm
    rcases hc with hc | hc
    · omega
    · exact this.2 o ho hc⟩
theorem OwB.callT (h : OwB w0 L w) (F : FrT t lo w w') (hL : ∀ q ∈ L, q.1 < lo ∨ other t q.2) (hl : w0.heap.size ≤ lo) : OwB w0 L w' :=
  ⟨fun q hq => F.get (h.has q hq) (hL q hq), h.nd, h.lo, F.fr2 h.fr hl⟩
theorem Has.after (h : Has L w) (hL : ∀ q ∈ L, q.1 < lo ∨ other t q.2) (F : FrT t lo w w') : Has L w' := fun q hq => F.get (h q hq) (hL q hq)
theorem Has.stay (h : Has L w) (hL : ∀ q ∈ L, ∃ cs T fr, q.2 = .cells cs T fr ∧ (T = t.bT ∨ T = t.sT)) (F : Stay t w w') : Has L w' := fun q hq => by
  obtain ⟨cs, T, fr, h1, h2⟩ := hL q hq
  rw [h1]
  exact F _ _ _ _ (by rw [← h1]; exact h q hq) h2
theorem Stay.refl (w : World) : Stay t w w := fun _ _ _ _ h _ => h
theorem Stay.trans (h : Stay t w w1) (k : Stay t w1 w') : Stay t w w' := fun i cs T fr h1 h2 => k i cs T fr (h i cs T fr h1 h2) h2
theorem Stay.of (F : Fr [] w w') : Stay t w w' := fun _ _ _ _ h _ => F.get h (by simp)
theorem FrT.stay (h : FrT t lo w w') : Stay t w w' := fun k cs T fr h1 h2 => h.get h1 (.inr (by
  rcases h2 with rfl | rfl
  · exact ⟨t.h1, t.h2⟩
  · exact ⟨t.h3, t.h4⟩))
theorem Stay.put {b : Nat} {cs cs' : Array Value} {T : TypeId} {fr fr' : Nat × Nat} (hb : w.blk b = some (.cells cs T fr)) (h1 : T ≠ t.bT) (h2 : T ≠ t.sT) (o : Obj) : Stay t w (w.put b o) := fun k cs2 T2 fr2 h3 h4 => by
  rw [World.at_put_other _ _ _ _ (fun e => by
    subst e
    rw [hb] at h3
    simp only [Option.some.injEq, Obj.cells.injEq] at h3
    rcases h4 with h4 | h4
    · exact h1 (h3.2.1.trans h4)
    · exact h2 (h3.2.1.trans h4))]
  exact h3
/-- What holds also behind whatever leaves bytes and slices of them. -/
def After (t : TTy) (w : World) (φ : World → Prop) : Prop := ∀ w', Stay t w w' → φ w'
theorem After.now {φ : World → Prop} (h : After t w φ) : φ w := h w (.refl w)
theorem After.step {φ : World → Prop} (h : After t w φ) (F : Stay t w w') : After t w' φ := fun w2 G => h w2 (F.trans G)
theorem BldV.svStay {e sz : Nat} {p : Option Addr} {n cap : Nat} {vs : List Value} (h : BldV w0 L e sz w p n cap vs) (he : e = t.bT ∨ e = t.sT) (F : Stay t w w') : Sv sz w' p n cap vs := by
  have hl := h.len
  rcases h.row.2 with ⟨hv, h0⟩ | ⟨g, c, cur, hv, _, hg, hnc, hcm, hcs, ht⟩
  · simp only [Value.slice.injEq] at hv
    obtain ⟨rfl, _, rfl⟩ := hv
    exact ⟨hl, by omega, .inl h0, fun _ => rfl, by simp⟩
  · simp only [Value.slice.injEq] at hv
    obtain ⟨rfl, _, rfl⟩ := hv
    refine ⟨hl, hnc, .inr ⟨g, 0, cur, e, (0, 0), rfl, F _ _ _ _ (by rw [World.blk_heap]; exact hg) he, ?_, ?_⟩, by simp, fun a ha => ?_⟩
    · rw [hcs, Nat.zero_add]; exact Nat.mul_le_mul_right _ hnc
    · rw [Array.toList_extract, List.extract_eq_take_drop]
      simpa using ht
    · simp only [Option.some.injEq] at ha
      exact ⟨g, 0, ha.symm⟩
theorem Bld.slStay {k : IntKind} {e : Nat} {p : Option Addr} {n cap : Nat} {l : List Int} (h : Bld w0 L k e w p n cap l) (he : e = t.bT ∨ e = t.sT) (F : Stay t w w') : Sl k w' p n cap l := by
  have hl := h.len
  rcases h.row.2 with ⟨hv, h0⟩ | ⟨g, c, cur, hv, _, hg, hnc, hcm, hcs, ht⟩
  · simp only [Value.slice.injEq] at hv
    obtain ⟨rfl, _, rfl⟩ := hv
    exact ⟨hl, by omega, .inl h0, fun _ => rfl, by simp⟩
  · simp only [Value.slice.injEq] at hv
    obtain ⟨rfl, _, rfl⟩ := hv
    refine Sl.of (F _ _ _ _ (by rw [World.blk_heap]; exact hg) he) (by rw [hcs]; omega) ?_ hnc
    rw [Array.toList_extract, List.extract_eq_take_drop]
    simpa using ht
end

/-! ### Rows that are kept among the others -/
theorem Has.of_append {A B : List (Nat × Obj)} {w : World} (h : Has (A ++ B) w) : Has A w ∧ Has B w := ⟨fun q hq => h q (by simp [hq]), fun q hq => h q (by simp [hq])⟩
section
variable {w0 w w1 : World} {L : List (Nat × Obj)} {e e' sz : Nat} {p p' : Option Addr} {n cap n' cap' : Nat} {vs : List Value} {k : IntKind} {l : List Int}
/-- A row that a callee has made joins the call's own blocks; it reads as it does as long as these stand. -/
theorem BldV.join (h : BldV w0 L e sz w p n cap vs) (B : Bld w [] k e' w1 p' n' cap' l) :
    ∃ M, BldV w0 (M ++ L) e sz w1 p n cap vs ∧ (∀ x ∈ M, ∃ cs fr, x.2 = .cells cs e' fr) ∧ ∀ w', Has M w' → Sl k w' p' n' cap' l := by
  have hl := B.len
  rcases B.row.2 with ⟨hv, h0⟩ | ⟨g, c, cur, hv, _, hg, hnc, hcm, hcs, ht⟩
  · simp only [Value.slice.injEq] at hv
    obtain ⟨rfl, _, rfl⟩ := hv
    exact ⟨[], h.call B.own.fr, by simp, fun w' _ => ⟨hl, by omega, .inl h0, fun _ => rfl, by simp⟩⟩
  · simp only [Value.slice.injEq] at hv
    obtain ⟨rfl, _, rfl⟩ := hv
    refine ⟨[(g, .cells cur e' (0, 0))], h.add B.own.fr (by rw [World.blk_heap]; exact hg) (B.new g rfl).1, fun x hx => ?_, fun w' hw' => ?_⟩
    · simp only [List.mem_singleton] at hx
      subst hx
      exact ⟨_, _, rfl⟩
    · refine Sl.of (hw'.nth 0 rfl) (by rw [hcs]; omega) ?_ hnc
      rw [Array.toList_extract, List.extract_eq_take_drop]
      simpa using ht
end

/-! ### A table's keys -/
def goodT (t : Tm) : Prop := fits t.2 = true ∧ (∀ l ∈ t.2, isBytes l) ∧ 1 ≤ t.1 ∧ t.1 ≤ 8
def keysT : List Tm → Nat → List (ByteArray × Value)
  | [], _ => []
  | t :: T, i => (strB (txt t), .int .i64 ((i + 1 : Nat) : Int)) :: keysT T (i + 1)
theorem isBytes_join {ps : List Bs} (hf : fits ps = true) (hb : ∀ l ∈ ps, isBytes l) : isBytes (joinB ps) := by
  simp only [fits, Bool.and_eq_true, decide_eq_true_eq, List.all_eq_true] at hf
  intro x hx
  simp only [joinB, List.mem_cons, List.mem_flatMap] at hx
  rcases hx with rfl | ⟨p, hp, rfl | rfl | hx⟩
  · omega
  · have := hf.2 p hp; omega
  · omega
  · exact hb p hp x hx
theorem isBytes_txt {t : Tm} (h : goodT t) : isBytes (txt t) := by
  intro x hx
  simp only [txt, List.mem_append, List.mem_singleton] at hx
  rcases hx with hx | rfl
  · exact isBytes_join h.1 h.2.1 x hx
  · have := h.2.2; omega
theorem strB_txt {t u : Tm} (ht : goodT t) (hu : goodT u) : (strB (txt t) = strB (txt u)) ↔ txt t = txt u :=
  ⟨fun h => strB_inj (isBytes_txt ht) (isBytes_txt hu) h, fun h => by rw [h]⟩
theorem findS_keysT {t : Tm} (ht : goodT t) : ∀ (T : List Tm) (i j : Nat), (∀ u ∈ T, goodT u) →
    findS (strB (txt t)) (keysT T i) j = (T.findIdx? (fun u => txt u == txt t)).map fun n => (j + n, Value.int .i64 ((i + n + 1 : Nat) : Int)) := by
  intro T
  induction T with
  | nil => intro i j _; rfl
  | cons u T ih =>
    intro i j hT
    rw [keysT, findS, List.findIdx?_cons]
    by_cases he : txt t = txt u
    · rw [if_pos (by rw [he]), show (txt u == txt t) = true by rw [he]; exact beq_self_eq_true _]
      simp
    · rw [if_neg (fun h => he ((strB_txt ht (hT u (by simp))).1 h)), show (txt u == txt t) = false by rw [beq_eq_false_iff_ne]; exact fun h => he h.symm, ih (i + 1) (j + 1) (fun v hv => hT v (by simp [hv]))]
      simp only [Bool.false_eq_true, if_false, Option.map_map]
      congr 1
      funext n
      simp only [Function.comp]
      rw [show j + 1 + n = j + (n + 1) by omega, show i + 1 + n + 1 = i + (n + 1) + 1 by omega]
theorem keysT_append (t : Tm) : ∀ (T : List Tm) (i : Nat), keysT (T ++ [t]) i = keysT T i ++ [(strB (txt t), .int .i64 ((i + T.length + 1 : Nat) : Int))] := by
  intro T
  induction T with
  | nil => intro i; rfl
  | cons u T ih =>
    intro i
    rw [List.cons_append, keysT, ih, keysT, List.cons_append, List.length_cons, show i + 1 + T.length + 1 = i + (T.length + 1) + 1 by omega]

theorem BldV.block {w0 w : World} {L : List (Nat × Obj)} {e sz : Nat} {p : Option Addr} {n cap : Nat} {vs : List Value} (h : BldV w0 L e sz w p n cap vs) {g : Nat} (hg : p.map (·.block) = some g) : ∃ cs fr, w.blk g = some (.cells cs e fr) := by
  rcases h.row.2 with ⟨hv, _⟩ | ⟨g', c, cur, hv, _, hg', _⟩
  · simp only [Value.slice.injEq] at hv
    rw [hv.1] at hg; cases hg
  · simp only [Value.slice.injEq] at hv
    rw [hv.1] at hg
    simp only [Option.map_some, Option.some.injEq] at hg
    subst hg
    exact ⟨cur, _, (World.blk_heap w g').trans hg'⟩
/-! ### A table -/
/-- The three cells of a term. -/
def Cell3 (t : TTy) (w : World) (vs : List Value) (i : Nat) (u : Tm) : Prop :=
  vs[3 * i]? = some (.int .i64 u.1) ∧ ∃ (q : Option Addr) (m c : Nat) (q2 : Option Addr) (m2 c2 : Nat), vs[3 * i + 1]? = some (.slice q m c) ∧ vs[3 * i + 2]? = some (.slice q2 m2 c2) ∧ After t w fun w' => Sll w' q m c u.2
structure Tab (t : TTy) (lo tb : Nat) (w : World) (T : List Tm) : Prop where
  ex : ∃ (w0 : World) (mb : Nat) (p : Option Addr) (cap : Nat) (vs : List Value) (es : Array MapEntry) (clock : Nat), w0.heap.size = 0 ∧
    BldV w0 [(tb, .cells #[.slice p T.length cap, .map (some mb)] t.tT), (mb, .map es clock)] t.lT 3 w p T.length cap vs ∧ lo ≤ tb ∧ lo ≤ mb ∧ (∀ g, p.map (·.block) = some g → lo ≤ g) ∧
    es.toList.map (fun e => (e.key, e.val)) = (keysT T 0).map (fun p => (Value.string p.1, p.2)) ∧ (∀ u ∈ vs, u.oneCell' = true) ∧ ∀ i u, T[i]? = some u → Cell3 t w vs i u
  good : ∀ u ∈ T, goodT u
  len : T.length ≤ 65535
theorem Tab.fr0 {t : TTy} {lo tb : Nat} {w w' : World} {T : List Tm} (h : Tab t lo tb w T) (F : Fr [] w w') : Tab t lo tb w' T := by
  obtain ⟨w0, mb, p, cap, vs, es, clock, h0, B, h1, h2, h3, h4, h5, h6⟩ := h.ex
  refine ⟨⟨w0, mb, p, cap, vs, es, clock, h0, B.call F, h1, h2, h3, h4, h5, fun i u hu => ?_⟩, h.good, h.len⟩
  obtain ⟨a, q, m, c, q2, m2, c2, b, d, e⟩ := h6 i u hu
  exact ⟨a, q, m, c, q2, m2, c2, b, d, e.step (.of F)⟩
/-- A box of the caller's own is written. -/
theorem Tab.put {t : TTy} {lo tb : Nat} {w : World} {T : List Tm} (h : Tab t lo tb w T) {b : Nat} {cs : Array Value} {T' : TypeId} {fr : Nat × Nat} (hb : w.blk b = some (.cells cs T' fr)) (h1 : T' ≠ t.bT ∧ T' ≠ t.sT ∧ T' ≠ t.tT ∧ T' ≠ t.lT) (o : Obj) : Tab t lo tb (w.put b o) T := by
  obtain ⟨w0, mb, p, cap, vs, es, clock, h0, B, k1, k2, k3, k4, k5, k6⟩ := h.ex
  have n1 : b ≠ tb := fun e => by
    have := B.own.nth 0 rfl
    rw [← e, hb] at this
    simp only [Option.some.injEq, Obj.cells.injEq] at this
    exact h1.2.2.1 this.2.1
  have n2 : b ≠ mb := fun e => by
    have := B.own.nth 1 rfl
    rw [← e, hb] at this
    simp at this
  have n3 : ∀ g, p.map (·.block) = some g → g ≠ b := fun g hg e => by
    rcases B.row.2 with ⟨hv, _⟩ | ⟨g', c, cur, hv, _, hg', _⟩
    · simp only [Value.slice.injEq] at hv
      rw [hv.1] at hg; cases hg
    · simp only [Value.slice.injEq] at hv
      rw [hv.1] at hg
      simp only [Option.map_some, Option.some.injEq] at hg
      subst hg
      subst e
      have := (World.blk_heap w g').trans hg'
      rw [hb] at this
      simp only [Option.some.injEq, Obj.cells.injEq] at this
      exact h1.2.2.2 this.2.1
  refine ⟨⟨w0, mb, p, cap, vs, es, clock, h0, ⟨⟨?_, B.own.nd, B.own.lo, ?_⟩, ?_, B.new⟩, k1, k2, k3, k4, k5, fun i u hu => ?_⟩, h.good, h.len⟩
  · exact B.own.has.put b o (fun q hq => by
      simp only [List.mem_cons, List.not_mem_nil, or_false] at hq
      rcases hq with rfl | rfl
      · exact Ne.symm n1
      · exact Ne.symm n2)
  · exact B.own.fr.put b o (fun hlt => by omega)
  · exact ((Fr.refl [b] w).put b o (by simp)).owns B.row (fun g hg hgb => by
      rw [List.mem_singleton] at hgb
      exact n3 g (by cases p with | none => cases hg | some q => simpa [Value.ownBlock] using hg) hgb)
  · obtain ⟨a, q, m, c, q2, m2, c2, d, e, f⟩ := k6 i u hu
    exact ⟨a, q, m, c, q2, m2, c2, d, e, f.step (.put (fr' := fr) (cs' := cs) hb h1.1 h1.2.1 o)⟩
theorem Tab.new {t : TTy} {tb mb : Nat} {w0 w : World} (h : OwB w0 [(tb, .cells #[.slice none 0 0, .map (some mb)] t.tT), (mb, .map #[] 0)] w) : Tab t w0.heap.size tb w [] := by
  refine ⟨⟨w.void, mb, none, 0, [], #[], 0, rfl, BldV.nil (h.weak w.void_fr (Nat.zero_le _)), h.low 0 rfl, h.low 1 rfl, (fun g hg => by cases hg), rfl, by simp, fun i t ht => by simp at ht⟩, by simp, by simp⟩
/-- Only the table's own blocks, and new ones, have turned. -/
theorem FrT.ofTab {t : TTy} {lo tb mb : Nat} {w0 w w' : World} {L : List (Nat × Obj)} {p : Option Addr} {n cap : Nat} {vs : List Value} {cs : Array Value} {es : Array MapEntry} {clock : Nat} (B : BldV w0 L t.lT 3 w p n cap vs) (ht : w.blk tb = some (.cells cs t.tT)) (hm : w.blk mb = some (.map es clock))
    (hmp : t.mp = true)
    (h1 : lo ≤ tb) (h2 : lo ≤ mb) (h3 : ∀ g, p.map (·.block) = some g → lo ≤ g) (F : Fr ((p.map (·.block)).toList ++ [tb, mb]) w w') : FrT t lo w w' := by
  refine FrT.turn F fun b hb => ?_
  simp only [List.mem_append, List.mem_cons, List.not_mem_nil, or_false, Option.mem_toList] at hb
  rcases hb with hb | rfl | rfl
  · obtain ⟨cs, fr, h⟩ := B.block hb
    refine ⟨h3 b hb, fun o ho => ?_⟩
    rw [h] at ho
    injection ho with ho
    subst ho
    exact fun hh => hh.2 rfl
  · refine ⟨h1, fun o ho => ?_⟩
    rw [ht] at ho
    injection ho with ho
    subst ho
    exact fun hh => hh.1 rfl
  · refine ⟨h2, fun o ho => ?_⟩
    rw [hm] at ho
    injection ho with ho
    subst ho
    show ¬ (t.mp = false)
    rw [hmp]
    decide
theorem Tab.mono {t : TTy} {lo lo' tb : Nat} {w : World} {T : List Tm} (h : Tab t lo tb w T) (hl : lo' ≤ lo) : Tab t lo' tb w T := by
  obtain ⟨w0, mb, p, cap, vs, es, clock, h0, B, h1, h2, h3, h4⟩ := h.ex
  exact ⟨⟨w0, mb, p, cap, vs, es, clock, h0, B, Nat.le_trans hl h1, Nat.le_trans hl h2, fun g hg => Nat.le_trans hl (h3 g hg), h4⟩, h.good, h.len⟩
theorem Tab.lower {t : TTy} {lo tb : Nat} {w : World} {T : List Tm} (h : Tab t lo tb w T) : lo ≤ tb := by
  obtain ⟨w0, mb, p, cap, vs, es, clock, h0, B, h1, _⟩ := h.ex
  exact h1
theorem Tab.lt {t : TTy} {lo tb : Nat} {w : World} {T : List Tm} (h : Tab t lo tb w T) : tb < w.heap.size := by
  obtain ⟨w0, mb, p, cap, vs, es, clock, h0, B, h1, _⟩ := h.ex
  exact B.own.lt 0 rfl
end Go
namespace Go.Proofs.YtbhnfohoclcjdaaGreat
open Go.RowKit Go.Dr Go.Kd
/-- The program's tables, and what they leave alone. -/
def TT : TTy := ⟨138, 200, 5, 49, by decide, by decide, by decide, by decide, true⟩
abbrev TabP (lo tb : Nat) (w : World) (T : List Tm) : Prop := Tab TT lo tb w T
abbrev FrP (lo : Nat) (w w' : World) : Prop := FrT TT lo w w'
abbrev SllA (w : World) (q : Option Addr) (m c : Nat) (ls : List (List Int)) : Prop := After TT w fun w' => Sll w' q m c ls
/-- What a table tells of a name. -/
def OfRes (T : List Tm) (k : List Int) (w : World) (kind : Int) (q : Option Addr) (m c : Nat) (ok : Bool) : Prop :=
  match ofT T k with
  | none => kind = 0 ∧ q = none ∧ m = 0 ∧ c = 0 ∧ ok = false
  | some t => kind = t.1 ∧ ok = true ∧ SllA w q m c t.2
theorem numB_le (b : Bs) (most : Nat) : numB b most ≤ most := by
  unfold numB
  split
  · omega
  · split
    · omega
    · rename_i h; simp only [not_or] at h; omega
section
variable {w : World}
set_option maxRecDepth 100000 in
set_option maxHeartbeats 2000000 in
theorem of_f {lo tb : Nat} {T : List Tm} {k : List Int} (h : TabP lo tb w T) (hk : k.length = 32) (hb : isBytes k) :
    Calls Tryz.prog 89 #[.pointer (some ⟨tb, 0, none⟩), .agg (ints .u8 k)] w fun e w' => ∃ (kind : Int) (q : Option Addr) (m c : Nat) (ok : Bool), e = .returned (.tuple #[.int .i64 kind, .slice q m c, .bool ok]) ∧ Fr [] w w' ∧ OfRes T k w' kind q m c ok := by
  have hT := h.len
  have HG4 := Lib.hid h.good
  obtain ⟨w0, mb, p, cap, vs, es, clock, h0, B, h1, h2, h3, h4, h5, h6⟩ := h.ex
  have B : BldV w0 [(tb, .cells #[.slice p T.length cap, .map (some mb)] 138), (mb, .map es clock)] 200 3 w p T.length cap vs := B
  have ft := B.own.nth 0 rfl
  have tt := B.own.lt 0 rfl
  have HB := Lib.hid B
  have H5 := Lib.hid h5
  have H6 := Lib.hid h6
  have HK := Lib.hid hb
  clear B h h4 h5 h6 h3 hb
  obtain ⟨n, hn⟩ : ∃ n, n = T.length := ⟨_, rfl⟩
  rw [← hn] at hT ft HB
  have HN := Lib.hid hn
  clear hn
  obtain ⟨g, hg⟩ : ∃ g, g = numB k n := ⟨_, rfl⟩
  have HG := Lib.hid hg
  clear hg
  go_enter Tryz.func89, Tryz.ntmps89
  go_wp2_with fail
  refine OwB.named (Q := fun X => Code.wp _ _ _ _ X) (show OwB w [(w.heap.size, .cells (ints .u8 k) 34)] _ from (OwB.start w).allocN (.cells (ints .u8 k) 34) w.heap.size rfl) ?_
  intro V hV
  have hne0 : w.heap.size ≠ tb := by omega
  have F0 := hV.fr.get ft (by simp)
  generalize w.heap.size = b3 at hV hne0 ⊢
  obtain ⟨L, hL⟩ : ∃ L : List (Nat × Obj), L = [(b3, .cells (ints .u8 k) 34)] := ⟨_, rfl⟩
  rw [← hL] at hV
  have HL := Lib.hid hL
  clear hL
  have hne : Nonempty (OwnW w L) := ⟨⟨_, hV⟩⟩
  have f0 : ∀ x : OwnW w L, x.w.blk b3 = some (.cells (ints .u8 k) 34) := fun x => x.nth HL.out 0 rfl
  have f1 : ∀ x : OwnW w L, x.w.blk tb = some (.cells #[.slice p n cap, .map (some mb)] 138) := fun x => x.h.fr.get ft (by simp)
  have c1 : ∀ x : OwnW w L, Calls Tryz.prog 126 #[.slice (some ⟨b3, 0, none⟩) 32 32, .int .i64 n] x.w fun e w' => e = .returned (.int .i64 g) ∧ Fr [] x.w w' := fun x => HG.out ▸ number_f (Sl.whole (x.nth HL.out 0 rfl) hk) HK.out (by omega)
  have C1 := Lib.hid c1
  clear c1
  refine wp_region_own (by kernel_rfl) (by kernel_rfl) hV ?_
  repeat (go_big_quiet_step (with_reducible first | exact Calls.own_of (C1.out _)))
  refine wpQuiet_nil ?_
  intro W hw'
  obtain ⟨⟨V9, hV9⟩, rfl⟩ := hw'
  clear f0 f1 hne hV F0
  rename_i W
  have ft2 := hV9.fr.get ft (by simp)
  have tt2 := World.at_lt ft2
  have fb := (HL.out ▸ hV9).nth 0 rfl
  have F := Lib.hid hV9.fr
  have HV := Lib.hid hV9
  clear hV9 C1 ft
  by_cases hg0 : g = 0
  · have d : decide ((g : Int) = 0) = true := by simp [hg0]
    go_wp2_with fail
    have e9 : ofT T k = none := by unfold ofT; rw [← HN.out, ← HG.out, if_pos hg0]
    exact bodyPost_ret (results_tmp3 rfl _ _ _) rfl ⟨0, none, 0, 0, false, rfl, F.out, by rw [OfRes, e9]; exact ⟨rfl, rfl, rfl, rfl, rfl⟩⟩
  · have d : ((g : Int) == 0) = false := by simp [hg0]
    have hgn : g ≤ n := by rw [HG.out]; exact numB_le k n
    obtain ⟨j, hj⟩ : ∃ j, g = j + 1 := ⟨g - 1, by omega⟩
    have w1 : IntKind.i64.wrap ((g : Int) - 1) = (j : Int) := by rw [IntKind.wrap_i64]; omega
    obtain ⟨t, ht⟩ : ∃ t, T[j]? = some t := ⟨T[j]'(by rw [← HN.out]; omega), List.getElem?_eq_getElem _⟩
    have e9 : ofT T k = some t := by unfold ofT; rw [← HN.out, ← HG.out, if_neg hg0, hj]; simpa using ht
    have E9 := Lib.hid e9
    obtain ⟨c0, q, m, c, q2, m2, k2, c1, c2, A⟩ := H6.out j t ht
    obtain ⟨lb, off, cs, TT, fr, rfl, hb, hs, hat⟩ := HB.out.sv.at (j := j) (by omega)
    have hcell : cs.extract (off + j * 3) (off + j * 3 + 3) = #[.int .i64 t.1, .slice q m c, .slice q2 m2 k2] := by
      apply Array.ext_getElem?
      intro i
      rcases Nat.lt_or_ge i 3 with hi | hi
      · rw [Array.getElem?_extract_of_lt (by omega), ← Array.getElem?_eq_getElem, hat i hi]
        rcases (show i = 0 ∨ i = 1 ∨ i = 2 by omega) with rfl | rfl | rfl
        · rw [Nat.mul_comm j 3, Nat.add_zero]; exact c0
        · rw [Nat.mul_comm j 3]; exact c1
        · rw [Nat.mul_comm j 3]; exact c2
      · rw [Array.getElem?_eq_none (by simp only [Array.size_extract]; omega), Array.getElem?_eq_none (by simpa using hi)]
    have fl := F.out.get hb (by simp)
    have HA := Lib.hid A
    have HT := Lib.hid ht
    clear ht A e9 hat hb c0 c1 c2
    have d2 : decide ((j : Int) < (n : Int)) = true := by rw [decide_eq_true_eq]; omega
    have hjn : j < n := by omega
    have HJ := Lib.hid hj
    clear hj
    go_wp2_with fail
    refine OwB.named (Q := fun X => Code.wp _ _ _ _ X) (((OwB.start w).call F.out).allocN (.cells #[.int .i64 t.1, .slice q m c, .slice q2 m2 k2] 200) W.heap.size rfl) ?_
    intro V2 hV2
    generalize W.heap.size = bx at hV2 ⊢
    obtain ⟨L, hL⟩ : ∃ L : List (Nat × Obj), L = [(bx, .cells #[.int .i64 t.1, .slice q m c, .slice q2 m2 k2] 200)] := ⟨_, rfl⟩
    rw [← hL] at hV2
    have HL2 := Lib.hid hL
    clear fl ft2 fb hs hcell hL d2 w1 d tt2
    have HV2 := Lib.hid hV2
    clear hV2
    have hm := HA.out.now.len
    have hgt : goodT t := HG4.out t (List.mem_of_getElem? HT.out)
    have hm64 : m ≤ 64 := by
      have := hgt.1
      simp only [fits, Bool.and_eq_true, decide_eq_true_eq] at this
      omega
    have H9 := Lib.hid (show ∀ l ∈ t.2, l.length ≤ 4096 by
      have := hgt.1
      simp only [fits, Bool.and_eq_true, decide_eq_true_eq, List.all_eq_true] at this
      exact this.2)
    clear hgt
    go_loopw [9, 32] (fun v iv wy => ∃ (i : Nat) (q9 : Option Addr) (c9 : Nat) (us : List Value) (M : List (Nat × Obj)), i ≤ m ∧ iv = .int .i64 (i : Int) ∧ v = .slice q9 i c9 ∧ Hid (BldV w (M ++ L) 49 1 wy q9 i c9 us) ∧ Hid (∀ x ∈ M, ∃ cs fr, x.2 = .cells cs 5 fr) ∧ Hid (∀ w', Has M w' → Sls w' us (t.2.take i))) (fun _ iv _ => (m - intOf iv).toNat)
    case atStart => exact ⟨0, none, 0, [], [], by omega, rfl, rfl, Lib.hid (BldV.nil HV2.out), Lib.hid (by simp), Lib.hid (fun _ _ => .nil)⟩
    case round =>
      obtain ⟨i, q9, c9, us, M, hi9, rfl, rfl, hO, hM, hU⟩ := hrel
      by_cases hlt : i < m
      · have d3 : decide ((i : Int) < (m : Int)) = true := by rw [decide_eq_true_eq]; omega
        obtain ⟨b, off, cs, TT, fr, q3, m3, c3, l3, rfl, f0, hs, hc, hl, S3⟩ := (HA.out wr (.of hO.out.own.fr)).at hlt
        have hc2 := (Array.getElem?_eq_some_iff.1 hc).2
        have HS3 := Lib.hid S3
        have hl2 := Lib.hid hl
        clear S3 hl
        have hBe : Bld wr [] .u8 5 (wr.alloc (.cells #[] 5)) (some ⟨wr.heap.size, 0, none⟩) 0 0 [] := Bld.made (OwB.start wr) 0 (by simp [maxLen])
        have HBe := Lib.hid hBe
        clear hBe
        have HF := Lib.hid (H9.out l3 (List.mem_of_getElem? hl2.out))
        have hm3 : m3 ≤ 4096 := by rw [← HS3.out.len]; exact HF.out
        go_wp2_with (refine wpList_app47 rfl _ _ rfl rfl HBe.out rfl (HS3.out.fr0 HBe.out.own.fr) (by omega) ?_)
        intro q4 c4 W4 hB4
        obtain ⟨M2, hB5, hM2, hK2⟩ := hO.out.join hB4
        have HB5 := Lib.hid hB5
        have HM2 := Lib.hid hM2
        have HK2 := Lib.hid hK2
        clear hB4 hB5 hM2 hK2 HBe f0 hc hc2
        go_wp2_with (refine wpList_app86 rfl _ _ rfl rfl (HB5.out.call ((Fr.refl [] W4).alloc (.cells #[.slice q4 m3 c4] 49))) rfl (Sv.one (v := .slice q4 m3 c4) (T := 49) (fr := (0, 0)) (World.at_alloc_new _ _ _ rfl)) (by simp [Value.oneCell']) (by omega) ?_)
        intro q5 c5 W5 B5
        have HB6 := Lib.hid B5
        clear B5 HB5
        go_wp2_with fail
        go_roundw
        case rel =>
          refine ⟨i + 1, q5, c5, us ++ [.slice q4 m3 c4], M2 ++ M, by omega, by simp, rfl, ?_, ?_, ?_⟩
          · rw [List.append_assoc]; exact HB6
          · refine Lib.hid fun x hx => ?_
            rcases List.mem_append.1 hx with h | h
            · exact HM2.out x h
            · exact hM.out x h
          · refine Lib.hid fun w' hw' => ?_
            have h2 := Has.of_append hw'
            rw [List.take_add_one, hl2.out]
            exact (hU.out w' h2.2).append (.cons (HK2.out w' h2.1) .nil)
        case measure => simp [intOf]; omega
      · obtain rfl : i = m := by omega
        have hd : decide ((i : Int) < (i : Int)) = false := by simp
        have f0 := (HL2.out ▸ hO.out.own).nth M.length (by rw [List.getElem?_append_right (Nat.le_refl _), Nat.sub_self]; rfl)
        have t0 := World.at_lt f0
        go_wp2_with fail
        have hE : OfRes T k wr t.1 q9 i c9 true := by
          rw [OfRes, E9.out]
          refine ⟨rfl, rfl, fun w' G => Sll.of (hO.out.svStay (.inr rfl) G) ?_⟩
          have h1 := hU.out w' ((Has.of_append hO.out.own.has).1.stay (fun x hx => by obtain ⟨cs, fr, h⟩ := hM.out x hx; exact ⟨cs, 5, fr, h, .inl rfl⟩) G)
          rwa [List.take_of_length_le (by omega)] at h1
        exact bodyPost_ret (results_tmp3 rfl _ _ _) rfl ⟨t.1, q9, i, c9, true, rfl, hO.out.own.fr, hE⟩
end
end Go.Proofs.YtbhnfohoclcjdaaGreat
