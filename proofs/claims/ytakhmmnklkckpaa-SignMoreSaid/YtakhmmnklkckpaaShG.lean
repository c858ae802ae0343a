/- The document's SHA-512: its words; a block's round. -/
import Derived.Test.YtakhmmnklkckpaaShE
import Derived.Test.YtakhmmnklkckpaaZi
import Derived.Deep.CutBlock
import Derived.Deep.DeepCutAuto
namespace Go.Proofs.Ytakhmmnklkckpaa
open Go.RowKit Go.Dr
section
variable {w0 w w' : World} {ops : Array Oper} {rest : List Oper} {o : Oper} {a : Act} {Q : Exit → Act → World → Prop}
theorem wpList_bsV {t : TypeId} {m : Nat} {ps : Array (Nat × Operand)} {v : Value} (hg : o.guard = none) (_ : o.op = .buildSlice t m ps)
    (h : (execOp a.eval o).run Try.prog w = .ok (.value v) w') (hk : wpList Try.prog ops Q rest (a.put o.dst v) w') : wpList Try.prog ops Q (o :: rest) a w :=
  wpList_plain hg fun K hK => by
    unfold Oper.wp
    rw [h]
    exact hK _ _ hk
end
section
variable {w : World}
theorem first_f : Calls Try.prog 118 #[] w fun e w' => ∃ b, e = .returned (.slice (some ⟨b, 0, none⟩) 8 8) ∧ w'.blk b = some (.cells (ints .u64 iL) 25) ∧ w.heap.size ≤ b ∧ Fr [] w w' := by
  go_enter Try.func118, Try.ntmps118
  go_wp2_with (refine wpList_bsV (t := 120) (m := 8) (v := .slice (some ⟨w.heap.size, 0, none⟩) 8 8) (w' := w.alloc (.cells (ints .u64 iL) 25)) rfl rfl (by kernel_rfl) ?_)
  go_ret
  exact ⟨w.heap.size, rfl, World.at_alloc_new _ _ _ rfl, Nat.le_refl _, (Fr.refl _ _).alloc _⟩
set_option maxRecDepth 100000 in
theorem rounds_f : Calls Try.prog 119 #[] w fun e w' => ∃ b, e = .returned (.slice (some ⟨b, 0, none⟩) 80 80) ∧ w'.blk b = some (.cells (ints .u64 kL) 25) ∧ w.heap.size ≤ b ∧ Fr [] w w' := by
  go_enter Try.func119, Try.ntmps119
  go_wp2_with (refine wpList_bsV (t := 120) (m := 80) (v := .slice (some ⟨w.heap.size, 0, none⟩) 80 80) (w' := w.alloc (.cells (ints .u64 kL) 25)) rfl rfl (by kernel_rfl) ?_)
  go_ret
  exact ⟨w.heap.size, rfl, World.at_alloc_new _ _ _ rfl, Nat.le_refl _, (Fr.refl _ _).alloc _⟩
theorem E120 : ElemT Try.prog 120 25 1 8 (ints .u64 (zs 1)) := ⟨Try.underlying120, by kernel_rfl, by rw [size_ints, length_zs]⟩
@[go_sem] theorem make120 (w : World) (kl kc : IntKind) (l c : Int) (h0 : 0 ≤ l) (hlc : l ≤ c) (hb : c ≤ 35184372088832) : (Instr.makeSlice 120 (.int kl l) (.int kc c)).run Try.prog w = .ok (.slice (some ⟨w.heap.size, 0, none⟩) l.toNat c.toNat) (w.alloc (.cells (ints .u64 (zs c.toNat)) 25)) := by
  rw [E120.make w kl kc l c h0 hlc (by omega) (by omega), madeCells_ints _ _ _ (by omega), Nat.mul_one]
theorem and_mask {x : Int} (hx : 0 ≤ x ∧ x < 18446744073709551616) : bits .and .u64 x 18446744073709551615 = x := by
  rw [u64_and x _ hx.1 hx.2 (by omega) (by omega)]
  have e : (18446744073709551615 : Int).toNat = 2 ^ 64 - 1 := by decide
  rw [e, Nat.and_two_pow_sub_one_eq_mod, Nat.mod_eq_of_lt (by omega)]
  omega
@[go_sem] theorem and_mask_wrap (y : Int) : bits .and .u64 (IntKind.u64.wrap y) 18446744073709551615 = IntKind.u64.wrap y := and_mask (wrapM y)
theorem wrap_swap (c d s : Int) : IntKind.u64.wrap (IntKind.u64.wrap (c + s) + d) = IntKind.u64.wrap (IntKind.u64.wrap (c + d) + s) := by
  simp only [IntKind.wrap_u64]; omega
theorem or_low (x : Int) {b : Int} (hb : 0 ≤ b ∧ b < 256) : bits .or .u64 (IntKind.u64.wrap (x * 256)) b = IntKind.u64.wrap (IntKind.u64.wrap (x * 256) + b) := by
  have hm := wrapM (x * 256)
  have hd : IntKind.u64.wrap (x * 256) % 256 = 0 := by rw [IntKind.wrap_u64]; omega
  generalize IntKind.u64.wrap (x * 256) = y at hm hd
  unfold M64 at hm
  rw [u64_or y b hm.1 (by omega) hb.1 (by omega)]
  obtain ⟨q, rfl⟩ : ∃ q : Nat, y = ((q <<< 8 : Nat) : Int) := ⟨y.toNat / 256, by rw [Nat.shiftLeft_eq]; omega⟩
  rw [Int.toNat_natCast, ← Nat.shiftLeft_add_eq_or_of_lt (by omega : b.toNat < 2 ^ 8), IntKind.wrap_u64]
  omega
/-- The document's words, behind i of them. -/
def dW (B : List Int) (i : Nat) : List Int := if i ≤ 16 then bR B (8 * i) else cR (bR B 128) (i - 16)
theorem length_dW (B : List Int) (i : Nat) : (dW B i).length = 80 := by
  unfold dW; split
  · exact length_bR _ _
  · rw [length_cR, length_bR]
theorem wrd_dW {B : List Int} (hB : Byt B) (i : Nat) : Wrd (dW B i) := by
  unfold dW; split
  · exact wrd_bR hB _
  · exact wrd_cR (wrd_bR hB _) _
theorem dW_succ (B : List Int) (i : Nat) (h : 16 ≤ i) : (dW B i).set i (nxt (dW B i) i) = dW B (i + 1) := by
  have e : dW B i = cR (bR B 128) (i - 16) := by
    unfold dW; split
    · obtain rfl : i = 16 := by omega
      rfl
    · rfl
  have e2 : dW B (i + 1) = cR (bR B 128) ((i - 16) + 1) := by rw [dW, if_neg (by omega), show i + 1 - 16 = (i - 16) + 1 from by omega]
  rw [e2, e, cR, show 16 + (i - 16) = i from by omega]
section
variable {w0 : World} {L : List (Nat × Obj)} {p : Option Addr} {n cap : Nat} {l : List Int}
theorem info25 : (Try.prog.info? 25).map (fun i => (i.zero, i.size, i.bytes)) = some (some (.int .u64 0), 1, 8) := by kernel_rfl
/-- []uint64: append of a slice. -/
theorem wpList_app64 {w : World} {ops : Array Oper} {rest : List Oper} {o : Oper} {a : Act} {Q : Exit → Act → World → Prop} (hgd : o.guard = none) (s x : Operand) (ho : o.op = .call { callee := .builtin .append, args := #[s, x], argTypes := #[120, 120] })
    (hs : a.eval s = .slice p n cap) (B : Bld w0 L .u64 25 w p n cap l) {q : Option Addr} {m c : Nat} {l2 : List Int} (hx : a.eval x = .slice q m c) (S : Sl .u64 w q m c l2) (hbig : n + m ≤ 17592186044416)
    (h : ∀ p' cap' w', Bld w0 L .u64 25 w' p' (n + m) cap' (l ++ l2) → wpList Try.prog ops Q rest (a.put o.dst (.slice p' (n + m) cap')) w') : wpList Try.prog ops Q (o :: rest) a w := by
  obtain ⟨i, hi, hz, hs1, hb1⟩ := info_parts info25
  exact wpList_apd hgd s x 120 120 ho Try.underlying120 hi hz hs1 hb1 rfl hs B hx (Apd.ofSrc Try.underlying120 hi hz (by rw [hs1]; exact S.src Try.underlying120)) (by omega) (by omega) h
end
theorem blkF_dW (H B : List Int) : blkF H B = addR H (vR (dW B 80) H 80) 8 := by
  rw [blkF, dW, if_neg (by omega)]
def sL : List Int := [28, 34, 39, 14, 18, 41, 1, 8, 7, 19, 61, 6]
def byteAt (n j : Nat) : Int := if j < 8 then 0 else lenB n (15 - j)
theorem take_byteAt (n : Nat) : ∀ j, j < 16 → (zs 8 ++ lenL n 8).take j ++ [byteAt n j] = (zs 8 ++ lenL n 8).take (j + 1) := by
  intro j hj
  have e : zs 8 ++ lenL n 8 = (List.range 16).map (byteAt n) := by rfl
  rw [e, ← List.map_take, ← List.map_take, List.take_range, List.take_range, Nat.min_eq_left (by omega), Nat.min_eq_left (by omega), List.range_succ, List.map_append]
  rfl
/-- The code of block n. -/
def blockOf (n : Nat) : Code → Option Code
  | .block m c => if m == n then some c else blockOf n c
  | .seq a b => match blockOf n a with
    | some c => some c
    | none => blockOf n b
  | .cond _ a b => match blockOf n a with
    | some c => some c
    | none => blockOf n b
  | .loop c => blockOf n c
  | .scope c => blockOf n c
  | _ => none
def loopOf : Code → Code
  | .loop c => c
  | c => c
noncomputable def dbody : Code := loopOf ((Try.f111.body.bind (blockOf 4)).getD .skip)
set_option maxRecDepth 1000000 in
set_option maxHeartbeats 16000000 in
theorem dround_d {w wr : World} {Q : Exit → Act → World → Prop} {T H : List Int} {r : Array Value} {g bs bk bh t c5 a j : Nat} {x0 x2 x3 x4 x12 x13 x15 x16 x17 x18 x19 x20 x21 x22 x23 x24 x25 x26 x27 x28 x29 x30 x31 x32 x33 x34 x35 x36 x37 x38 x39 x40 x41 x42 x43 x44 x45 x46 x47 x48 x49 x50 x51 x52 x53 x54 x55 x56 x57 x58 x59 x60 x61 x62 x63 x64 x65 x66 x67 x68 x69 x70 x71 x72 x73 x74 x75 x76 x77 x78 x79 x80 x81 x82 x83 x84 x85 x86 x87 x88 x89 x90 x91 x92 x93 x94 x95 x96 x97 x98 x99 x100 x101 x102 x103 x104 x105 x106 x107 x108 x109 x110 x111 x112 x113 x114 x115 x116 x117 x118 x119 x120 x121 x122 x123 x124 x125 x126 x127 x128 x129 x130 x131 x132 x133 x134 x135 x136 x137 x138 x139 x140 x141 x142 x143 x144 x145 x146 x147 x148 x149 x150 x151 x152 x153 x154 x155 x156 x157 x158 x159 x160 x161 x162 x163 x164 x165 x166 x167 x168 x169 x170 x171 x172 x173 x174 x175 x176 x177 x178 x179 x180 x181 x182 x183 x184 x185 x186 x187 x188 x189 x190 x191 x192 x193 x194 x195 x196 x197 x198 x199 x200 x201 x202 x203 x204 x205 x206 x207 x208 x209 x210 x211 x212 x213 x214 x215 x216 x217 x218 x219 x220 x221 x222 x223 x224 x225 x226 x227 x228 x229 x230 x231 x232 x233 x234 x235 x236 x237 x238 x239 x240 x241 x242 x243 x244 x245 x246 x247 x248 x249 x250 x251 x252 x253 x254 x255 x256 x257 x258 x259 x260 x261 x262 x263 x264 x265 x266 x267 x268 x269 x270 x271 x272 x273 x274 x275 x276 x277 x278 x279 x280 x281 x282 x283 x284 x285 x286 x287 x288 x289 x290 x291 x292 x293 x294 x295 x296 x297 x298 x299 x300 x301 x302 x303 x304 x305 x306 x307 x308 x309 x310 x311 x312 x313 x314 x315 x316 x317 x318 x319 x320 x321 x322 x323 x324 x325 x326 x327 x328 x329 x330 x331 x332 x333 x334 x335 x336 : Value}
    (hlt5 : a < t) (htb : t ≤ 140737488355328) (ha0 : a = 128 * j) (hTl : T.length = t) (hTm : t % 128 = 0) (hbt : Byt T) (hH : H = hR T j) (hO7 : OwB w [(g, .cells (rowR .u8 T r) 5), (bs, .cells (ints .u64 sL) 74), (bk, .cells (ints .u64 kL) 25), (bh, .cells (ints .u64 H) 25)] wr)
    (hQ : ∀ (y15 y16 y17 y18 y19 y20 y21 y22 y79 y80 y81 y82 y83 y84 y85 y86 y87 y88 y89 y90 y91 y92 y93 y94 y95 y96 y97 y98 y99 y100 y101 y102 y103 y104 y105 y106 y107 y108 y109 y110 y111 y112 y113 y114 y115 y116 y117 y118 y119 y120 y121 y122 y123 y124 y125 y126 y127 y128 y129 y130 y131 y132 y133 y134 y135 y136 y137 y138 y139 y140 y141 y142 y143 y144 y145 y146 y147 y148 y149 y150 y151 y152 y153 y154 y155 y156 y157 y158 y159 y160 y161 y162 y163 y164 y165 y166 y167 y168 y169 y170 y171 y172 y173 y174 y175 y176 y177 y178 y179 y180 y181 y182 y183 y184 y185 y186 y187 y188 y189 y190 y191 y192 y193 y194 y195 y196 y197 y198 y199 y200 y201 y202 y203 y204 y205 y206 y207 y208 y209 y210 y211 y212 y213 y214 y215 y216 y217 y218 y219 y220 y221 y222 y223 y224 y225 y226 y227 y228 y229 y230 y231 y232 y233 y234 y235 y236 y237 y238 y239 y240 y241 y242 y243 y244 y245 y246 y247 y248 y249 y250 y251 y252 y253 y254 y255 y256 y257 y258 y259 y260 y261 y262 y263 y264 y265 y266 y267 y268 y269 y270 y271 y272 y273 y274 y275 y276 y277 y278 y279 y280 y281 y282 y283 y284 y285 y286 y287 y288 y289 y290 y291 y292 y293 y294 y295 y296 y297 y298 y299 y300 y301 y302 y303 y304 y305 y306 y307 y308 y309 y310 y311 y312 y313 : Value) (w' : World), OwB w [(g, .cells (rowR .u8 T r) 5), (bs, .cells (ints .u64 sL) 74), (bk, .cells (ints .u64 kL) 25), (bh, .cells (ints .u64 (hR T (j + 1))) 25)] w' → Q .normal ⟨#[x0, .int .u64 64, x2, x3, x4, .int .u64 18446744073709551615, .slice (some ⟨bh, 0, none⟩) 8 8, .slice (some ⟨bk, 0, none⟩) 80 80, .slice (some ⟨bs, 0, none⟩) 12 12, .int .i64 8, .int .i64 128, .slice (some ⟨g, 0, none⟩) t c5, x12, x13, .int .i64 ((a : Int) + 128), y15, y16, y17, y18, y19, y20, y21, y22, x23, x24, x25, x26, x27, x28, x29, x30, x31, x32, x33, x34, x35, x36, x37, x38, x39, x40, x41, x42, x43, x44, x45, x46, x47, x48, x49, x50, x51, x52, x53, x54, x55, x56, x57, x58, x59, x60, x61, x62, x63, x64, x65, x66, x67, x68, x69, x70, x71, x72, x73, x74, x75, x76, x77, x78, y79, y80, y81, y82, y83, y84, y85, y86, y87, y88, y89, y90, y91, y92, y93, y94, y95, y96, y97, y98, y99, y100, y101, y102, y103, y104, y105, y106, y107, y108, y109, y110, y111, y112, y113, y114, y115, y116, y117, y118, y119, y120, y121, y122, y123, y124, y125, y126, y127, y128, y129, y130, y131, y132, y133, y134, y135, y136, y137, y138, y139, y140, y141, y142, y143, y144, y145, y146, y147, y148, y149, y150, y151, y152, y153, y154, y155, y156, y157, y158, y159, y160, y161, y162, y163, y164, y165, y166, y167, y168, y169, y170, y171, y172, y173, y174, y175, y176, y177, y178, y179, y180, y181, y182, y183, y184, y185, y186, y187, y188, y189, y190, y191, y192, y193, y194, y195, y196, y197, y198, y199, y200, y201, y202, y203, y204, y205, y206, y207, y208, y209, y210, y211, y212, y213, y214, y215, y216, y217, y218, y219, y220, y221, y222, y223, y224, y225, y226, y227, y228, y229, y230, y231, y232, y233, y234, y235, y236, y237, y238, y239, y240, y241, y242, y243, y244, y245, y246, y247, y248, y249, y250, y251, y252, y253, y254, y255, y256, y257, y258, y259, y260, y261, y262, y263, y264, y265, y266, y267, y268, y269, y270, y271, y272, y273, y274, y275, y276, y277, y278, y279, y280, y281, y282, y283, y284, y285, y286, y287, y288, y289, y290, y291, y292, y293, y294, y295, y296, y297, y298, y299, y300, y301, y302, y303, y304, y305, y306, y307, y308, y309, y310, y311, y312, y313, x314, x315, x316, x317, x318, x319, x320, x321, x322, x323, x324, x325, x326, x327, x328, x329, x330, x331, x332, x333, x334, x335, x336], []⟩ w') :
    Code.wp Try.prog dbody Q ⟨#[x0, .int .u64 64, x2, x3, x4, .int .u64 18446744073709551615, .slice (some ⟨bh, 0, none⟩) 8 8, .slice (some ⟨bk, 0, none⟩) 80 80, .slice (some ⟨bs, 0, none⟩) 12 12, .int .i64 8, .int .i64 128, .slice (some ⟨g, 0, none⟩) t c5, x12, x13, .int .i64 (a : Int), x15, x16, x17, x18, x19, x20, x21, x22, x23, x24, x25, x26, x27, x28, x29, x30, x31, x32, x33, x34, x35, x36, x37, x38, x39, x40, x41, x42, x43, x44, x45, x46, x47, x48, x49, x50, x51, x52, x53, x54, x55, x56, x57, x58, x59, x60, x61, x62, x63, x64, x65, x66, x67, x68, x69, x70, x71, x72, x73, x74, x75, x76, x77, x78, x79, x80, x81, x82, x83, x84, x85, x86, x87, x88, x89, x90, x91, x92, x93, x94, x95, x96, x97, x98, x99, x100, x101, x102, x103, x104, x105, x106, x107, x108, x109, x110, x111, x112, x113, x114, x115, x116, x117, x118, x119, x120, x121, x122, x123, x124, x125, x126, x127, x128, x129, x130, x131, x132, x133, x134, x135, x136, x137, x138, x139, x140, x141, x142, x143, x144, x145, x146, x147, x148, x149, x150, x151, x152, x153, x154, x155, x156, x157, x158, x159, x160, x161, x162, x163, x164, x165, x166, x167, x168, x169, x170, x171, x172, x173, x174, x175, x176, x177, x178, x179, x180, x181, x182, x183, x184, x185, x186, x187, x188, x189, x190, x191, x192, x193, x194, x195, x196, x197, x198, x199, x200, x201, x202, x203, x204, x205, x206, x207, x208, x209, x210, x211, x212, x213, x214, x215, x216, x217, x218, x219, x220, x221, x222, x223, x224, x225, x226, x227, x228, x229, x230, x231, x232, x233, x234, x235, x236, x237, x238, x239, x240, x241, x242, x243, x244, x245, x246, x247, x248, x249, x250, x251, x252, x253, x254, x255, x256, x257, x258, x259, x260, x261, x262, x263, x264, x265, x266, x267, x268, x269, x270, x271, x272, x273, x274, x275, x276, x277, x278, x279, x280, x281, x282, x283, x284, x285, x286, x287, x288, x289, x290, x291, x292, x293, x294, x295, x296, x297, x298, x299, x300, x301, x302, x303, x304, x305, x306, x307, x308, x309, x310, x311, x312, x313, x314, x315, x316, x317, x318, x319, x320, x321, x322, x323, x324, x325, x326, x327, x328, x329, x330, x331, x332, x333, x334, x335, x336], []⟩ wr := by
  have HQ := Lib.hid hQ
  have hHl : H.length = 8 := by rw [hH]; exact length_hR _ _
  have hHw : Wrd H := by rw [hH]; exact wrd_hR _ _
  have HH := Lib.hid hH
  have HHW := Lib.hid hHw
  have ha := Lib.hid ha0
  have HTl := Lib.hid hTl
  have HTm := Lib.hid hTm
  have HBT := Lib.hid hbt
  have hO7 := Lib.hid hO7
  clear hQ hH hHw ha0 hTl hTm hbt
  conv => arg 2; whnf
  have hd : decide (a < t) = true := by rw [decide_eq_true_eq]; omega
  go_upto_block 6 with fail
  refine OwB.named (Q := fun X => Code.wp _ _ _ _ X) (show OwB w [(wr.heap.size, .cells (ints .u64 (zs 80)) 25), (g, .cells (rowR .u8 T r) 5), (bs, .cells (ints .u64 sL) 74), (bk, .cells (ints .u64 kL) 25), (bh, .cells (ints .u64 H) 25)] _ from hO7.out.allocN (.cells (ints .u64 (zs 80)) 25) wr.heap.size rfl) ?_
  intro V hV
  generalize wr.heap.size = bw at hV ⊢
  obtain ⟨Bj, hBj⟩ : ∃ Bj, Bj = T.drop a := ⟨_, rfl⟩
  have hBy : Byt Bj := by rw [hBj]; exact byt_drop HBT.out _
  have HBj := Lib.hid hBj
  have HBY := Lib.hid hBy
  clear hBj hBy hO7
  go_cut [16, 17] from 89 to 171 (fun _ _ wc => Hid (OwB w [(bw, .cells (ints .u64 (dW Bj 80)) 25), (g, .cells (rowR .u8 T r) 5), (bs, .cells (ints .u64 sL) 74), (bk, .cells (ints .u64 kL) 25), (bh, .cells (ints .u64 H) 25)] wc))
  case first =>
    go_wp2_with fail
    go_loopw [16] (fun v wr => ∃ i : Nat, i ≤ 80 ∧ v = .int .i64 (i : Int) ∧ Hid (OwB w [(bw, .cells (ints .u64 (dW Bj i)) 25), (g, .cells (rowR .u8 T r) 5), (bs, .cells (ints .u64 sL) 74), (bk, .cells (ints .u64 kL) 25), (bh, .cells (ints .u64 H) 25)] wr)) (fun v _ => (80 - intOf v).toNat)
    case atStart => exact ⟨0, by omega, rfl, Lib.hid hV⟩
    case round =>
      clear hV
      obtain ⟨i, hi, rfl, hO8⟩ := hrel
      obtain ⟨W, hW⟩ : ∃ W, W = dW Bj i := ⟨_, rfl⟩
      rw [← hW] at hO8
      have lW : W.length = 80 := by rw [hW]; exact length_dW _ _
      have wW : Wrd W := by rw [hW]; exact wrd_dW HBY.out _
      have HW := Lib.hid hW
      have HWW := Lib.hid wW
      clear hW wW
      have lsL : sL.length = 12 := rfl
      have lkL : kL.length = 80 := rfl
      by_cases hlt6 : i < 80
      · have hd6 : decide ((i : Int) < 80) = true := by rw [decide_eq_true_eq]; omega
        by_cases h16 : 16 ≤ i
        · as_aux_lemma =>
            have hd7 : decide ((16 : Int) ≤ (i : Int)) = true := by rw [decide_eq_true_eq]; omega
            obtain ⟨i1, hi1⟩ : ∃ q : Nat, (i : Int) - 16 = q := ⟨i - 16, by omega⟩
            obtain ⟨i2, hi2⟩ : ∃ q : Nat, (i : Int) - 15 = q := ⟨i - 15, by omega⟩
            obtain ⟨i3, hi3⟩ : ∃ q : Nat, (i : Int) - 7 = q := ⟨i - 7, by omega⟩
            obtain ⟨i4, hi4⟩ : ∃ q : Nat, (i : Int) - 2 = q := ⟨i - 2, by omega⟩
            have l1 : i1 < 80 := by omega
            have l2 : i2 < 80 := by omega
            have l3 : i3 < 80 := by omega
            have l4 : i4 < 80 := by omega
            have HI := Lib.hid (show i1 = i - 16 ∧ i2 = i - 15 ∧ i3 = i - 7 ∧ i4 = i - 2 from by omega)
            obtain ⟨L5, hL5⟩ : ∃ L5 : List (Nat × Obj), L5 = [(bw, .cells (ints .u64 W) 25), (g, .cells (rowR .u8 T r) 5), (bs, .cells (ints .u64 sL) 74), (bk, .cells (ints .u64 kL) 25), (bh, .cells (ints .u64 H) 25)] := ⟨_, rfl⟩
            have hO9 := hO8.out
            rw [← hL5] at hO9
            have HL5 := Lib.hid hL5
            clear hL5
            go_wp2_with fail
            refine wp_region_own_tail 50 (by kernel_rfl) (by kernel_rfl) hO9 ?_
            simp only [List.take_succ_cons, List.take_zero, List.drop_succ_cons, List.drop_zero]
            have hne : Nonempty (OwnW w L5) := ⟨⟨_, hO9⟩⟩
            have f0 : ∀ x : OwnW w L5, x.w.blk bw = some (.cells (ints .u64 W) 25) := fun x => x.nth HL5.out 0 rfl
            have f1 : ∀ x : OwnW w L5, x.w.blk bs = some (.cells (ints .u64 sL) 74) := fun x => x.nth HL5.out 2 rfl
            have e6 : el sL 6 = 1 := rfl
            have e7 : el sL 7 = 8 := rfl
            have e8 : el sL 8 = 7 := rfl
            have e9 : el sL 9 = 19 := rfl
            have e10 : el sL 10 = 61 := rfl
            have e11 : el sL 11 = 6 := rfl
            repeat (go_big_quiet_step (first | with_reducible exact Calls.own_of (three_sg0 _ (wrd_el HWW.out i2)) | with_reducible exact Calls.own_of (three_sg1 _ (wrd_el HWW.out i4))))
            refine wpQuiet_nil ?_
            intro _ hw'
            obtain ⟨⟨V9, hV9⟩, rfl⟩ := hw'
            clear f0 f1 hne hO9
            rw [HL5.out] at hV9
            have g0 := hV9.nth 0 rfl
            have t0 := hV9.lt 0 rfl
            clear e6 e7 e8 e9 e10 e11
            go_wp2
            go_roundw
            case rel =>
              refine ⟨i + 1, by omega, by simp, Lib.hid ?_⟩
              have hn := hV9.set 0 (.cells (ints .u64 (dW Bj (i + 1))) 25) rfl
              have e : W.set i (IntKind.u64.wrap (IntKind.u64.wrap (IntKind.u64.wrap (el W i1 + sg0 (el W i2)) + el W i3) + sg1 (el W i4))) = dW Bj (i + 1) := by
                obtain ⟨q1, q2, q3, q4⟩ := HI.out
                rw [wrap_swap (el W i1) (el W i3), q1, q2, q3, q4, HW.out]
                exact dW_succ Bj i h16
              rw [e]
              exact hn
            case measure => simp [intOf]; omega
        · as_aux_lemma =>
            have hd7 : decide ((16 : Int) ≤ (i : Int)) = false := by rw [decide_eq_false_iff_not]; omega
            have hbB : ∀ q, q < 8 → bR Bj (8 * i + q) = bR Bj (8 * i + q) := fun _ _ => rfl
            clear hbB
            have HW2 : Hid (W = bR Bj (8 * i + 0)) := Lib.hid (by rw [HW.out, dW, if_pos (by omega)]; rfl)
            have HI16 := Lib.hid (show i < 16 from by omega)
            go_wp2_with fail
            go_loopw [17] (fun v wr => ∃ q : Nat, q ≤ 8 ∧ v = .int .i64 (q : Int) ∧ Hid (OwB w [(bw, .cells (ints .u64 (bR Bj (8 * i + q))) 25), (g, .cells (rowR .u8 T r) 5), (bs, .cells (ints .u64 sL) 74), (bk, .cells (ints .u64 kL) 25), (bh, .cells (ints .u64 H) 25)] wr)) (fun v _ => (8 - intOf v).toNat)
            case atStart => exact ⟨0, by omega, rfl, Lib.hid (by rw [← HW2.out]; exact hO8.out)⟩
            case round =>
              clear hO8 HW HW2 HWW lW
              obtain ⟨q, hq, rfl, hO9⟩ := hrel
              obtain ⟨X, hX⟩ : ∃ X, X = bR Bj (8 * i + q) := ⟨_, rfl⟩
              rw [← hX] at hO9
              have lX : X.length = 80 := by rw [hX]; exact length_bR _ _
              have HX := Lib.hid hX
              clear hX
              by_cases hlt7 : q < 8
              · have hd8 : decide ((q : Int) < 8) = true := by rw [decide_eq_true_eq]; omega
                obtain ⟨u, hu⟩ : ∃ u : Nat, (a : Int) + 8 * (i : Int) + (q : Int) = u := ⟨a + 8 * i + q, by omega⟩
                have hut : u < T.length := by have := HTl.out; have := HTm.out; have := ha.out; have := HI16.out; omega
                have hut2 : u < t := by have := HTl.out; omega
                have hub : 0 ≤ el T u ∧ el T u < 256 := byt_el HBT.out u
                have hwr : IntKind.u64.wrap (el T u) = el T u := by rw [IntKind.wrap_u64]; omega
                have HU := Lib.hid (show u = a + (8 * i + q) from by omega)
                obtain ⟨L5, hL5⟩ : ∃ L5 : List (Nat × Obj), L5 = [(bw, .cells (ints .u64 X) 25), (g, .cells (rowR .u8 T r) 5), (bs, .cells (ints .u64 sL) 74), (bk, .cells (ints .u64 kL) 25), (bh, .cells (ints .u64 H) 25)] := ⟨_, rfl⟩
                have hO10 := hO9.out
                rw [← hL5] at hO10
                have HL5 := Lib.hid hL5
                clear hL5 hO9
                go_wp2_with fail
                refine wp_region_own_tail 20 (by kernel_rfl) (by kernel_rfl) hO10 ?_
                simp only [List.take_succ_cons, List.take_zero, List.drop_succ_cons, List.drop_zero]
                have hne : Nonempty (OwnW w L5) := ⟨⟨_, hO10⟩⟩
                have f0 : ∀ x : OwnW w L5, x.w.blk bw = some (.cells (ints .u64 X) 25) := fun x => x.nth HL5.out 0 rfl
                have f1 : ∀ x : OwnW w L5, x.w.blk g = some (.cells (rowR .u8 T r) 5) := fun x => x.nth HL5.out 1 rfl
                repeat (go_big_quiet_step (fail))
                refine wpQuiet_nil ?_
                intro _ hw'
                obtain ⟨⟨V9, hV9⟩, rfl⟩ := hw'
                clear f0 f1 hne hO10
                rw [HL5.out] at hV9
                have g0 := hV9.nth 0 rfl
                have t0 := hV9.lt 0 rfl
                go_wp2
                go_roundw
                case rel =>
                  refine ⟨q + 1, by omega, by simp, Lib.hid ?_⟩
                  have hn := hV9.set 0 (.cells (ints .u64 (bR Bj (8 * i + (q + 1)))) 25) rfl
                  have e : X.set i (IntKind.u64.wrap (IntKind.u64.wrap (el X i * 256) + el T u)) = bR Bj (8 * i + (q + 1)) := by
                    rw [← or_low _ hub, HX.out, HU.out, ← el_drop, ← HBj.out, ← Nat.add_assoc, bR, show (8 * i + q) / 8 = i from by omega]
                  rw [e]
                  exact hn
                case measure => simp [intOf]; omega
              · obtain rfl : q = 8 := by omega
                have hd8 : decide ((8 : Int) < 8) = false := by decide
                go_wp2_with fail
                go_roundw
                case rel =>
                  refine ⟨i + 1, by omega, by simp, Lib.hid ?_⟩
                  have hn := hO9.out
                  have e : X = dW Bj (i + 1) := by rw [HX.out, dW, if_pos (by have := HI16.out; omega)]; rfl
                  rw [e] at hn
                  exact hn
                case measure => simp [intOf]; omega
      · as_aux_lemma =>
          obtain rfl : i = 80 := by omega
          have hd6 : decide ((80 : Int) < 80) = false := by decide
          rw [HW.out] at hO8
          clear HW HWW lW
          go_wp2_with fail
          go_meet
          case rel => exact hO8
  case rest =>
    clear hV
    obtain ⟨W, hW⟩ : ∃ W, W = dW Bj 80 := ⟨_, rfl⟩
    rw [← hW] at hcut
    have lW : W.length = 80 := by rw [hW]; exact length_dW _ _
    have wW : Wrd W := by rw [hW]; exact wrd_dW HBY.out _
    have HW := Lib.hid hW
    have HWW := Lib.hid wW
    have hO8 := hcut
    have lsL : sL.length = 12 := rfl
    have lkL : kL.length = 80 := rfl
    clear hW wW hcut
    have hS8 := Lib.hid (Sl.ofInts (k := .u64) (n := 8) (cap := 8) (off := 0) (hO8.out.nth 4 rfl) (by omega) rfl (Nat.le_refl 8))
    have hB0 := Lib.hid (Bld.nil (k := .u64) (e := 25) hO8.out)
    go_upto_block 10 with (refine wpList_app64 rfl (.tmp 172) (.tmp 173) rfl rfl hB0.out rfl hS8.out (by omega) ?_; intro p7 c7 w7 B7; rw [Nat.zero_add, List.nil_append] at B7; have hB7 := Lib.hid B7; clear B7)
    obtain ⟨bv, rfl⟩ := hB7.out.row.some_of (by omega)
    obtain ⟨rr, hO10, hcr⟩ := hB7.out.room
    clear hcr
    rw [List.drop_zero, List.take_of_length_le (by omega)] at hO10
    have hO9 := Lib.hid hO10
    clear hB7 hB0 hS8 hO8 hO10
    go_cut [18, 19, 20, 21] from 175 to 295 (fun v _ _ _ wc => ∃ (bv c : Nat) (rr : Array Value), v = .slice (some ⟨bv, 0, none⟩) 8 c ∧ Hid (OwB w [(bv, .cells (rowR .u64 (vR W H 80) rr) 25), (bw, .cells (ints .u64 W) 25), (g, .cells (rowR .u8 T r) 5), (bs, .cells (ints .u64 sL) 74), (bk, .cells (ints .u64 kL) 25), (bh, .cells (ints .u64 H) 25)] wc))
    case first =>
      go_wp2_with fail
      go_loopw [18, 19] (fun v iv wr => ∃ (q bv c : Nat) (rr : Array Value), q ≤ 80 ∧ iv = .int .i64 (q : Int) ∧ v = .slice (some ⟨bv, 0, none⟩) 8 c ∧ Hid (OwB w [(bv, .cells (rowR .u64 (vR W H q) rr) 25), (bw, .cells (ints .u64 W) 25), (g, .cells (rowR .u8 T r) 5), (bs, .cells (ints .u64 sL) 74), (bk, .cells (ints .u64 kL) 25), (bh, .cells (ints .u64 H) 25)] wr)) (fun _ iv _ => (80 - intOf iv).toNat)
      case atStart => exact ⟨0, bv, c7, rr, by omega, rfl, rfl, hO9⟩
      case round =>
        clear hO9
        obtain ⟨q, bv, c8, rr, hq, rfl, rfl, hO11⟩ := hrel
        obtain ⟨X, hX⟩ : ∃ X, X = vR W H q := ⟨_, rfl⟩
        rw [← hX] at hO11
        have lX : X.length = 8 := by rw [hX]; exact length_vR _ _ hHl _
        have wX : Wrd X := by rw [hX]; exact wrd_vR HHW.out _
        have HX := Lib.hid hX
        have HWX := Lib.hid wX
        clear hX wX
        by_cases hlt8 : q < 80
        · skip
          have hd8 : decide ((q : Int) < 80) = true := by rw [decide_eq_true_eq]; omega
          obtain ⟨L5, hL5⟩ : ∃ L5 : List (Nat × Obj), L5 = [(bv, .cells (rowR .u64 X rr) 25), (bw, .cells (ints .u64 W) 25), (g, .cells (rowR .u8 T r) 5), (bs, .cells (ints .u64 sL) 74), (bk, .cells (ints .u64 kL) 25), (bh, .cells (ints .u64 H) 25)] := ⟨_, rfl⟩
          have hO10 := hO11.out
          rw [← hL5] at hO10
          have HL5 := Lib.hid hL5
          clear hL5 hO11
          have hne : Nonempty (OwnW w L5) := ⟨⟨_, hO10⟩⟩
          have f0 : ∀ x : OwnW w L5, x.w.blk bv = some (.cells (rowR .u64 X rr) 25) := fun x => x.nth HL5.out 0 rfl
          have f1 : ∀ x : OwnW w L5, x.w.blk bw = some (.cells (ints .u64 W) 25) := fun x => x.nth HL5.out 1 rfl
          have f2 : ∀ x : OwnW w L5, x.w.blk bs = some (.cells (ints .u64 sL) 74) := fun x => x.nth HL5.out 3 rfl
          have f3 : ∀ x : OwnW w L5, x.w.blk bk = some (.cells (ints .u64 kL) 25) := fun x => x.nth HL5.out 4 rfl
          have e0 : el sL 0 = 28 := rfl
          have e1 : el sL 1 = 34 := rfl
          have e2 : el sL 2 = 39 := rfl
          have e3 : el sL 3 = 14 := rfl
          have e4 : el sL 4 = 18 := rfl
          have e5 : el sL 5 = 41 := rfl
          go_wp2_with fail
          refine wp_region_own (by kernel_rfl) (by kernel_rfl) hO10 ?_
          repeat (go_big_quiet_step (with_reducible exact Calls.own_of (three_Sg1 _ (wrd_el HWX.out 4))))
          refine wpQuiet_nil ?_
          intro _ hw'
          obtain ⟨⟨V9, hV9⟩, rfl⟩ := hw'
          clear hO10
          go_wp2_with fail
          refine wp_region_own (by kernel_rfl) (by kernel_rfl) hV9 ?_
          repeat (go_big_quiet_step (with_reducible exact Calls.own_of (three_Sg0 _ (wrd_el HWX.out 0))))
          refine wpQuiet_nil ?_
          intro _ hw'
          obtain ⟨⟨V10, hV10⟩, rfl⟩ := hw'
          clear hV9
          go_wp2_with fail
          refine wp_region_own_tail 30 (by kernel_rfl) (by kernel_rfl) hV10 ?_
          simp only [List.take_succ_cons, List.take_zero, List.drop_succ_cons, List.drop_zero]
          repeat (go_big_quiet_step (fail))
          refine wpQuiet_nil ?_
          intro _ hw'
          obtain ⟨⟨V11, hV11⟩, rfl⟩ := hw'
          clear hV10 f0 f1 f2 f3 hne e0 e1 e2 e3 e4 e5
          rw [HL5.out] at hV11
          have HV11 := Lib.hid hV11
          clear hV11
          go_wp2_with (refine wpList_bsV (t := 120) (m := 8) (v := .slice (some ⟨V11.heap.size, 0, none⟩) 8 8) (w' := V11.alloc (.cells (ints .u64 (rnd X (el kL q) (el W q))) 25)) rfl rfl (by kernel_rfl) ?_)
          go_roundw
          case rel =>
            refine ⟨q + 1, _, 8, #[], by omega, by simp, rfl, Lib.hid ?_⟩
            have hn := HV11.out.alloc (.cells (ints .u64 (rnd X (el kL q) (el W q))) 25)
            rw [rowR_nil, vR, ← HX.out]
            exact hn.sub (.cons_cons _ (.cons _ (List.Sublist.refl _)))
          case measure => simp [intOf]; omega
        · have HQ80 := Lib.hid (show q = 80 by omega)
          have hd8 : decide ((q : Int) < 80) = false := by rw [decide_eq_false_iff_not]; omega
          rw [HX.out, HQ80.out] at hO11
          clear hlt8 hq
          go_wp2_with fail
          go_meet
          case rel => exact ⟨bv, c8, rr, rfl, hO11⟩
    case rest =>
      clear hO9
      obtain ⟨bv, c8, rr, rfl, hO11⟩ := hcut
      obtain ⟨X, hX⟩ : ∃ X, X = vR W H 80 := ⟨_, rfl⟩
      rw [← hX] at hO11
      have lX : X.length = 8 := by rw [hX]; exact length_vR _ _ hHl _
      have wX : Wrd X := by rw [hX]; exact wrd_vR HHW.out _
      have HX := Lib.hid hX
      have HWX := Lib.hid wX
      clear hX wX
      go_wp2_with fail
      go_loopw [22] (fun v wr => ∃ q : Nat, q ≤ 8 ∧ v = .int .i64 (q : Int) ∧ Hid (OwB w [(bv, .cells (rowR .u64 X rr) 25), (bw, .cells (ints .u64 W) 25), (g, .cells (rowR .u8 T r) 5), (bs, .cells (ints .u64 sL) 74), (bk, .cells (ints .u64 kL) 25), (bh, .cells (ints .u64 (addR H X q)) 25)] wr)) (fun v _ => (8 - intOf v).toNat)
      case atStart => exact ⟨0, by omega, rfl, Lib.hid (by rw [addR, upd_zero]; exact hO11.out)⟩
      case round =>
        clear hO11
        obtain ⟨q, hq, rfl, hO12⟩ := hrel
        obtain ⟨F, hF⟩ : ∃ F, F = addR H X q := ⟨_, rfl⟩
        rw [← hF] at hO12
        have lF : F.length = 8 := by rw [hF, addR, length_upd _ _ _ (by omega), hHl]
        have HF := Lib.hid hF
        clear hF
        by_cases hlt9 : q < 8
        · skip
          have hd9 : decide ((q : Int) < 8) = true := by rw [decide_eq_true_eq]; omega
          obtain ⟨L5, hL5⟩ : ∃ L5 : List (Nat × Obj), L5 = [(bv, .cells (rowR .u64 X rr) 25), (bw, .cells (ints .u64 W) 25), (g, .cells (rowR .u8 T r) 5), (bs, .cells (ints .u64 sL) 74), (bk, .cells (ints .u64 kL) 25), (bh, .cells (ints .u64 F) 25)] := ⟨_, rfl⟩
          have hO10 := hO12.out
          rw [← hL5] at hO10
          have HL5 := Lib.hid hL5
          clear hL5 hO12
          have hne : Nonempty (OwnW w L5) := ⟨⟨_, hO10⟩⟩
          have f0 : ∀ x : OwnW w L5, x.w.blk bv = some (.cells (rowR .u64 X rr) 25) := fun x => x.nth HL5.out 0 rfl
          have f1 : ∀ x : OwnW w L5, x.w.blk bh = some (.cells (ints .u64 F) 25) := fun x => x.nth HL5.out 5 rfl
          go_wp2_with fail
          refine wp_region_own_tail 14 (by kernel_rfl) (by kernel_rfl) hO10 ?_
          simp only [List.take_succ_cons, List.take_zero, List.drop_succ_cons, List.drop_zero]
          repeat (go_big_quiet_step (fail))
          refine wpQuiet_nil ?_
          intro _ hw'
          obtain ⟨⟨V9, hV9⟩, rfl⟩ := hw'
          clear f0 f1 hne hO10
          rw [HL5.out] at hV9
          have g0 := hV9.nth 5 rfl
          have t0 := hV9.lt 5 rfl
          go_wp2
          go_roundw
          case rel =>
            refine ⟨q + 1, by omega, by simp, Lib.hid ?_⟩
            have hn := hV9.set 5 (.cells (ints .u64 (addR H X (q + 1))) 25) rfl
            have e : F.set q (IntKind.u64.wrap (el F q + el X q)) = addR H X (q + 1) := by
              have hq2 : el F q = el H q := by rw [HF.out, addR, el_upd, if_neg (by omega)]
              rw [hq2, HF.out]
              exact set_upd _ _ _ (by omega)
            rw [e]
            exact hn
          case measure => simp [intOf]; omega
        · obtain rfl : q = 8 := by omega
          have hd9 : decide ((8 : Int) < 8) = false := by decide
          have hn := hO12.out
          have e : F = hR T (j + 1) := by
            rw [hR, ← HH.out, blkF_dW, HF.out, HX.out, HW.out, HBj.out, ha.out]
          rw [e] at hn
          have HN2 := Lib.hid (hn.sub (.cons _ (.cons _ (List.Sublist.refl _))))
          clear hn e
          have hat2 : a + 128 ≤ t := by have := HTm.out; have := ha.out; omega
          go_wp2_with fail
          exact HQ.out _ _ _ _ _ _ _ _ _ _ _ _ _ _ _ _ _ _ _ _ _ _ _ _ _ _ _ _ _ _ _ _ _ _ _ _ _ _ _ _ _ _ _ _ _ _ _ _ _ _ _ _ _ _ _ _ _ _ _ _ _ _ _ _ _ _ _ _ _ _ _ _ _ _ _ _ _ _ _ _ _ _ _ _ _ _ _ _ _ _ _ _ _ _ _ _ _ _ _ _ _ _ _ _ _ _ _ _ _ _ _ _ _ _ _ _ _ _ _ _ _ _ _ _ _ _ _ _ _ _ _ _ _ _ _ _ _ _ _ _ _ _ _ _ _ _ _ _ _ _ _ _ _ _ _ _ _ _ _ _ _ _ _ _ _ _ _ _ _ _ _ _ _ _ _ _ _ _ _ _ _ _ _ _ _ _ _ _ _ _ _ _ _ _ _ _ _ _ _ _ _ _ _ _ _ _ _ _ _ _ _ _ _ _ _ _ _ _ _ _ _ _ _ _ _ _ _ _ _ _ _ _ _ _ _ _ _ _ _ _ _ _ _ _ HN2.out
end
end Go.Proofs.Ytakhmmnklkckpaa
