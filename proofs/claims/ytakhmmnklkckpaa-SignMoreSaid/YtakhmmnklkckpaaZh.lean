/- Words turned round. The document's three turnings. SHA-512 by its steps, as both sides take them; worlds in which one foreign block is turned. SHA-512 of a row of bytes, by its blocks: what both sides take. -/
import Derived.Test.YtakhmmnklkckpaaZd
import Derived.Laws.BitsAllLaws
namespace Go.Proofs.Ytakhmmnklkckpaa
open Go.RowKit Go.Dr

section
variable {w : World}
/-- A word turned to the right. -/
def rr (n : Nat) (x : Int) : Int := bits .or .u64 (IntKind.u64.wrap (x * 2 ^ (64 - n))) (x / 2 ^ n)
theorem bits_or_comm (x y : Int) : bits .or .u64 x y = bits .or .u64 y x := by
  simp [bits, Nat.or_comm]
set_option maxRecDepth 100000 in
set_option maxHeartbeats 8000000 in
theorem rotl_1 (x : Int) (_hx : 0 ≤ x ∧ x < 18446744073709551616) : Calls Try.prog 117 #[.int .u64 x, .int .i64 (-1)] w fun e w' => e = .returned (.int .u64 (rr 1 x)) ∧ Fr [] w w' := by
  have hb : bits BinOp.and IntKind.u64 (IntKind.u64.wrap (-1)) 63 = 63 := by kernel_rfl
  go_enter Try.func117, Try.ntmps117
  go_wp2
  go_ret
  exact ⟨rfl, Fr.refl _ _⟩
set_option maxRecDepth 100000 in
set_option maxHeartbeats 8000000 in
theorem turn_1 (x : Int) (_hx : 0 ≤ x ∧ x < 18446744073709551616) : Calls Try.prog 125 #[.int .u64 x, .int .u64 1, .int .u64 64] w fun e w' => e = .returned (.int .u64 (rr 1 x)) ∧ Fr [] w w' := by
  go_enter Try.func125, Try.ntmps125
  go_wp2
  go_ret
  exact ⟨by rw [rr, bits_or_comm]; rfl, Fr.refl _ _⟩
set_option maxRecDepth 100000 in
set_option maxHeartbeats 8000000 in
theorem rotl_8 (x : Int) (_hx : 0 ≤ x ∧ x < 18446744073709551616) : Calls Try.prog 117 #[.int .u64 x, .int .i64 (-8)] w fun e w' => e = .returned (.int .u64 (rr 8 x)) ∧ Fr [] w w' := by
  have hb : bits BinOp.and IntKind.u64 (IntKind.u64.wrap (-8)) 63 = 56 := by kernel_rfl
  go_enter Try.func117, Try.ntmps117
  go_wp2
  go_ret
  exact ⟨rfl, Fr.refl _ _⟩
set_option maxRecDepth 100000 in
set_option maxHeartbeats 8000000 in
theorem turn_8 (x : Int) (_hx : 0 ≤ x ∧ x < 18446744073709551616) : Calls Try.prog 125 #[.int .u64 x, .int .u64 8, .int .u64 64] w fun e w' => e = .returned (.int .u64 (rr 8 x)) ∧ Fr [] w w' := by
  go_enter Try.func125, Try.ntmps125
  go_wp2
  go_ret
  exact ⟨by rw [rr, bits_or_comm]; rfl, Fr.refl _ _⟩
set_option maxRecDepth 100000 in
set_option maxHeartbeats 8000000 in
theorem rotl_14 (x : Int) (_hx : 0 ≤ x ∧ x < 18446744073709551616) : Calls Try.prog 117 #[.int .u64 x, .int .i64 (-14)] w fun e w' => e = .returned (.int .u64 (rr 14 x)) ∧ Fr [] w w' := by
  have hb : bits BinOp.and IntKind.u64 (IntKind.u64.wrap (-14)) 63 = 50 := by kernel_rfl
  go_enter Try.func117, Try.ntmps117
  go_wp2
  go_ret
  exact ⟨rfl, Fr.refl _ _⟩
set_option maxRecDepth 100000 in
set_option maxHeartbeats 8000000 in
theorem turn_14 (x : Int) (_hx : 0 ≤ x ∧ x < 18446744073709551616) : Calls Try.prog 125 #[.int .u64 x, .int .u64 14, .int .u64 64] w fun e w' => e = .returned (.int .u64 (rr 14 x)) ∧ Fr [] w w' := by
  go_enter Try.func125, Try.ntmps125
  go_wp2
  go_ret
  exact ⟨by rw [rr, bits_or_comm]; rfl, Fr.refl _ _⟩
set_option maxRecDepth 100000 in
set_option maxHeartbeats 8000000 in
theorem rotl_18 (x : Int) (_hx : 0 ≤ x ∧ x < 18446744073709551616) : Calls Try.prog 117 #[.int .u64 x, .int .i64 (-18)] w fun e w' => e = .returned (.int .u64 (rr 18 x)) ∧ Fr [] w w' := by
  have hb : bits BinOp.and IntKind.u64 (IntKind.u64.wrap (-18)) 63 = 46 := by kernel_rfl
  go_enter Try.func117, Try.ntmps117
  go_wp2
  go_ret
  exact ⟨rfl, Fr.refl _ _⟩
set_option maxRecDepth 100000 in
set_option maxHeartbeats 8000000 in
theorem turn_18 (x : Int) (_hx : 0 ≤ x ∧ x < 18446744073709551616) : Calls Try.prog 125 #[.int .u64 x, .int .u64 18, .int .u64 64] w fun e w' => e = .returned (.int .u64 (rr 18 x)) ∧ Fr [] w w' := by
  go_enter Try.func125, Try.ntmps125
  go_wp2
  go_ret
  exact ⟨by rw [rr, bits_or_comm]; rfl, Fr.refl _ _⟩
set_option maxRecDepth 100000 in
set_option maxHeartbeats 8000000 in
theorem rotl_19 (x : Int) (_hx : 0 ≤ x ∧ x < 18446744073709551616) : Calls Try.prog 117 #[.int .u64 x, .int .i64 (-19)] w fun e w' => e = .returned (.int .u64 (rr 19 x)) ∧ Fr [] w w' := by
  have hb : bits BinOp.and IntKind.u64 (IntKind.u64.wrap (-19)) 63 = 45 := by kernel_rfl
  go_enter Try.func117, Try.ntmps117
  go_wp2
  go_ret
  exact ⟨rfl, Fr.refl _ _⟩
set_option maxRecDepth 100000 in
set_option maxHeartbeats 8000000 in
theorem turn_19 (x : Int) (_hx : 0 ≤ x ∧ x < 18446744073709551616) : Calls Try.prog 125 #[.int .u64 x, .int .u64 19, .int .u64 64] w fun e w' => e = .returned (.int .u64 (rr 19 x)) ∧ Fr [] w w' := by
  go_enter Try.func125, Try.ntmps125
  go_wp2
  go_ret
  exact ⟨by rw [rr, bits_or_comm]; rfl, Fr.refl _ _⟩
set_option maxRecDepth 100000 in
set_option maxHeartbeats 8000000 in
theorem rotl_28 (x : Int) (_hx : 0 ≤ x ∧ x < 18446744073709551616) : Calls Try.prog 117 #[.int .u64 x, .int .i64 (-28)] w fun e w' => e = .returned (.int .u64 (rr 28 x)) ∧ Fr [] w w' := by
  have hb : bits BinOp.and IntKind.u64 (IntKind.u64.wrap (-28)) 63 = 36 := by kernel_rfl
  go_enter Try.func117, Try.ntmps117
  go_wp2
  go_ret
  exact ⟨rfl, Fr.refl _ _⟩
set_option maxRecDepth 100000 in
set_option maxHeartbeats 8000000 in
theorem turn_28 (x : Int) (_hx : 0 ≤ x ∧ x < 18446744073709551616) : Calls Try.prog 125 #[.int .u64 x, .int .u64 28, .int .u64 64] w fun e w' => e = .returned (.int .u64 (rr 28 x)) ∧ Fr [] w w' := by
  go_enter Try.func125, Try.ntmps125
  go_wp2
  go_ret
  exact ⟨by rw [rr, bits_or_comm]; rfl, Fr.refl _ _⟩
set_option maxRecDepth 100000 in
set_option maxHeartbeats 8000000 in
theorem rotl_34 (x : Int) (_hx : 0 ≤ x ∧ x < 18446744073709551616) : Calls Try.prog 117 #[.int .u64 x, .int .i64 (-34)] w fun e w' => e = .returned (.int .u64 (rr 34 x)) ∧ Fr [] w w' := by
  have hb : bits BinOp.and IntKind.u64 (IntKind.u64.wrap (-34)) 63 = 30 := by kernel_rfl
  go_enter Try.func117, Try.ntmps117
  go_wp2
  go_ret
  exact ⟨rfl, Fr.refl _ _⟩
set_option maxRecDepth 100000 in
set_option maxHeartbeats 8000000 in
theorem turn_34 (x : Int) (_hx : 0 ≤ x ∧ x < 18446744073709551616) : Calls Try.prog 125 #[.int .u64 x, .int .u64 34, .int .u64 64] w fun e w' => e = .returned (.int .u64 (rr 34 x)) ∧ Fr [] w w' := by
  go_enter Try.func125, Try.ntmps125
  go_wp2
  go_ret
  exact ⟨by rw [rr, bits_or_comm]; rfl, Fr.refl _ _⟩
set_option maxRecDepth 100000 in
set_option maxHeartbeats 8000000 in
theorem rotl_39 (x : Int) (_hx : 0 ≤ x ∧ x < 18446744073709551616) : Calls Try.prog 117 #[.int .u64 x, .int .i64 (-39)] w fun e w' => e = .returned (.int .u64 (rr 39 x)) ∧ Fr [] w w' := by
  have hb : bits BinOp.and IntKind.u64 (IntKind.u64.wrap (-39)) 63 = 25 := by kernel_rfl
  go_enter Try.func117, Try.ntmps117
  go_wp2
  go_ret
  exact ⟨rfl, Fr.refl _ _⟩
set_option maxRecDepth 100000 in
set_option maxHeartbeats 8000000 in
theorem turn_39 (x : Int) (_hx : 0 ≤ x ∧ x < 18446744073709551616) : Calls Try.prog 125 #[.int .u64 x, .int .u64 39, .int .u64 64] w fun e w' => e = .returned (.int .u64 (rr 39 x)) ∧ Fr [] w w' := by
  go_enter Try.func125, Try.ntmps125
  go_wp2
  go_ret
  exact ⟨by rw [rr, bits_or_comm]; rfl, Fr.refl _ _⟩
set_option maxRecDepth 100000 in
set_option maxHeartbeats 8000000 in
theorem rotl_41 (x : Int) (_hx : 0 ≤ x ∧ x < 18446744073709551616) : Calls Try.prog 117 #[.int .u64 x, .int .i64 (-41)] w fun e w' => e = .returned (.int .u64 (rr 41 x)) ∧ Fr [] w w' := by
  have hb : bits BinOp.and IntKind.u64 (IntKind.u64.wrap (-41)) 63 = 23 := by kernel_rfl
  go_enter Try.func117, Try.ntmps117
  go_wp2
  go_ret
  exact ⟨rfl, Fr.refl _ _⟩
set_option maxRecDepth 100000 in
set_option maxHeartbeats 8000000 in
theorem turn_41 (x : Int) (_hx : 0 ≤ x ∧ x < 18446744073709551616) : Calls Try.prog 125 #[.int .u64 x, .int .u64 41, .int .u64 64] w fun e w' => e = .returned (.int .u64 (rr 41 x)) ∧ Fr [] w w' := by
  go_enter Try.func125, Try.ntmps125
  go_wp2
  go_ret
  exact ⟨by rw [rr, bits_or_comm]; rfl, Fr.refl _ _⟩
set_option maxRecDepth 100000 in
set_option maxHeartbeats 8000000 in
theorem rotl_61 (x : Int) (_hx : 0 ≤ x ∧ x < 18446744073709551616) : Calls Try.prog 117 #[.int .u64 x, .int .i64 (-61)] w fun e w' => e = .returned (.int .u64 (rr 61 x)) ∧ Fr [] w w' := by
  have hb : bits BinOp.and IntKind.u64 (IntKind.u64.wrap (-61)) 63 = 3 := by kernel_rfl
  go_enter Try.func117, Try.ntmps117
  go_wp2
  go_ret
  exact ⟨rfl, Fr.refl _ _⟩
set_option maxRecDepth 100000 in
set_option maxHeartbeats 8000000 in
theorem turn_61 (x : Int) (_hx : 0 ≤ x ∧ x < 18446744073709551616) : Calls Try.prog 125 #[.int .u64 x, .int .u64 61, .int .u64 64] w fun e w' => e = .returned (.int .u64 (rr 61 x)) ∧ Fr [] w w' := by
  go_enter Try.func125, Try.ntmps125
  go_wp2
  go_ret
  exact ⟨by rw [rr, bits_or_comm]; rfl, Fr.refl _ _⟩
end
end Go.Proofs.Ytakhmmnklkckpaa
namespace Go.Proofs.Ytakhmmnklkckpaa
open Go.RowKit Go.Dr

section
variable {w : World}
def sg0 (x : Int) : Int := bits .xor .u64 (bits .xor .u64 (rr 1 x) (rr 8 x)) (x / 2 ^ 7)
def sg1 (x : Int) : Int := bits .xor .u64 (bits .xor .u64 (rr 19 x) (rr 61 x)) (x / 2 ^ 6)
def Sg0 (x : Int) : Int := bits .xor .u64 (bits .xor .u64 (rr 28 x) (rr 34 x)) (rr 39 x)
def Sg1 (x : Int) : Int := bits .xor .u64 (bits .xor .u64 (rr 14 x) (rr 18 x)) (rr 41 x)
set_option maxRecDepth 100000 in
set_option maxHeartbeats 8000000 in
theorem three_sg0 (x : Int) (hx : 0 ≤ x ∧ x < 18446744073709551616) : Calls Try.prog 122 #[.int .u64 x, .int .u64 1, .int .u64 8, .int .u64 7, .int .u64 64, .bool true] w fun e w' => e = .returned (.int .u64 (sg0 x)) ∧ Fr [] w w' := by
  go_enter Try.func122, Try.ntmps122
  go_wp2_with fail
  refine (turn_1 x hx).mono ?_
  rintro e w1 ⟨rfl, F1⟩
  simp only []
  go_wp2_with fail
  refine (turn_8 x hx).mono ?_
  rintro e w2 ⟨rfl, F2⟩
  simp only []
  go_wp2_with fail
  go_ret
  exact ⟨rfl, F1.trans F2⟩
set_option maxRecDepth 100000 in
set_option maxHeartbeats 8000000 in
theorem three_sg1 (x : Int) (hx : 0 ≤ x ∧ x < 18446744073709551616) : Calls Try.prog 122 #[.int .u64 x, .int .u64 19, .int .u64 61, .int .u64 6, .int .u64 64, .bool true] w fun e w' => e = .returned (.int .u64 (sg1 x)) ∧ Fr [] w w' := by
  go_enter Try.func122, Try.ntmps122
  go_wp2_with fail
  refine (turn_19 x hx).mono ?_
  rintro e w1 ⟨rfl, F1⟩
  simp only []
  go_wp2_with fail
  refine (turn_61 x hx).mono ?_
  rintro e w2 ⟨rfl, F2⟩
  simp only []
  go_wp2_with fail
  go_ret
  exact ⟨rfl, F1.trans F2⟩
set_option maxRecDepth 100000 in
set_option maxHeartbeats 8000000 in
theorem three_Sg0 (x : Int) (hx : 0 ≤ x ∧ x < 18446744073709551616) : Calls Try.prog 122 #[.int .u64 x, .int .u64 28, .int .u64 34, .int .u64 39, .int .u64 64, .bool false] w fun e w' => e = .returned (.int .u64 (Sg0 x)) ∧ Fr [] w w' := by
  go_enter Try.func122, Try.ntmps122
  go_wp2_with fail
  refine (turn_28 x hx).mono ?_
  rintro e w1 ⟨rfl, F1⟩
  simp only []
  go_wp2_with fail
  refine (turn_34 x hx).mono ?_
  rintro e w2 ⟨rfl, F2⟩
  simp only []
  go_wp2_with fail
  refine (turn_39 x hx).mono ?_
  rintro e w3 ⟨rfl, F3⟩
  simp only []
  go_wp2_with fail
  go_ret
  exact ⟨rfl, (F1.trans F2).trans F3⟩
set_option maxRecDepth 100000 in
set_option maxHeartbeats 8000000 in
theorem three_Sg1 (x : Int) (hx : 0 ≤ x ∧ x < 18446744073709551616) : Calls Try.prog 122 #[.int .u64 x, .int .u64 14, .int .u64 18, .int .u64 41, .int .u64 64, .bool false] w fun e w' => e = .returned (.int .u64 (Sg1 x)) ∧ Fr [] w w' := by
  go_enter Try.func122, Try.ntmps122
  go_wp2_with fail
  refine (turn_14 x hx).mono ?_
  rintro e w1 ⟨rfl, F1⟩
  simp only []
  go_wp2_with fail
  refine (turn_18 x hx).mono ?_
  rintro e w2 ⟨rfl, F2⟩
  simp only []
  go_wp2_with fail
  refine (turn_41 x hx).mono ?_
  rintro e w3 ⟨rfl, F3⟩
  simp only []
  go_wp2_with fail
  go_ret
  exact ⟨rfl, (F1.trans F2).trans F3⟩
end
end Go.Proofs.Ytakhmmnklkckpaa
namespace Go
open Go.Dr
theorem Fr.over {w W : World} {b : Nat} (h : Fr [] w W) (Y : Obj) (hb : b < w.heap.size) : Fr [] (w.put b Y) (W.put b Y) := by
  refine ⟨h.os, h.tape, h.output, by rw [World.size_put, World.size_put]; exact h.size, fun k hk hn => ?_⟩
  rw [World.size_put] at hk
  by_cases e : b = k
  · subst e
    rw [World.at_put_same _ _ _ hb, World.at_put_same _ _ _ (Nat.lt_of_lt_of_le hb h.size)]
  · rw [World.at_put_other _ _ _ _ e, World.at_put_other _ _ _ _ e]
    exact h.at_ k hk hn
theorem OwB.over {w W : World} {L : List (Nat × Obj)} {b : Nat} (h : OwB w L W) (Y : Obj) (hb : b < w.heap.size) : OwB (w.put b Y) L (W.put b Y) := by
  refine ⟨fun p hp => ?_, h.nd, fun p hp => by rw [World.size_put]; exact h.lo p hp, h.fr.over Y hb⟩
  have := h.lo p hp
  rw [World.at_put_other _ _ _ _ (by omega)]
  exact h.has p hp
theorem oper_run {P : Program} {o : Oper} {a : Act} {w : World} {next : Act → World → Prop} {Q : Exit → Act → World → Prop} (v : Value) (h : (execOp a.eval o).run P w = .ok (.value v) w) (hk : next (a.put o.dst v) w) : Oper.wp P o a w next Q := by
  unfold Oper.wp
  rw [h]
  exact hk
end Go
namespace Go.Proofs.Ytakhmmnklkckpaa
open Go.RowKit Go.Dr
abbrev M64 : Int := 18446744073709551616
def Wrd (l : List Int) : Prop := ∀ x ∈ l, 0 ≤ x ∧ x < M64
theorem wrd_el {l : List Int} (h : Wrd l) (i : Nat) : 0 ≤ el l i ∧ el l i < M64 := by
  unfold el
  rw [List.getD_eq_getElem?_getD]
  cases hi : l[i]? with
  | none => exact ⟨by decide, by decide⟩
  | some x => exact h x (List.mem_of_getElem? hi)
theorem wrd_set {l : List Int} (h : Wrd l) (i : Nat) {x : Int} (hx : 0 ≤ x ∧ x < M64) : Wrd (l.set i x) := fun y hy => by
  rcases List.mem_or_eq_of_mem_set hy with hy | rfl
  · exact h y hy
  · exact hx
theorem wrd_zs (n : Nat) : Wrd (zs n) := fun y hy => by
  have := List.eq_of_mem_replicate hy
  subst this
  exact ⟨by decide, by decide⟩
theorem wrapM (x : Int) : 0 ≤ IntKind.u64.wrap x ∧ IntKind.u64.wrap x < M64 := by
  rw [IntKind.wrap_u64]; unfold M64; omega
def kL : List Int := [4794697086780616226, 8158064640168781261, 13096744586834688815, 16840607885511220156, 4131703408338449720, 6480981068601479193, 10538285296894168987, 12329834152419229976, 15566598209576043074, 1334009975649890238, 2608012711638119052, 6128411473006802146, 8268148722764581231, 9286055187155687089, 11230858885718282805, 13951009754708518548, 16472876342353939154, 17275323862435702243, 1135362057144423861, 2597628984639134821, 3308224258029322869, 5365058923640841347, 6679025012923562964, 8573033837759648693, 10970295158949994411, 12119686244451234320, 12683024718118986047, 13788192230050041572, 14330467153632333762, 15395433587784984357, 489312712824947311, 1452737877330783856, 2861767655752347644, 3322285676063803686, 5560940570517711597, 5996557281743188959, 7280758554555802590, 8532644243296465576, 9350256976987008742, 10552545826968843579, 11727347734174303076, 12113106623233404929, 14000437183269869457, 14369950271660146224, 15101387698204529176, 15463397548674623760, 17586052441742319658, 1182934255886127544, 1847814050463011016, 2177327727835720531, 2830643537854262169, 3796741975233480872, 4115178125766777443, 5681478168544905931, 6601373596472566643, 7507060721942968483, 8399075790359081724, 8693463985226723168, 9568029438360202098, 10144078919501101548, 10430055236837252648, 11840083180663258601, 13761210420658862357, 14299343276471374635, 14566680578165727644, 15097957966210449927, 16922976911328602910, 17689382322260857208, 500013540394364858, 748580250866718886, 1242879168328830382, 1977374033974150939, 2944078676154940804, 3659926193048069267, 4368137639120453308, 4836135668995329356, 5532061633213252278, 6448918945643986474, 6902733635092675308, 7801388544844847127]
def iL : List Int := [7640891576956012808, 13503953896175478587, 4354685564936845355, 11912009170470909681, 5840696475078001361, 11170449401992604703, 2270897969802886507, 6620516959819538809]
theorem wpList_build135 {ops : Array Oper} {rest : List Oper} {o : Oper} {a : Act} {w : World} {Q : Exit → Act → World → Prop} {ps : Array (Nat × Operand)} (hg : o.guard = none) (_ : o.op = .build 135 ps)
    (h : (execOp a.eval o).run Try.prog w = .ok (.value (.agg (ints .u64 kL))) w) (hk : wpList Try.prog ops Q rest (a.put o.dst (.agg (ints .u64 kL))) w) : wpList Try.prog ops Q (o :: rest) a w :=
  wpList_plain hg fun _K hK => oper_run _ h (hK _ _ hk)
/-- The words, byte by byte. -/
def bR (B : List Int) : Nat → List Int
  | 0 => zs 80
  | i + 1 => (bR B i).set (i / 8) (bits .or .u64 (IntKind.u64.wrap (el (bR B i) (i / 8) * 256)) (el B i))
/-- The words that are made of earlier ones. -/
def nxt (l : List Int) (i : Nat) : Int := IntKind.u64.wrap (IntKind.u64.wrap (IntKind.u64.wrap (el l (i - 16) + el l (i - 7)) + sg0 (el l (i - 15))) + sg1 (el l (i - 2)))
def cR (W : List Int) : Nat → List Int
  | 0 => W
  | k + 1 => (cR W k).set (16 + k) (nxt (cR W k) (16 + k))
def chV (e f g : Int) : Int := bits .xor .u64 (bits .and .u64 e f) (bits .and .u64 (bits .xor .u64 IntKind.u64.max e) g)
def majV (a b c : Int) : Int := bits .xor .u64 (bits .xor .u64 (bits .and .u64 a b) (bits .and .u64 a c)) (bits .and .u64 b c)
def oneV (v : List Int) (k w : Int) : Int := IntKind.u64.wrap (IntKind.u64.wrap (IntKind.u64.wrap (IntKind.u64.wrap (el v 7 + Sg1 (el v 4)) + chV (el v 4) (el v 5) (el v 6)) + k) + w)
def twoV (v : List Int) : Int := IntKind.u64.wrap (Sg0 (el v 0) + majV (el v 0) (el v 1) (el v 2))
def rnd (v : List Int) (k w : Int) : List Int := [IntKind.u64.wrap (oneV v k w + twoV v), el v 0, el v 1, el v 2, IntKind.u64.wrap (el v 3 + oneV v k w), el v 4, el v 5, el v 6]
def vR (W v : List Int) : Nat → List Int
  | 0 => v
  | k + 1 => rnd (vR W v k) (el kL k) (el W k)
def addR (H V : List Int) : Nat → List Int := upd (fun i => IntKind.u64.wrap (el H i + el V i)) H
/-- A block taken. -/
def blkF (H B : List Int) : List Int := addR H (vR (cR (bR B 128) 64) H 80) 8
theorem length_bR (B : List Int) : ∀ i, (bR B i).length = 80
  | 0 => rfl
  | i + 1 => by rw [bR, List.length_set, length_bR B i]
theorem length_cR (W : List Int) : ∀ i, (cR W i).length = W.length
  | 0 => rfl
  | i + 1 => by rw [cR, List.length_set, length_cR W i]
theorem length_vR (W v : List Int) (hv : v.length = 8) : ∀ i, (vR W v i).length = 8
  | 0 => hv
  | _i + 1 => rfl
theorem or_rng {x y : Int} (hx : 0 ≤ x ∧ x < M64) (hy : 0 ≤ y ∧ y < M64) : 0 ≤ bits .or .u64 x y ∧ bits .or .u64 x y < M64 := by
  rw [u64_or x y hx.1 hx.2 hy.1 hy.2]
  have := Nat.or_lt_two_pow (n := 64) (x := x.toNat) (y := y.toNat) (by unfold M64 at hx; omega) (by unfold M64 at hy; omega)
  unfold M64; omega
theorem xor_rng {x y : Int} (hx : 0 ≤ x ∧ x < M64) (hy : 0 ≤ y ∧ y < M64) : 0 ≤ bits .xor .u64 x y ∧ bits .xor .u64 x y < M64 := by
  rw [u64_xor x y hx.1 hx.2 hy.1 hy.2]
  have := Nat.xor_lt_two_pow (n := 64) (x := x.toNat) (y := y.toNat) (by unfold M64 at hx; omega) (by unfold M64 at hy; omega)
  unfold M64; omega
theorem and_rng {x y : Int} (hx : 0 ≤ x ∧ x < M64) (hy : 0 ≤ y ∧ y < M64) : 0 ≤ bits .and .u64 x y ∧ bits .and .u64 x y < M64 := by
  rw [u64_and x y hx.1 hx.2 hy.1 hy.2]
  have := Nat.and_lt_two_pow (n := 64) x.toNat (y := y.toNat) (by unfold M64 at hy; omega)
  unfold M64; omega
theorem wrd_bR {B : List Int} (hB : Byt B) : ∀ i, Wrd (bR B i)
  | 0 => wrd_zs 80
  | i + 1 => wrd_set (wrd_bR hB i) _ (or_rng (wrapM _) (by have := byt_el hB i; unfold M64; omega))
theorem wrd_cR {W : List Int} (hW : Wrd W) : ∀ i, Wrd (cR W i)
  | 0 => hW
  | i + 1 => wrd_set (wrd_cR hW i) _ (wrapM _)
theorem wrd_rnd {v : List Int} (hv : Wrd v) (k w : Int) : Wrd (rnd v k w) := fun x hx => by
  simp only [rnd, List.mem_cons, List.not_mem_nil, or_false] at hx
  rcases hx with rfl | rfl | rfl | rfl | rfl | rfl | rfl | rfl
  · exact wrapM _
  · exact wrd_el hv _
  · exact wrd_el hv _
  · exact wrd_el hv _
  · exact wrapM _
  · exact wrd_el hv _
  · exact wrd_el hv _
  · exact wrd_el hv _
theorem wrd_vR {W v : List Int} (hv : Wrd v) : ∀ i, Wrd (vR W v i)
  | 0 => hv
  | i + 1 => wrd_rnd (wrd_vR hv i) _ _
theorem wrd_addR {H V : List Int} (hH : Wrd H) (k : Nat) : Wrd (addR H V k) := fun x hx => by
  obtain ⟨i, hi, rfl⟩ := List.getElem_of_mem hx
  have h : (addR H V k)[i] = el (addR H V k) i := by simp [el, hi]
  rw [h, addR, el_upd]
  split
  · exact wrapM _
  · exact wrd_el hH _
theorem length_blkF {H B : List Int} (hH : H.length = 8) : (blkF H B).length = 8 := by rw [blkF, addR, length_upd _ _ _ (by omega), hH]
theorem wrd_blkF {H B : List Int} (hH : Wrd H) : Wrd (blkF H B) := wrd_addR hH 8
theorem wrd_kL : Wrd kL := fun x hx => by
  have h : kL.all (fun y => decide (0 ≤ y) && decide (y < 18446744073709551616)) = true := by decide +kernel
  have := List.all_eq_true.1 h x hx
  unfold M64
  simpa using this
end Go.Proofs.Ytakhmmnklkckpaa
namespace Go.Proofs.Ytakhmmnklkckpaa
open Go.RowKit Go.Dr
theorem byt_take {l : List Int} (h : Byt l) (n : Nat) : Byt (l.take n) := fun x hx => h x (List.mem_of_mem_take hx)
theorem byt_drop {l : List Int} (h : Byt l) (n : Nat) : Byt (l.drop n) := fun x hx => h x (List.mem_of_mem_drop hx)
theorem el_take (l : List Int) (n i : Nat) (h : i < n) : el (l.take n) i = el l i := by simp [el, h]
theorem bR_congr {B C : List Int} : ∀ n, (∀ i, i < n → el B i = el C i) → bR B n = bR C n
  | 0, _ => rfl
  | n + 1, h => by rw [bR, bR, bR_congr n fun i hi => h i (by omega), h n (by omega)]
theorem blkF_congr {H B C : List Int} (h : ∀ i, i < 128 → el B i = el C i) : blkF H B = blkF H C := by
  rw [blkF, blkF, bR_congr 128 h]
/-- Behind so many blocks. -/
def hR (l : List Int) : Nat → List Int
  | 0 => iL
  | k + 1 => blkF (hR l k) (l.drop (128 * k))
theorem length_hR (l : List Int) : ∀ k, (hR l k).length = 8
  | 0 => rfl
  | k + 1 => by rw [hR]; exact length_blkF (length_hR l k)
theorem wrd_iL : Wrd iL := fun x hx => by
  have h : iL.all (fun y => decide (0 ≤ y) && decide (y < 18446744073709551616)) = true := by decide +kernel
  have := List.all_eq_true.1 h x hx
  unfold M64
  simpa using this
theorem wrd_hR (l : List Int) : ∀ k, Wrd (hR l k)
  | 0 => wrd_iL
  | k + 1 => by rw [hR]; exact wrd_blkF (wrd_hR l k)
/-- How many zeros stand between the text's end and its length. -/
def zN (n : Nat) : Nat := (239 - n % 128) % 128
/-- The length's byte. -/
def lenB (n i : Nat) : Int := (n : Int) * 8 / 2 ^ (8 * i) % 256
def lenL (n : Nat) : Nat → List Int
  | 0 => []
  | k + 1 => lenL n k ++ [lenB n (7 - k)]
theorem length_lenL (n : Nat) : ∀ k, (lenL n k).length = k
  | 0 => rfl
  | k + 1 => by rw [lenL, List.length_append, length_lenL n k]; rfl
/-- The text made whole. -/
def padF (B : List Int) : List Int := B ++ ([128] ++ zs (zN B.length) ++ zs 8 ++ lenL B.length 8)
theorem length_padF (B : List Int) : (padF B).length = B.length + zN B.length + 17 := by
  simp only [padF, List.length_append, length_lenL, length_zs, List.length_cons, List.length_nil]; omega
theorem padF_mod (B : List Int) : (padF B).length % 128 = 0 := by
  rw [length_padF, zN]; omega
def blkN (B : List Int) : Nat := (padF B).length / 128
theorem blkN_mul (B : List Int) : 128 * blkN B = (padF B).length := by
  have := padF_mod B; unfold blkN; omega
theorem byt_zs (n : Nat) : Byt (zs n) := fun y hy => by
  have := List.eq_of_mem_replicate hy
  subst this
  exact ⟨by decide, by decide⟩
theorem byt_app {l m : List Int} (hl : Byt l) (hm : Byt m) : Byt (l ++ m) := fun x hx => (List.mem_append.1 hx).elim (hl x) (hm x)
theorem lenB_rng (n i : Nat) : 0 ≤ lenB n i ∧ lenB n i < 256 := by
  unfold lenB; exact ⟨Int.emod_nonneg _ (by decide), Int.emod_lt_of_pos _ (by decide)⟩
theorem byt_lenL (n : Nat) : ∀ k, Byt (lenL n k)
  | 0 => fun x hx => by cases hx
  | k + 1 => byt_app (byt_lenL n k) fun x hx => by
      rw [List.mem_singleton] at hx
      subst hx
      exact lenB_rng _ _
theorem byt_padF {B : List Int} (hB : Byt B) : Byt (padF B) := by
  refine byt_app hB (byt_app (byt_app (byt_app ?_ (byt_zs _)) (byt_zs _)) (byt_lenL _ _))
  intro x hx
  rw [List.mem_singleton] at hx
  subst hx
  exact ⟨by decide, by decide⟩
/-- The hash. -/
def sumW (B : List Int) : List Int := hR (padF B) (blkN B)
def outB (H : List Int) (i : Nat) : Int := el H (i / 8) / 2 ^ (56 - i % 8 * 8) % 256
def sumF (B : List Int) : List Int := (List.range 64).map (outB (sumW B))
theorem length_sumF (B : List Int) : (sumF B).length = 64 := by simp [sumF]
theorem byt_sumF (B : List Int) : Byt (sumF B) := fun x hx => by
  obtain ⟨i, _, rfl⟩ := List.mem_map.1 hx
  unfold outB
  exact ⟨Int.emod_nonneg _ (by decide), Int.emod_lt_of_pos _ (by decide)⟩
/-- A block of the text itself. -/
theorem hR_text (B : List Int) (k : Nat) (h : 128 * k + 128 ≤ B.length) : blkF (hR (padF B) k) (B.drop (128 * k)) = hR (padF B) (k + 1) := by
  rw [hR]
  refine blkF_congr fun i hi => ?_
  rw [el_drop, el_drop, padF, el_append, if_pos (by omega)]
theorem drop_padF (B : List Int) (k : Nat) (h : k ≤ B.length) : (padF B).drop k = B.drop k ++ ([128] ++ zs (zN B.length) ++ zs 8 ++ lenL B.length 8) := by
  rw [padF, List.drop_append_of_le_length h]
end Go.Proofs.Ytakhmmnklkckpaa
