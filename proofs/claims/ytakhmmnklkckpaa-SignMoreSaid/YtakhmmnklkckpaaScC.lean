/- The code's numbers modulo the base's order: the bits of bytes, the greatest first, one by one. -/
import Derived.Test.YtakhmmnklkckpaaScB
import Derived.RangeFuncNested
import Derived.RangeFuncBound
import Derived.RangeFuncCalls
import Derived.RangeFuncLeaves
import Derived.RangeFuncFrom
import Derived.Shelf.Abstract
import Derived.Shelf.RegionOpen
import Derived.WalkKit
import Derived.OwnWalkIn
import Derived.TacticsInMore
import Derived.LoopNIn
import Derived.LoopIn
namespace Go.Proofs.Ytakhmmnklkckpaa
open Go.RowKit Go.Dr Go.Shelf
attribute [local go_sem] Oper.semAt_some
abbrev Bit := { x : Int // 0 ≤ x ∧ x ≤ 1 }
/-- The bit of bytes. -/
def bitI (B : List Int) (i : Nat) : Int := el B (i / 8) / 2 ^ (i % 8) % 2
def dnB (B : List Int) (i : Nat) : Bit := ⟨bitI B i, by unfold bitI; omega⟩
/-- The bits, the greatest first. -/
def bitsD (B : List Int) : List Bit := (List.range (8 * B.length)).map fun j => dnB B (8 * B.length - 1 - j)
theorem length_bitsD (B : List Int) : (bitsD B).length = 8 * B.length := by simp [bitsD]
theorem take_bitsD (B : List Int) (j : Nat) (h : j < 8 * B.length) : (bitsD B).take (j + 1) = (bitsD B).take j ++ [dnB B (8 * B.length - 1 - j)] := by
  rw [List.take_succ_eq_append_getElem (by rw [length_bitsD]; exact h)]
  simp [bitsD]
theorem _root_.Go.Sl.same {k : IntKind} {W W' : World} {p : Option Addr} {n cap : Nat} {l : List Int} (h : Sl k W p n cap l) (hs : 0 < n → ∀ b, p.map (·.block) = some b → W'.blk b = W.blk b) : Sl k W' p n cap l := by
  refine ⟨h.len, h.cap_, ?_, h.nil, h.mid⟩
  rcases h.row with h0 | ⟨b, off, cs, T, fr, rfl, hb, hsz, hl⟩
  · exact .inl h0
  · rcases Nat.eq_zero_or_pos n with h0 | h0
    · exact .inl h0
    · exact .inr ⟨b, off, cs, T, fr, rfl, (hs h0 b rfl).trans hb, hsz, hl⟩
theorem _root_.Go.Sl.lt {k : IntKind} {W : World} {p : Option Addr} {n cap : Nat} {l : List Int} (h : Sl k W p n cap l) (h0 : 0 < n) : ∀ b, p.map (·.block) = some b → b < W.heap.size := by
  obtain ⟨b, off, cs, T, fr, rfl, hb, _⟩ := h.out h0
  intro b' hb'
  simp only [Option.map_some, Option.some.injEq] at hb'
  subst hb'
  exact World.at_lt hb
/-- What a round keeps: what lies below n₀, and the iterator's own variable. -/
def KpD (Bn n₀ : Nat) (W W' : World) : Prop := Below n₀ W W' ∧ ∀ cs t f, W.blk Bn = some (.cells cs t f) → W'.blk Bn = some (.cells cs t f)
theorem KpD.refl (Bn n₀ : Nat) (W : World) : KpD Bn n₀ W W := ⟨Below.refl _ _, fun _ _ _ h => h⟩
theorem KpD.trans {Bn n₀ : Nat} {A B C : World} (h : KpD Bn n₀ A B) (k : KpD Bn n₀ B C) : KpD Bn n₀ A C := ⟨h.1.trans k.1, fun cs t f hb => k.2 cs t f (h.2 cs t f hb)⟩
theorem and_one {x : Int} (hx : 0 ≤ x ∧ x < 18446744073709551616) : bits .and .u64 x 1 = x % 2 := by
  rw [u64_and x 1 hx.1 hx.2 (by omega) (by omega)]
  have e : (1 : Int).toNat = 2 ^ 1 - 1 := by decide
  rw [e, Nat.and_two_pow_sub_one_eq_mod]
  omega
set_option maxRecDepth 100000 in
set_option maxHeartbeats 1000000 in
theorem down_in (F : Fence) (n : Nat) (hf : F.fn 123) (hro : F.round = none) (hn : 1 ≤ n) (l Bn n₀ : Nat) {p : Option Addr} {m cap : Nat} {B : List Int} (J Jx : List Bit → World → Prop)
    (hY : ∀ pre (x : Bit) W, J pre W → pre.length < (bitsD B).length → YieldAt F (n - 1) Try.prog l #[.int .u64 x.1] W fun e W' =>
      (e = .returned (.bool true) ∧ J (pre ++ [x]) W' ∧ KpD Bn n₀ W W') ∨ (e = .returned (.bool false) ∧ Jx (pre ++ [x]) W'))
    (W : World) (hBn : W.blk Bn = some (.cells #[.slice p m cap] 68)) (S : Sl .u8 W p m cap B) (hp : 0 < m → ∀ b, p.map (·.block) = some b → b < n₀) (hB : Byt B) (hm : m ≤ 4096) (h0 : J [] W) :
    CallsIn F n Try.prog 123 #[.func (.yield l) #[] #[], .pointer (some ⟨Bn, 0, none⟩)] W fun e W' => (∃ v, e = .returned v) ∧
      ((∃ ys, ys = bitsD B ∧ J ys W') ∨ (∃ pre, pre <+: bitsD B ∧ Jx pre W')) := by
  have HS := Lib.hid S
  have HB := Lib.hid hB
  have HBn := Lib.hid hBn
  have HML := Lib.hid S.len
  have HY := Lib.hid hY
  clear S hB hY
  refine callsIn_of_wp Try.func123 rfl hf ?_ hro
  simp only [Try.ntmps123, List.size_toArray, List.length_cons, List.length_nil, Nat.reduceAdd, Nat.reduceSub, Array.replicate_succ, Array.replicate_zero, List.push_toArray, List.append_toArray, List.nil_append, List.cons_append]
  gi_wp2
  clear hBn
  gi_loopw [3] (fun iv wr => ∃ (j : Nat) (i : Int), j ≤ 8 * m ∧ Hid (i = 8 * (m : Int) - 1 - j) ∧ iv = .int .i64 i ∧ Hid (J ((bitsD B).take j) wr) ∧ Hid (KpD Bn n₀ W wr)) (fun iv _ => (intOf iv + 1).toNat)
  case atStart => exact ⟨0, _, by omega, Lib.hid (by omega), rfl, Lib.hid h0, Lib.hid (KpD.refl _ _ _)⟩
  case round =>
    obtain ⟨j, i, hj, hi, rfl, hJ, hW⟩ := hrel
    by_cases hlt : j < 8 * m
    · obtain ⟨u, hu⟩ : ∃ u : Nat, i = (u : Int) := ⟨8 * m - 1 - j, by have := hi.out; omega⟩
      subst hu
      have hu8 : u / 8 < m := by have := hi.out; omega
      have hd : decide ((0 : Int) ≤ (u : Int)) = true := by rw [decide_eq_true_eq]; omega
      have g0 : wr.blk Bn = some (.cells #[.slice p m cap] 68) := hW.out.2 _ _ _ HBn.out
      obtain ⟨b, off, cs, T, fr, rfl, hb, hs, hc⟩ := HS.out.at hu8
      have g1 : wr.blk b = some (.cells cs T fr) := (hW.out.1.block b (hp (by omega) b rfl)).trans hb
      have hby := byt_el HB.out (u / 8)
      have hwr : IntKind.u64.wrap (el B (u / 8)) = el B (u / 8) := by rw [IntKind.wrap_u64]; omega
      obtain ⟨hcl, hcv⟩ := Array.getElem?_eq_some_iff.1 hc
      clear hb hc
      have hdiv : 0 ≤ el B (u / 8) / 2 ^ (u % 8) ∧ el B (u / 8) / 2 ^ (u % 8) < 18446744073709551616 := by
        have h2 : (0 : Int) < 2 ^ (u % 8) := Int.pow_pos (by decide)
        exact ⟨Int.ediv_nonneg hby.1 (Int.le_of_lt h2), Int.lt_of_le_of_lt (Int.ediv_le_self _ hby.1) (by omega)⟩
      have hbit : (dnB B u).1 = bits .and .u64 (el B (u / 8) / 2 ^ (u % 8)) 1 := by
        rw [and_one hdiv]
        rfl
      obtain ⟨fn, tmps, assign, body, hy, hR⟩ := HY.out _ (dnB B u) wr hJ.out (by rw [List.length_take, length_bitsD]; have := HML.out; omega)
      rw [hbit] at hy
      have HT := Lib.hid (show (bitsD B).take (j + 1) = (bitsD B).take j ++ [dnB B u] from by
        have h1 := hi.out
        have h2 := HML.out
        rw [take_bitsD B j (by omega), show 8 * B.length - 1 - j = u from by omega])
      clear hbit
      gi_wp2_with fail
      refine hR.mono ?_
      rintro e W' (⟨rfl, hJ', hk⟩ | ⟨rfl, hJx'⟩)
      · have HJ' := Lib.hid hJ'
        have HW' := Lib.hid (hW.out.trans hk)
        clear hJ' hk g0 g1 hy hR
        gi_wp2
        go_roundw
        case rel => exact ⟨j + 1, (u : Int) - 1, by omega, Lib.hid (by have := hi.out; omega), rfl, Lib.hid (by rw [HT.out]; exact HJ'.out), HW'⟩
        case measure => simp only [intOf]; omega
      · have HJ' := Lib.hid hJx'
        clear hJx' g0 g1 hy hR
        gi_wp2
        refine bodyPost_ret (results_none rfl _ _ _) rfl ?_
        exact ⟨⟨_, rfl⟩, .inr ⟨_, by rw [← HT.out]; exact List.take_prefix _ _, HJ'.out⟩⟩
    · obtain rfl : j = 8 * m := by omega
      obtain rfl : i = -1 := by have := hi.out; omega
      have hd : decide ((0 : Int) ≤ -1) = false := by decide
      gi_wp2
      go_end0
      refine ⟨⟨_, rfl⟩, .inl ⟨_, rfl, ?_⟩⟩
      have h := hJ.out
      rwa [List.take_of_length_le (by rw [length_bitsD, HML.out]; exact Nat.le_refl _)] at h
end Go.Proofs.Ytakhmmnklkckpaa
