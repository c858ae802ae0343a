/- The code's numbers modulo the base's order: modulo. -/
import Derived.Test.YtakhmmnklkckpaaScC
import Derived.Test.YtakhmmnklkckpaaZi
namespace Go.Proofs.Ytakhmmnklkckpaa
open Go.RowKit Go.Dr Go.Shelf
attribute [local go_sem] Oper.semAt_some
section
variable {w : World}
theorem downwards_f (p : Option Addr) (m cap : Nat) : Calls Try.prog 112 #[.slice p m cap] w fun e w' => e = .returned (.func (.func 123) #[] #[.pointer (some ⟨w.heap.size, 0, none⟩)]) ∧ w' = w.alloc (.cells #[.slice p m cap] 68) := by
  go_enter Try.func112, Try.ntmps112
  go_wp2
  go_ret
  exact ⟨rfl, rfl⟩
/-- The base's order. -/
def oL : Int := 7237005577332262213973186563042994240857116359379907606001950938285454250989
/-- A bit more. -/
def mstep (r : Int) (b : Bit) : Int := if 2 * r + b.1 < oL then 2 * r + b.1 else 2 * r + b.1 - oL
def modS (l : List Bit) : Int := l.foldl mstep 0
theorem modS_snoc (l : List Bit) (b : Bit) : modS (l ++ [b]) = mstep (modS l) b := by simp [modS]
theorem keeps_of_fr {W Wf : World} {b : Nat} {cs : Array Value} {t : TypeId} {f : Nat × Nat} (F : Fr [b] W Wf) (hb : W.blk b = some (.cells cs t f)) : KeepsOthers W Wf :=
  ⟨F.size, fun k o hk ho => (F.at_ k (World.at_lt (w := W) hk) (fun hm => by
    rw [List.mem_singleton.1 hm, show W.heap[b]? = W.blk b from rfl, hb] at hk
    simp only [Option.some.injEq] at hk
    subst hk
    cases ho)).trans hk⟩
theorem kpD_of_fr {W Wf : World} {b Bn n₀ : Nat} (F : Fr [b] W Wf) (h1 : n₀ ≤ b) (h2 : Bn ≠ b) (h3 : n₀ ≤ W.heap.size) : KpD Bn n₀ W Wf :=
  ⟨⟨F.os, F.tape, F.output, F.size, fun k hk => F.at_ k (by omega) (by simp; omega)⟩, fun _ _ _ hb => F.get hb (by simpa using h2)⟩
theorem mstep_rng (r : Int) (b : Bit) (h : 0 ≤ r ∧ r < oL) : 0 ≤ mstep r b ∧ mstep r b < oL := by
  have := b.2
  unfold mstep
  split <;> omega
theorem foldl_rng : ∀ (l : List Bit) (r : Int), 0 ≤ r ∧ r < oL → 0 ≤ l.foldl mstep r ∧ l.foldl mstep r < oL
  | [], _, h => h
  | b :: l, r, h => foldl_rng l _ (mstep_rng r b h)
theorem modS_rng (l : List Bit) : 0 ≤ modS l ∧ modS l < oL := foldl_rng l 0 ⟨Int.le_refl 0, by unfold oL; decide⟩
theorem or_bit (x : Int) {b : Int} (hb : 0 ≤ b ∧ b ≤ 1) : bits .or .u64 (IntKind.u64.wrap (x * 2)) b = x * 2 % 18446744073709551616 + b := by
  have hm := wrapM (x * 2)
  have hd : IntKind.u64.wrap (x * 2) = x * 2 % 18446744073709551616 := by rw [IntKind.wrap_u64]
  rw [hd] at hm ⊢
  unfold M64 at hm
  have h2 : x * 2 % 18446744073709551616 % 2 = 0 := by omega
  generalize x * 2 % 18446744073709551616 = y at hm h2
  rw [u64_or y b hm.1 (by omega) hb.1 (by omega)]
  obtain ⟨q, rfl⟩ : ∃ q : Nat, y = ((q <<< 1 : Nat) : Int) := ⟨y.toNat / 2, by rw [Nat.shiftLeft_eq]; omega⟩
  rw [Int.toNat_natCast, ← Nat.shiftLeft_add_eq_or_of_lt (by omega : b.toNat < 2 ^ 1)]
  omega
theorem shl_w4 (r x : Int) (hr : 0 ≤ r ∧ r < oL) (hx : 0 ≤ x ∧ x ≤ 1) : [bits .or .u64 (IntKind.u64.wrap (el (w4 r) 0 * 2)) x, bits .or .u64 (IntKind.u64.wrap (el (w4 r) 1 * 2)) (el (w4 r) 0 / 9223372036854775808), bits .or .u64 (IntKind.u64.wrap (el (w4 r) 2 * 2)) (el (w4 r) 1 / 9223372036854775808), bits .or .u64 (IntKind.u64.wrap (el (w4 r) 3 * 2)) (el (w4 r) 2 / 9223372036854775808)] = w4 (2 * r + x) := by
  have v := w4_val r (by unfold oL at hr; omega)
  simp only [show ∀ z, el (w4 z) 0 = z % 18446744073709551616 from fun _ => rfl, show ∀ z, el (w4 z) 1 = z / 18446744073709551616 % 18446744073709551616 from fun _ => rfl, show ∀ z, el (w4 z) 2 = z / 340282366920938463463374607431768211456 % 18446744073709551616 from fun _ => rfl, show ∀ z, el (w4 z) 3 = z / 6277101735386680763835789423207666416102355444464034512896 % 18446744073709551616 from fun _ => rfl]
  have r0 : 0 ≤ r % 18446744073709551616 ∧ r % 18446744073709551616 < 18446744073709551616 := by omega
  have r1 : 0 ≤ r / 18446744073709551616 % 18446744073709551616 ∧ r / 18446744073709551616 % 18446744073709551616 < 18446744073709551616 := by omega
  have r2 : 0 ≤ r / 340282366920938463463374607431768211456 % 18446744073709551616 ∧ r / 340282366920938463463374607431768211456 % 18446744073709551616 < 18446744073709551616 := by omega
  have r3 : 0 ≤ r / 6277101735386680763835789423207666416102355444464034512896 % 18446744073709551616 ∧ r / 6277101735386680763835789423207666416102355444464034512896 % 18446744073709551616 < 9223372036854775808 := by unfold oL at hr; omega
  generalize r % 18446744073709551616 = a at *
  generalize r / 18446744073709551616 % 18446744073709551616 = b at *
  generalize r / 340282366920938463463374607431768211456 % 18446744073709551616 = c at *
  generalize r / 6277101735386680763835789423207666416102355444464034512896 % 18446744073709551616 = d at *
  rw [or_bit _ hx, or_bit _ (by omega), or_bit _ (by omega), or_bit _ (by omega), v]
  have e : 2 * (a + b * 18446744073709551616 + c * 340282366920938463463374607431768211456 + d * 6277101735386680763835789423207666416102355444464034512896) + x = (a * 2 % 18446744073709551616 + x) + (b * 2 % 18446744073709551616 + a / 9223372036854775808) * 18446744073709551616 + (c * 2 % 18446744073709551616 + b / 9223372036854775808) * 340282366920938463463374607431768211456 + (d * 2 % 18446744073709551616 + c / 9223372036854775808) * 6277101735386680763835789423207666416102355444464034512896 := by omega
  rw [e, w4_of _ _ _ _ (by omega) (by omega) (by omega) (by omega)]
set_option maxRecDepth 100000 in
set_option maxHeartbeats 2000000 in
theorem mod_f {p : Option Addr} {m cap : Nat} {B : List Int} (S : Sl .u8 w p m cap B) (hB : Byt B) (hm : m ≤ 4096) :
    Calls Try.prog 104 #[.slice p m cap] w fun e w' => e = .returned (.agg (ints .u64 (w4 (modS (bitsD B))))) ∧ Fr [] w w' := by
  refine (callsIn_wide (n := 9)).1 ?_
  refine callsIn_of_wp_marks Try.func104 rfl trivial ?_ rfl
  simp only [Try.ntmps104, List.size_toArray, List.length_cons, List.length_nil, Nat.reduceAdd, Nat.reduceSub, Array.replicate_succ, Array.replicate_zero, List.push_toArray, List.append_toArray, List.nil_append, List.cons_append]
  gi_wp2_with fail
  refine ⟨trivial, (callsIn_wide.2 (downwards_f _ _ _)).mono ?_⟩
  rintro e w' ⟨rfl, rfl⟩
  simp only []
  gi_wp2_with fail
  obtain ⟨W0, hW0⟩ : ∃ W0, W0 = ((w.alloc (.cells #[.int .u64 0, .int .u64 0, .int .u64 0, .int .u64 0] 113)).alloc (.cells #[.int .u64 0, .int .u64 0, .int .u64 0, .int .u64 0] 113)).alloc (.cells #[.slice p m cap] 68) := ⟨_, rfl⟩
  have hO : OwB w [(w.heap.size + 2, .cells #[.slice p m cap] 68), (w.heap.size + 1, .cells (ints .u64 (w4 0)) 113), (w.heap.size, .cells (ints .u64 (zs 4)) 113)] W0 := by
    rw [hW0]
    exact (((OwB.start w).allocN (.cells (ints .u64 (zs 4)) 113) w.heap.size rfl).allocN (.cells (ints .u64 (w4 0)) 113) (w.heap.size + 1) (by simp)).allocN (.cells #[.slice p m cap] 68) (w.heap.size + 2) (by simp)
  rw [← hW0]
  have hsz : W0.heap.size = w.heap.size + 3 := by rw [hW0]; simp
  have hS0 : Sl .u8 W0 p m cap B := S.fr0 hO.fr
  have hB2 := hO.nth 0 rfl
  have hB1 := hO.nth 1 rfl
  have hB0 := hO.nth 2 rfl
  have HW0 := Lib.hid hW0
  clear hW0
  refine wpIn_rangeFunc_ownF (F := Fence.wide) rfl (by omega) (gf := 123) (lb := #[.pointer (some ⟨w.heap.size + 2, 0, none⟩)]) (by simp [go_sem]) trivial (enters_of Try.func123 (by kernel_rfl) rfl)
    (encs := fun x : Bit => #[.int .u64 x.1]) (Kp := KpD (w.heap.size + 2) w.heap.size) (S := fun ys => ys = bitsD B) (Sp := fun pre => pre <+: bitsD B) (N := (bitsD B).length) (w0 := W0)
    (fun l J Jx W hW hJ hJx hY h0 => down_in Fence.wide 8 trivial rfl (by omega) l (w.heap.size + 2) w.heap.size (p := p) (cap := cap) J Jx hY W ((hW.block _ (by omega)).trans hB2) (hS0.same fun h b hb => hW.block b (hS0.lt h b hb)) (fun h => S.lt h) hB hm h0)
    (fun h k => h.trans k) ?kb (Below.refl _ _) (fun _ => rfl)
    (fun pre W => W.blk (w.heap.size + 1) = some (.cells (ints .u64 (w4 (modS pre))) 113) ∧ W.blk w.heap.size = some (.cells (ints .u64 (zs 4)) 113) ∧ Fr [] w W)
    (fun _ _ _ => False) ?hI (fun _ _ _ _ _ hs _ _ => hs) ⟨hB1, hB0, hO.fr⟩
    ?a1 ?assign ?body ?done ?stop
  case kb =>
    intro W l o o' hl ho hc hw
    refine ⟨belowK_b (w := W0) (by omega) W l o o' hl ho hc hw, fun cs t f hb => ?_⟩
    have hne : l ≠ w.heap.size + 2 := fun e => by
      subst e
      rw [show W.heap[w.heap.size + 2]? = W.blk (w.heap.size + 2) from rfl, hb] at ho
      simp only [Option.some.injEq] at ho
      subst ho
      cases hc
    exact (show (W.putObj l o').heap[w.heap.size + 2]? = W.heap[w.heap.size + 2]? from World.putObj_heap_other (fun e => hne e.symm)).trans hb
  case hI =>
    intro s W W' row hs hg hr
    obtain ⟨h1, h2, h3⟩ := hs
    have keep : ∀ b cs t f, W.blk b = some (.cells cs t f) → W'.blk b = some (.cells cs t f) := fun b cs t f hb =>
      (hg.block b (World.at_lt hb) (fun e => by
        obtain ⟨_, o, ho, hc⟩ := hr b e.symm
        rw [show W.heap[b]? = W.blk b from rfl, hb] at ho
        simp only [Option.some.injEq] at ho
        subst ho
        cases hc)).trans hb
    refine ⟨keep _ _ _ _ h1, keep _ _ _ _ h2, h3.seq ((Fr.refl row.toList W).grown hg fun b hb _ => by rw [hb]; simp) fun b hb hlt => ?_⟩
    have hb' : row = some b := by
      cases row with
      | none => cases hb
      | some c => simp only [Option.toList_some, List.mem_singleton] at hb; rw [hb]
    have := (hr b hb').1
    omega
  case assign =>
    intro l x W K hK
    gi_wp2
    exact hK
  case done =>
    rintro D ys W hD rfl ⟨h1, h2, h3⟩ hK
    have t2 := World.at_lt h2
    have e0 : w.heap.size + 1 ≠ w.heap.size := by omega
    have lw := length_w4 (modS (bitsD B))
    gi_wp2
    have hD2 : (W.put w.heap.size (.cells (ints .u64 (w4 (modS (bitsD B)))) 113)).heap[D]? = some (.deferred (some [])) := by
      have hne : w.heap.size ≠ D := by omega
      exact (World.at_put_other W _ D (.cells (ints .u64 (w4 (modS (bitsD B)))) 113) hne).trans hK
    have z0 := World.at_put_same W w.heap.size (.cells (ints .u64 (w4 (modS (bitsD B)))) 113) t2
    have FW : Fr [] w (W.put w.heap.size (.cells (ints .u64 (w4 (modS (bitsD B)))) 113)) := h3.put _ _ (fun hlt => by omega)
    obtain ⟨V, hV⟩ : ∃ V, V = W.put w.heap.size (.cells (ints .u64 (w4 (modS (bitsD B)))) 113) := ⟨_, rfl⟩
    rw [← hV] at hD2 z0 FW ⊢
    have hneD : D ≠ w.heap.size := by omega
    have z1 : (V.putObj D (.deferred none)).blk w.heap.size = some (.cells (ints .u64 (w4 (modS (bitsD B)))) 113) := (World.at_put_other V D w.heap.size (.deferred none) hneD).trans z0
    have hag : aggB Try.prog 113 (ints .u64 (w4 (modS (bitsD B)))).size = true := aggB_ints lw (by kernel_rfl)
    refine ⟨by simp, .inl ⟨_, _, rfl, run_takeDeferred hD2, ?_⟩⟩
    refine ⟨.agg (ints .u64 (w4 (modS (bitsD B)))), ?_, rfl, FW.put D _ (fun hlt => by omega)⟩
    simp [results, asAddr, run_loadVar_agg z1 hag]
  case stop =>
    rintro D c pre W _ _ h _
    exact h.elim
  case body =>
    rintro l pre x W ⟨h1, h2, h3⟩ hlen
    have t1 := World.at_lt h1
    have lw := length_w4 (modS pre)
    gi_wp2_with fail
    have hrr := modS_rng pre
    have hsh := congrArg (ints .u64) (shl_w4 (modS pre) x.1 hrr x.2)
    rw [show ints .u64 [bits .or .u64 (IntKind.u64.wrap (el (w4 (modS pre)) 0 * 2)) x.1, bits .or .u64 (IntKind.u64.wrap (el (w4 (modS pre)) 1 * 2)) (el (w4 (modS pre)) 0 / 9223372036854775808), bits .or .u64 (IntKind.u64.wrap (el (w4 (modS pre)) 2 * 2)) (el (w4 (modS pre)) 1 / 9223372036854775808), bits .or .u64 (IntKind.u64.wrap (el (w4 (modS pre)) 3 * 2)) (el (w4 (modS pre)) 2 / 9223372036854775808)] = #[.int .u64 (bits .or .u64 (IntKind.u64.wrap (el (w4 (modS pre)) 0 * 2)) x.1), .int .u64 (bits .or .u64 (IntKind.u64.wrap (el (w4 (modS pre)) 1 * 2)) (el (w4 (modS pre)) 0 / 9223372036854775808)), .int .u64 (bits .or .u64 (IntKind.u64.wrap (el (w4 (modS pre)) 2 * 2)) (el (w4 (modS pre)) 1 / 9223372036854775808)), .int .u64 (bits .or .u64 (IntKind.u64.wrap (el (w4 (modS pre)) 3 * 2)) (el (w4 (modS pre)) 2 / 9223372036854775808))] from rfl] at hsh
    rw [hsh]
    clear hsh
    obtain ⟨y', hy⟩ : ∃ y', y' = 2 * modS pre + x.1 := ⟨_, rfl⟩
    rw [← hy]
    have HY := Lib.hid hy
    have hy2 : 0 ≤ y' ∧ y' < 2 * oL := by have := x.2; omega
    clear hy hrr
    obtain ⟨W2, hW2⟩ : ∃ W2, W2 = W.put (w.heap.size + 1) (.cells (ints .u64 (w4 y')) 113) := ⟨_, rfl⟩
    rw [← hW2]
    have k1 : W2.blk (w.heap.size + 1) = some (.cells (ints .u64 (w4 y')) 113) := by rw [hW2]; exact World.at_put_same _ _ _ t1
    have k2 : W2.blk w.heap.size = some (.cells (ints .u64 (zs 4)) 113) := by rw [hW2, World.at_put_other _ _ _ _ (by omega)]; exact h2
    have ly := length_w4 y'
    have HW2 := Lib.hid hW2
    have hcb := Lib.hid h1
    clear hW2 h1 h2 t1
    have t1 := World.at_lt k1
    have t2 := World.at_lt k2
    have HR := Lib.hid (show 0 ≤ y' ∧ y' < 115792089237316195423570985008687907853269984665640564039457584007913129639936 from ⟨hy2.1, by have := hy2.2; unfold oL at this; omega⟩)
    have HL := Lib.hid (show (0 : Int) ≤ 7237005577332262213973186563042994240857116359379907606001950938285454250989 ∧ (7237005577332262213973186563042994240857116359379907606001950938285454250989 : Int) < 115792089237316195423570985008687907853269984665640564039457584007913129639936 from by decide)
    have hne : Nonempty (OwnW W2 []) := ⟨⟨_, OwB.start W2⟩⟩
    have f0 : ∀ y : OwnW W2 [], y.w.blk (w.heap.size + 1) = some (.cells (ints .u64 (w4 y')) 113) := fun y => y.h.fr.get k1 (by simp)
    refine wpIn_region_rooms (w0 := W2) (Lb := []) 7 5 [(6, 5, .cells (ints .u64 (zs 4)) 113)] (by kernel_rfl) (by kernel_rfl) (by kernel_rfl) (RoomsOk.of (by kernel_rfl) ?rm) rfl (OwB.start W2) ?_
    case rm =>
      intro r hr
      rw [List.mem_singleton] at hr
      subst hr
      exact ⟨_, rfl, rfl, rfl, fun ρ w => by kernel_rfl⟩
    simp only [List.take_succ_cons, List.take_zero, List.drop_succ_cons, List.drop_zero]
    repeat (first
      | (refine wpQuietR_room rfl ?_)
      | (refine wpQuietR_late rfl rfl (yields_extract rfl rfl rfl rfl) ?_; simp only [Act.put, List.setIfInBounds_toArray, List.set_cons_zero, List.set_cons_succ])
      | (refine wpQuietR_step rfl rfl (fun K hK => ?_); go_simp; refine hK _ ?_; clear hK K)
      | (refine wpQuietR_step rfl rfl (fun K hK => ?_); go_simp; apply Exists.intro; refine ⟨fun _ => ?_, hK _ ?_⟩; (first | with_reducible exact order_f | with_reducible exact less_f _ _ HR.out HL.out); clear hK K))
    refine wpQuietR_nil ?_
    intro bl V hV
    simp only [ownR, realR, ptrTo, List.map_cons, List.map_nil, List.foldr_cons, List.foldr_nil, List.append_nil, Act.put, List.setIfInBounds_toArray, List.set_cons_zero, List.set_cons_succ] at hV ⊢
    generalize bl 6 = nb at hV ⊢
    have v0 := hV.nth 0 rfl
    have v1 := hV.fr.get k1 (by simp)
    have u0 := World.at_lt v0
    have u1 := World.at_lt v1
    have nlo := hV.low 0 rfl
    have e1 : nb ≠ w.heap.size + 1 := by omega
    have e2 : w.heap.size + 1 ≠ nb := by omega
    have lm := length_w4 ((y' - 7237005577332262213973186563042994240857116359379907606001950938285454250989) % 115792089237316195423570985008687907853269984665640564039457584007913129639936)
    clear f0 hne
    by_cases hlo : y' < 7237005577332262213973186563042994240857116359379907606001950938285454250989
    · have hd : decide (y' < 7237005577332262213973186563042994240857116359379907606001950938285454250989) = true := decide_eq_true hlo
      intro K hK
      go_wp2
      have FF : Fr [w.heap.size + 1] W (V.put nb (.cells (ints .u64 (w4 ((y' - 7237005577332262213973186563042994240857116359379907606001950938285454250989) % 115792089237316195423570985008687907853269984665640564039457584007913129639936))) 113)) := by
        have g1 : Fr [w.heap.size + 1] W W2 := by rw [HW2.out]; exact (Fr.refl _ W).put _ _ (fun _ => by simp)
        have hs := g1.size
        exact (g1.seq hV.fr (fun _ hk => by cases hk)).put nb _ (fun hlt => by omega)
      have z1 : (V.put nb (.cells (ints .u64 (w4 ((y' - 7237005577332262213973186563042994240857116359379907606001950938285454250989) % 115792089237316195423570985008687907853269984665640564039457584007913129639936))) 113)).blk (w.heap.size + 1) = some (.cells (ints .u64 (w4 y')) 113) := by rw [World.at_put_other _ _ _ _ e1]; exact v1
      have z2 : (V.put nb (.cells (ints .u64 (w4 ((y' - 7237005577332262213973186563042994240857116359379907606001950938285454250989) % 115792089237316195423570985008687907853269984665640564039457584007913129639936))) 113)).blk w.heap.size = some (.cells (ints .u64 (zs 4)) 113) := by rw [World.at_put_other _ _ _ _ (by omega)]; exact hV.fr.get k2 (by simp)
      have zn := World.at_put_same V nb (.cells (ints .u64 (w4 ((y' - 7237005577332262213973186563042994240857116359379907606001950938285454250989) % 115792089237316195423570985008687907853269984665640564039457584007913129639936))) 113) u0
      obtain ⟨V2, hV2⟩ : ∃ V2, V2 = V.put nb (.cells (ints .u64 (w4 ((y' - 7237005577332262213973186563042994240857116359379907606001950938285454250989) % 115792089237316195423570985008687907853269984665640564039457584007913129639936))) 113) := ⟨_, rfl⟩
      rw [← hV2] at FF z1 z2 zn ⊢
      have un := World.at_lt zn
      have uz := World.at_lt z1
      clear hV2 hV v0 v1 u0 u1 k1 k2 t1 t2
      gi_wp2
      refine ⟨keeps_of_fr FF hcb.out, kpD_of_fr FF (by omega) (by omega) h3.size, ?_, z2, h3.seq FF (fun k hk hlt => by rw [List.mem_singleton.1 hk] at hlt; omega)⟩
      rw [modS_snoc, mstep, ← HY.out, if_pos (show y' < oL from hlo)]
      exact z1
    · have hd : decide (y' < 7237005577332262213973186563042994240857116359379907606001950938285454250989) = false := decide_eq_false hlo
      intro K hK
      go_wp2
      have FF : Fr [w.heap.size + 1] W (V.put nb (.cells (ints .u64 (w4 ((y' - 7237005577332262213973186563042994240857116359379907606001950938285454250989) % 115792089237316195423570985008687907853269984665640564039457584007913129639936))) 113)) := by
        have g1 : Fr [w.heap.size + 1] W W2 := by rw [HW2.out]; exact (Fr.refl _ W).put _ _ (fun _ => by simp)
        have hs := g1.size
        exact (g1.seq hV.fr (fun _ hk => by cases hk)).put nb _ (fun hlt => by omega)
      have z1 : (V.put nb (.cells (ints .u64 (w4 ((y' - 7237005577332262213973186563042994240857116359379907606001950938285454250989) % 115792089237316195423570985008687907853269984665640564039457584007913129639936))) 113)).blk (w.heap.size + 1) = some (.cells (ints .u64 (w4 y')) 113) := by rw [World.at_put_other _ _ _ _ e1]; exact v1
      have z2 : (V.put nb (.cells (ints .u64 (w4 ((y' - 7237005577332262213973186563042994240857116359379907606001950938285454250989) % 115792089237316195423570985008687907853269984665640564039457584007913129639936))) 113)).blk w.heap.size = some (.cells (ints .u64 (zs 4)) 113) := by rw [World.at_put_other _ _ _ _ (by omega)]; exact hV.fr.get k2 (by simp)
      have zn := World.at_put_same V nb (.cells (ints .u64 (w4 ((y' - 7237005577332262213973186563042994240857116359379907606001950938285454250989) % 115792089237316195423570985008687907853269984665640564039457584007913129639936))) 113) u0
      obtain ⟨V2, hV2⟩ : ∃ V2, V2 = V.put nb (.cells (ints .u64 (w4 ((y' - 7237005577332262213973186563042994240857116359379907606001950938285454250989) % 115792089237316195423570985008687907853269984665640564039457584007913129639936))) 113) := ⟨_, rfl⟩
      rw [← hV2] at FF z1 z2 zn ⊢
      have un := World.at_lt zn
      have uz := World.at_lt z1
      clear hV2 hV v0 v1 u0 u1 k1 k2 t1 t2
      have hmod : (y' - 7237005577332262213973186563042994240857116359379907606001950938285454250989) % 115792089237316195423570985008687907853269984665640564039457584007913129639936 = y' - 7237005577332262213973186563042994240857116359379907606001950938285454250989 := by
        have := hy2.2
        unfold oL at this
        omega
      rw [hmod] at zn lm
      gi_wp2
      refine ⟨keeps_of_fr (FF.put _ _ (fun _ => by simp)) hcb.out, kpD_of_fr (FF.put _ _ (fun _ => by simp)) (by omega) (by omega) h3.size, ?_, ?_, h3.seq (FF.put _ _ (fun _ => by simp)) (fun k hk hlt => by rw [List.mem_singleton.1 hk] at hlt; omega)⟩
      · rw [modS_snoc, mstep, ← HY.out, if_neg (by simpa [oL] using hlo)]
        exact World.at_put_same _ _ _ uz
      · rw [World.at_put_other _ _ _ _ (by omega)]; exact z2
end
end Go.Proofs.Ytakhmmnklkckpaa
