/- The package field: Mul. -/
import Derived.Test.YtakhmmnklkckpaaFdD
import Derived.Test.YtakhmmnklkckpaaFdC
namespace Go.Proofs.Ytakhmmnklkckpaa
open Go.RowKit Go.Dr

/-- Where a product goes, and what it is. -/
def jj (n : Nat) : Nat := if 5 ≤ n / 5 + n % 5 then n / 5 + n % 5 - 5 else n / 5 + n % 5
def prd (a b : List Int) (n : Nat) : Int := if 5 ≤ n / 5 + n % 5 then el a (n / 5) * (19 * el b (n % 5)) else el a (n / 5) * el b (n % 5)
/-- The sums behind so many products. -/
def acc (a b : List Int) : Nat → Nat → Int
  | 0, _ => 0
  | n + 1, j => acc a b n j + (if jj n = j then prd a b n else 0)
/-- Sums as pairs of words. -/
def flat (f : Nat → Int) : List Int := (List.range 10).map fun t => if t % 2 = 0 then f (t / 2) / 18446744073709551616 else f (t / 2) % 18446744073709551616
theorem length_flat (f : Nat → Int) : (flat f).length = 10 := by simp [flat]
theorem el_flat (f : Nat → Int) (t : Nat) (h : t < 10) : el (flat f) t = if t % 2 = 0 then f (t / 2) / 18446744073709551616 else f (t / 2) % 18446744073709551616 := by
  rw [flat, el_map_range _ _ _ h]
theorem two_of (l : List Int) (i : Nat) (h : i + 2 ≤ l.length) : (l.take (i + 2)).drop i = [el l i, el l (i + 1)] := by
  apply el_ext
  · simp; omega
  · intro k hk
    have hk2 : k < 2 := by simp at hk; omega
    rw [el_drop]
    match k, hk2 with
    | 0, _ => simp [el]
    | 1, _ => simp [el]
theorem flat_get (f : Nat → Int) (j : Nat) (hj : j < 5) : ints .u64 (((flat f).take (j * 2 + 2)).drop (j * 2)) = #[.int .u64 (f j / 18446744073709551616), .int .u64 (f j % 18446744073709551616)] := by
  rw [two_of _ _ (by rw [length_flat]; omega), el_flat _ _ (by omega), el_flat _ _ (by omega), if_pos (by omega), if_neg (by omega)]
  rw [show j * 2 / 2 = j from by omega, show (j * 2 + 1) / 2 = j from by omega]
  rfl
theorem flat_put (f g : Nat → Int) (j : Nat) (hj : j < 5) (v : Int) (hv : g j = v) (ho : ∀ k, k ≠ j → g k = f k) :
    spl (ints .u64 (flat f)) (j * 2) [.int .u64 (v / 18446744073709551616), .int .u64 (v % 18446744073709551616)] = ints .u64 (flat g) := by
  have := spl_ints .u64 (flat f) (j * 2) [v / 18446744073709551616, v % 18446744073709551616]
  rw [show ([.int .u64 (v / 18446744073709551616), .int .u64 (v % 18446744073709551616)] : List Value) = [v / 18446744073709551616, v % 18446744073709551616].map (Value.int .u64) from rfl, this]
  congr 1
  apply el_ext
  · rw [length_lay _ _ _ (by rw [length_flat]; simp; omega), length_flat, length_flat]
  · intro k hk
    rw [length_lay _ _ _ (by rw [length_flat]; simp; omega), length_flat] at hk
    rw [el_flat _ _ hk]
    unfold lay
    rw [List.append_assoc, el_append, el_append, el_drop]
    simp only [List.length_take, length_flat, List.length_cons, List.length_nil]
    have hmin : min (j * 2) 10 = j * 2 := by omega
    rw [hmin]
    by_cases h1 : k < j * 2
    · rw [if_pos h1, ho (k / 2) (by omega), ← el_flat _ _ hk]
      simp [el, h1]
    · rw [if_neg h1]
      by_cases h2 : k - j * 2 < 2
      · rw [if_pos (by omega)]
        rcases (by omega : k = j * 2 ∨ k = j * 2 + 1) with rfl | rfl
        · rw [if_pos (by omega), show j * 2 / 2 = j from by omega, Nat.sub_self, hv]; rfl
        · rw [if_neg (by omega), show (j * 2 + 1) / 2 = j from by omega, show j * 2 + 1 - j * 2 = 1 from by omega, hv]; rfl
      · rw [if_neg (by omega), ho (k / 2) (by omega), ← el_flat _ _ hk]
        congr 1
        omega
theorem prd_lt {a b : List Int} (ha : Lim 4503599627370496 a) (hb : Lim 4503599627370496 b) (n : Nat) (hn : n < 25) : 0 ≤ prd a b n ∧ prd a b n ≤ 385365782469381738054997774434304 := by
  have h1 := ha.at_ (n / 5) (by omega)
  have h2 := hb.at_ (n % 5) (by omega)
  have h3 : 0 ≤ el a (n / 5) * el b (n % 5) := Int.mul_nonneg h1.1 h2.1
  have h4 : el a (n / 5) * el b (n % 5) ≤ 4503599627370496 * 4503599627370496 := Int.mul_le_mul (by omega) (by omega) h2.1 (by omega)
  unfold prd
  split
  · rw [show el a (n / 5) * (19 * el b (n % 5)) = 19 * (el a (n / 5) * el b (n % 5)) from by grind]; omega
  · omega
theorem acc_lt {a b : List Int} (ha : Lim 4503599627370496 a) (hb : Lim 4503599627370496 b) (j : Nat) : ∀ n, n ≤ 25 → 0 ≤ acc a b n j ∧ acc a b n j ≤ n * 385365782469381738054997774434304
  | 0, _ => by simp [acc]
  | n + 1, hn => by
    have ih := acc_lt ha hb j n (by omega)
    have hp := prd_lt ha hb n (by omega)
    unfold acc
    split <;> omega
theorem acc_next (a b : List Int) (k m : Nat) (_hm : m < 5) :
    (∀ v, prd a b (5 * k + m) = v → acc a b (5 * k + (m + 1)) (jj (5 * k + m)) = acc a b (5 * k + m) (jj (5 * k + m)) + v) ∧ (∀ j, j ≠ jj (5 * k + m) → acc a b (5 * k + (m + 1)) j = acc a b (5 * k + m) j) := by
  constructor
  · intro v hv
    show acc a b (5 * k + m + 1) _ = _
    rw [acc, if_pos rfl, hv]
  · intro j hj
    show acc a b (5 * k + m + 1) _ = _
    rw [acc, if_neg (fun h => hj h.symm)]; omega
theorem jj_at (k m : Nat) (hm : m < 5) : jj (5 * k + m) = if 5 ≤ k + m then k + m - 5 else k + m := by
  unfold jj
  rw [show (5 * k + m) / 5 = k from by omega, show (5 * k + m) % 5 = m from by omega]
theorem prd_at (a b : List Int) (k m : Nat) (hm : m < 5) : prd a b (5 * k + m) = if 5 ≤ k + m then el a k * (19 * el b m) else el a k * el b m := by
  unfold prd
  rw [show (5 * k + m) / 5 = k from by omega, show (5 * k + m) % 5 = m from by omega]
/-- What is carried. -/
def ov (S : Nat → Int) : Nat → Int
  | 0 => 0
  | k + 1 => (S k + ov S k) / 2251799813685248
theorem ov_lt {S : Nat → Int} (h : ∀ j, 0 ≤ S j ∧ S j ≤ 9634144561734543451374944360857600) : ∀ k, 0 ≤ ov S k ∧ ov S k < 9223372036854775808
  | 0 => by unfold ov; omega
  | k + 1 => by
    have h1 := ov_lt h k
    have h2 := h k
    unfold ov
    omega
theorem mul_facts (s o : Int) (hs : 0 ≤ s ∧ s ≤ 9634144561734543451374944360857600) (ho : 0 ≤ o ∧ o < 9223372036854775808) :
    (s % 18446744073709551616 + o) % 18446744073709551616 = (s + o) % 18446744073709551616 ∧
    s / 18446744073709551616 + (s % 18446744073709551616 + o) / 18446744073709551616 = (s + o) / 18446744073709551616 ∧
    bits .and .u64 ((s + o) % 18446744073709551616) 2251799813685247 = (s + o) % 2251799813685248 ∧
    bits .or .u64 ((s + o) / 18446744073709551616 * 8192) ((s + o) % 18446744073709551616 / 2251799813685248) = (s + o) / 2251799813685248 := by
  refine ⟨by omega, by omega, ?_, ?_⟩
  · rw [and51 _ (by omega) (by omega)]; omega
  · rw [or_comm64, or_add 13 _ _ ((s + o) / 18446744073709551616).toNat (by omega) (by omega) (by omega) ?_ (by omega)]
    · omega
    · rw [Int.natCast_mul, Int.toNat_of_nonneg (by omega), Int.mul_comm]; rfl
theorem acc25 (a b : List Int) : acc a b 25 0 = el a 0 * el b 0 + el a 1 * (19 * el b 4) + el a 2 * (19 * el b 3) + el a 3 * (19 * el b 2) + el a 4 * (19 * el b 1) ∧ acc a b 25 1 = el a 0 * el b 1 + el a 1 * el b 0 + el a 2 * (19 * el b 4) + el a 3 * (19 * el b 3) + el a 4 * (19 * el b 2) ∧ acc a b 25 2 = el a 0 * el b 2 + el a 1 * el b 1 + el a 2 * el b 0 + el a 3 * (19 * el b 4) + el a 4 * (19 * el b 3) ∧ acc a b 25 3 = el a 0 * el b 3 + el a 1 * el b 2 + el a 2 * el b 1 + el a 3 * el b 0 + el a 4 * (19 * el b 4) ∧ acc a b 25 4 = el a 0 * el b 4 + el a 1 * el b 3 + el a 2 * el b 2 + el a 3 * el b 1 + el a 4 * el b 0 := by
  refine ⟨?_, ?_, ?_, ?_, ?_⟩ <;> simp [acc, jj, prd]
theorem mul_val {a b : List Int} (ha : Lim 4503599627370496 a) (hb : Lim 4503599627370496 b) {d : List Int}
    (hd : d = ((List.range 5).map fun i => (acc a b 25 i + ov (acc a b 25) i) % 2251799813685248).set 0 ((acc a b 25 0 + ov (acc a b 25) 0) % 2251799813685248 + ov (acc a b 25) 5 * 19)) :
    Lim 18446744073709551616 d ∧ val d % prI = val a * val b % prI ∧ 0 ≤ ov (acc a b 25) 5 ∧ ov (acc a b 25) 5 < 48038396025285291 := by
  have hS : ∀ j, 0 ≤ acc a b 25 j ∧ acc a b 25 j ≤ 9634144561734543451374944360857600 := fun j => by have := acc_lt ha hb j 25 (by omega); omega
  have hov := ov_lt hS
  obtain ⟨s0, s1, s2, s3, s4⟩ := acc25 a b
  have e5 : ov (acc a b 25) 5 = (acc a b 25 4 + ov (acc a b 25) 4) / 2251799813685248 := rfl
  have e4 : ov (acc a b 25) 4 = (acc a b 25 3 + ov (acc a b 25) 3) / 2251799813685248 := rfl
  have e3 : ov (acc a b 25) 3 = (acc a b 25 2 + ov (acc a b 25) 2) / 2251799813685248 := rfl
  have e2 : ov (acc a b 25) 2 = (acc a b 25 1 + ov (acc a b 25) 1) / 2251799813685248 := rfl
  have e1 : ov (acc a b 25) 1 = (acc a b 25 0 + ov (acc a b 25) 0) / 2251799813685248 := rfl
  have e0 : ov (acc a b 25) 0 = 0 := rfl
  have h4 : acc a b 25 4 ≤ 5 * 20282409603651670423947251286016 := by
    rw [s4]
    have q : ∀ i k, i < 5 → k < 5 → el a i * el b k ≤ 4503599627370496 * 4503599627370496 := fun i k hi hk =>
      Int.mul_le_mul (by have := ha.at_ i hi; omega) (by have := hb.at_ k hk; omega) (hb.at_ k hk).1 (by omega)
    have := q 0 4 (by omega) (by omega)
    have := q 1 3 (by omega) (by omega)
    have := q 2 2 (by omega) (by omega)
    have := q 3 1 (by omega) (by omega)
    have := q 4 0 (by omega) (by omega)
    omega
  have o4 := hov 4
  have h5 : 0 ≤ ov (acc a b 25) 5 ∧ ov (acc a b 25) 5 < 48038396025285291 := by have := hS 4; omega
  have hdl : d.length = 5 := by rw [hd]; simp
  have hel : ∀ k, k < 5 → el d k = if 0 = k then (acc a b 25 0 + ov (acc a b 25) 0) % 2251799813685248 + ov (acc a b 25) 5 * 19 else (acc a b 25 k + ov (acc a b 25) k) % 2251799813685248 := fun k hk => by
    rw [hd, el_set _ _ _ _ (by simp), el_map_range _ _ _ hk]
  have d0 : el d 0 = (acc a b 25 0 + ov (acc a b 25) 0) % 2251799813685248 + ov (acc a b 25) 5 * 19 := by rw [hel 0 (by omega), if_pos rfl]
  have d1 : el d 1 = (acc a b 25 1 + ov (acc a b 25) 1) % 2251799813685248 := by rw [hel 1 (by omega), if_neg (by omega)]
  have d2 : el d 2 = (acc a b 25 2 + ov (acc a b 25) 2) % 2251799813685248 := by rw [hel 2 (by omega), if_neg (by omega)]
  have d3 : el d 3 = (acc a b 25 3 + ov (acc a b 25) 3) % 2251799813685248 := by rw [hel 3 (by omega), if_neg (by omega)]
  have d4 : el d 4 = (acc a b 25 4 + ov (acc a b 25) 4) % 2251799813685248 := by rw [hel 4 (by omega), if_neg (by omega)]
  refine ⟨⟨hdl, by omega, by omega, by omega, by omega, by omega⟩, ?_, h5⟩
  have hval : val d + prI * ov (acc a b 25) 5 = acc a b 25 0 + 2251799813685248 * acc a b 25 1 + 5070602400912917605986812821504 * acc a b 25 2 + 11417981541647679048466287755595961091061972992 * acc a b 25 3 + 25711008708143844408671393477458601640355247900524685364822016 * acc a b 25 4 := by
    unfold val prI
    omega
  have hprod : val a * val b = acc a b 25 0 + 2251799813685248 * acc a b 25 1 + 5070602400912917605986812821504 * acc a b 25 2 + 11417981541647679048466287755595961091061972992 * acc a b 25 3 + 25711008708143844408671393477458601640355247900524685364822016 * acc a b 25 4 + prI * (1 * (el a 1 * el b 4) + 1 * (el a 2 * el b 3) + 2251799813685248 * (el a 2 * el b 4) + 1 * (el a 3 * el b 2) + 2251799813685248 * (el a 3 * el b 3) + 5070602400912917605986812821504 * (el a 3 * el b 4) + 1 * (el a 4 * el b 1) + 2251799813685248 * (el a 4 * el b 2) + 5070602400912917605986812821504 * (el a 4 * el b 3) + 11417981541647679048466287755595961091061972992 * (el a 4 * el b 4)) := by
    rw [s0, s1, s2, s3, s4]
    unfold val prI
    grind
  rw [hprod, ← hval, Int.add_assoc, ← Int.mul_add, Int.add_mul_emod_self_left]
section
variable {w : World}
set_option maxRecDepth 100000 in
/-- Mul. -/
theorem mul_any (a b : List Int) (ha : Lim 4503599627370496 a) (hb : Lim 4503599627370496 b) :
    Calls Try.prog 36 #[fe a, fe b] w fun e w' => ∃ c, e = .returned (fe c) ∧ Lim 4503599627370496 c ∧ val c % prI = val a * val b % prI ∧ Fr [] w w' := by
  have hla := ha.len
  have hlb := hb.len
  have HA := Lib.hid ha
  have HB := Lib.hid hb
  clear ha hb
  unfold fe
  go_enter Try.func36, Try.ntmps36
  go_wp2
  have h10 : (#[.int .u64 0, .int .u64 0, .int .u64 0, .int .u64 0, .int .u64 0, .int .u64 0, .int .u64 0, .int .u64 0, .int .u64 0, .int .u64 0] : Array Value) = ints .u64 (flat (acc a b 0)) := rfl
  obtain ⟨V, hV⟩ : ∃ V, V = (((w.alloc (.cells (ints .u64 a) 28)).alloc (.cells (ints .u64 b) 28)).alloc (.cells (ints .u64 (zs 5)) 28)).alloc (.cells (ints .u64 (flat (acc a b 0))) 81) := ⟨_, rfl⟩
  refine Eq.mp (congrArg (fun X => Code.wp _ _ _ _ X) hV) ?_
  have h0 : V.blk w.heap.size = some (.cells (ints .u64 a) 28) := by rw [hV]; go_simp
  have h1 : V.blk (w.heap.size + 1) = some (.cells (ints .u64 b) 28) := by rw [hV]; go_simp
  have h2 : V.blk (w.heap.size + 2) = some (.cells (ints .u64 (zs 5)) 28) := by rw [hV]; go_simp
  have h3 : V.blk (w.heap.size + 3) = some (.cells (ints .u64 (flat (acc a b 0))) 81) := by rw [hV]; go_simp
  have FV : Fr [] w V := by rw [hV]; exact ((((Fr.refl _ _).alloc _).alloc _).alloc _).alloc _
  have HFV := Lib.hid FV
  have H0 := Lib.hid h0
  have H1 := Lib.hid h1
  have H2 := Lib.hid h2
  clear hV FV h10 h0 h1 h2
  go_loopw [18] (fun i wr => ∃ k : Nat, k ≤ 5 ∧ i = .int .i64 k ∧ Fr [w.heap.size + 3] V wr ∧ wr.blk (w.heap.size + 3) = some (.cells (ints .u64 (flat (acc a b (5 * k)))) 81 (0, 0))) (fun i _ => 5 - (intOf i).toNat)
  case atStart => exact ⟨0, by omega, rfl, Fr.refl _ _, h3⟩
  case round =>
    obtain ⟨k, hk, rfl, FR, hc⟩ := hrel
    clear h3
    by_cases hlt : k < 5
    · have h1 := FR.get H1.out (by simp)
      have h1l := World.at_lt h1
      have HFR := Lib.hid FR
      clear FR
      go_wp2
      rw [show decide ((k : Int) < 5) = true from by simp; omega]
      go_loopw [24] (fun i wv => ∃ m : Nat, m ≤ 5 ∧ i = .int .i64 m ∧ Fr [w.heap.size + 3] V wv ∧ wv.blk (w.heap.size + 3) = some (.cells (ints .u64 (flat (acc a b (5 * k + m)))) 81 (0, 0))) (fun i _ => 5 - (intOf i).toNat)
      case atStart => exact ⟨0, by omega, rfl, HFR.out, hc⟩
      case round =>
        obtain ⟨m, hm, rfl, FR, hd⟩ := hrel
        clear hc h1 h1l
        have hdl := World.at_lt hd
        have HFR2 := Lib.hid FR
        clear FR
        by_cases hlm : m < 5
        · have x1 := HA.out.at_ k hlt
          have x2 := HB.out.at_ m hlm
          have hfl := length_flat (acc a b (5 * k + m))
          have hal := acc_lt HA.out HB.out (jj (5 * k + m)) (5 * k + m) (by omega)
          have hpl := prd_lt HA.out HB.out (5 * k + m) (by omega)
          have hpa := prd_at a b k m hlm
          have hja := jj_at k m hlm
          obtain ⟨hv, ho⟩ := acc_next a b k m hlm
          by_cases hge : 5 ≤ k + m
          · rw [if_pos hge] at hpa hja
            rw [hpa] at hpl
            rw [hja] at hal hv ho
            have hv' := hv _ hpa
            have hg := flat_get (acc a b (5 * k + m)) (k + m - 5) (by omega)
            have hp := flat_put (acc a b (5 * k + m)) (acc a b (5 * k + (m + 1))) (k + m - 5) (by omega) _ hv' ho
            have hm5 : (k + m - 5) * 2 + 2 ≤ 10 := by omega
            have hal' : acc a b (5 * k + m) (k + m - 5) + el a k * (19 * el b m) < 340282366920938463463374607431768211456 := by omega
            have HAL := Lib.hid hal
            have HV := Lib.hid hal'
            clear hal hpl hpa hja hv ho hv' hal'
            go_wp2_with fail
            refine (more_at (acc a b (5 * k + m) (k + m - 5)) (el a k) (19 * el b m) HAL.out.1 (by omega) (by omega) (by omega) (by omega) HV.out).mono ?_
            rintro e wx ⟨rfl, FX⟩
            have hd' := FX.get hd (by simp)
            have hdl' := World.at_lt hd'
            have HX := Lib.hid (HFR2.out.trans (FX.mono (fun _ h => by cases h)))
            clear FX hd hdl hg
            go_wp2
            go_roundw
            case rel => exact ⟨m + 1, by omega, by go_num, HX.out.put _ _ (by simp), World.at_put_same _ _ _ hdl'⟩
            case measure => simp [intOf]; omega
          · rw [if_neg hge] at hpa hja
            rw [hpa] at hpl
            rw [hja] at hal hv ho
            have hv' := hv _ hpa
            have hg := flat_get (acc a b (5 * k + m)) (k + m) (by omega)
            have hp := flat_put (acc a b (5 * k + m)) (acc a b (5 * k + (m + 1))) (k + m) (by omega) _ hv' ho
            have hm5 : (k + m) * 2 + 2 ≤ 10 := by omega
            have hal' : acc a b (5 * k + m) (k + m) + el a k * el b m < 340282366920938463463374607431768211456 := by omega
            have HAL := Lib.hid hal
            have HV := Lib.hid hal'
            clear hal hpl hpa hja hv ho hv' hal'
            go_wp2_with fail
            refine (more_at (acc a b (5 * k + m) (k + m)) (el a k) (el b m) HAL.out.1 (by omega) (by omega) (by omega) (by omega) HV.out).mono ?_
            rintro e wx ⟨rfl, FX⟩
            have hd' := FX.get hd (by simp)
            have hdl' := World.at_lt hd'
            have HX := Lib.hid (HFR2.out.trans (FX.mono (fun _ h => by cases h)))
            clear FX hd hdl hg
            go_wp2
            go_roundw
            case rel => exact ⟨m + 1, by omega, by go_num, HX.out.put _ _ (by simp), World.at_put_same _ _ _ hdl'⟩
            case measure => simp [intOf]; omega
        · obtain rfl : m = 5 := by omega
          go_wp2
          go_roundw
          case rel => exact ⟨k + 1, by omega, by go_num, HFR2.out, hd⟩
          case measure => simp [intOf]; omega
    · obtain rfl : k = 5 := by omega
      rw [show ((5 : Nat) : Int) = 5 from rfl]
      obtain ⟨S, hS⟩ : ∃ S, S = acc a b 25 := ⟨_, rfl⟩
      rw [show 5 * 5 = 25 from rfl, ← hS] at hc
      have h2 := FR.get H2.out (by simp)
      have hcl := World.at_lt hc
      have h2l := World.at_lt h2
      have FW := HFV.out.seq FR (by simp)
      have HFW := Lib.hid FW
      have HS := Lib.hid hS
      clear FR FW hS
      go_wp2
      obtain ⟨W, hW⟩ : ∃ W, W = wr.alloc (.cells (ints .u64 (zs 5)) 28) := ⟨_, rfl⟩
      refine Eq.mp (congrArg (fun X => Code.wp _ _ _ _ X) hW) ?_
      have k2 : W.blk (w.heap.size + 2) = some (.cells (ints .u64 (zs 5)) 28) := by rw [hW]; go_simp
      have k3 : W.blk (w.heap.size + 3) = some (.cells (ints .u64 (flat S)) 81) := by rw [hW]; go_simp
      have k4 : W.blk wr.heap.size = some (.cells (ints .u64 (zs 5)) 28) := by rw [hW]; go_simp
      have FY : Fr [] w W := by rw [hW]; exact HFW.out.alloc _
      have HFY := Lib.hid FY
      have hSb : ∀ j, 0 ≤ S j ∧ S j ≤ 9634144561734543451374944360857600 := fun j => by rw [HS.out]; have := acc_lt HA.out HB.out j 25 (by omega); omega
      have HSB := Lib.hid hSb
      have hsz := HFW.out.size
      have hne : wr.heap.size ≠ w.heap.size + 2 := by omega
      clear hW FY HFW h2 hc hSb
      go_loopw [11, 61] (fun o i wv => ∃ k : Nat, k ≤ 5 ∧ i = .int .i64 k ∧ o = .int .u64 (ov S k) ∧ Fr [wr.heap.size] W wv ∧ wv.blk wr.heap.size = some (.cells (ints .u64 (upd (fun i => (S i + ov S i) % 2251799813685248) (zs 5) k)) 28 (0, 0))) (fun _ i _ => 5 - (intOf i).toNat)
      case atStart => exact ⟨0, by omega, rfl, rfl, Fr.refl _ _, by rw [upd_zero]; exact k4⟩
      case round =>
        obtain ⟨k, hk, rfl, rfl, FR, hc⟩ := hrel
        clear k4
        have hcl := World.at_lt hc
        have k2' := FR.get k2 (by simp; omega)
        have k3' := FR.get k3 (by simp; omega)
        have k3l := World.at_lt k3'
        have HFR := Lib.hid FR
        have hlu := length_upd (fun i => (S i + ov S i) % 2251799813685248) (zs 5) k (by rw [length_zs]; exact hk)
        rw [length_zs] at hlu
        clear FR k2 k3
        by_cases hlt : k < 5
        · have hset : (upd (fun i => (S i + ov S i) % 2251799813685248) (zs 5) k).set k ((S k + ov S k) % 2251799813685248) = upd (fun i => (S i + ov S i) % 2251799813685248) (zs 5) (k + 1) :=
            set_upd (fun i => (S i + ov S i) % 2251799813685248) (zs 5) k (by rw [length_zs]; exact hlt)
          have b1 := HSB.out k
          have b2 := ov_lt HSB.out k
          obtain ⟨f1, f2, f3, f4⟩ := mul_facts (S k) (ov S k) b1 b2
          have hfl := length_flat S
          have g1 : el (flat S) (k * 2 + 1) = S k % 18446744073709551616 := by rw [el_flat _ _ (by omega), if_neg (by omega)]; congr 2; omega
          have g2 : el (flat S) (k * 2) = S k / 18446744073709551616 := by rw [el_flat _ _ (by omega), if_pos (by omega)]; congr 2; omega
          have g3 : k * 2 + 1 < 10 := by omega
          have g4 : k * 2 < 10 := by omega
          have e1 := add64_0 (S k % 18446744073709551616) (ov S k) (by omega) b2.1
          have hov : (S k + ov S k) / 2251799813685248 = ov S (k + 1) := rfl
          go_wp2_with (simp only [e1])
          go_roundw
          case rel => exact ⟨k + 1, by omega, by go_num, rfl, HFR.out.put _ _ (by simp), World.at_put_same _ _ _ hcl⟩
          case measure => simp [intOf]; omega
        · obtain rfl : k = 5 := by omega
          have hfull : upd (fun i => (S i + ov S i) % 2251799813685248) (zs 5) 5 = (List.range 5).map fun i => (S i + ov S i) % 2251799813685248 := upd_full _ _ _ (length_zs 5)
          rw [hfull] at hc hlu
          obtain ⟨c, hce⟩ : ∃ c, c = (List.range 5).map fun i => (S i + ov S i) % 2251799813685248 := ⟨_, rfl⟩
          rw [← hce] at hc hlu
          have hc0 : el c 0 = (S 0 + ov S 0) % 2251799813685248 := by rw [hce, el_map_range _ _ _ (by omega)]
          obtain ⟨d, hde⟩ : ∃ d, c.set 0 (el c 0 + ov S 5 * 19) = d := ⟨_, rfl⟩
          obtain ⟨m1, m2, m3⟩ := mul_val HA.out HB.out (d := d) (by rw [← hde, hc0, hce, HS.out])
          rw [← HS.out] at m3
          have hc1 : 0 ≤ el c 0 ∧ el c 0 < 2251799813685248 := by rw [hc0]; omega
          have hdl : d.length = 5 := m1.len
          have FX := HFY.out.seq HFR.out (by simp; omega)
          have HFX := Lib.hid FX
          have M1 := Lib.hid m1
          have M2 := Lib.hid m2
          clear FX hfull hce hc0 m1 m2 k3' k3l
          go_wp2_with fail
          refine (carry_any d M1.out).mono ?_
          rintro e w1 ⟨z, rfl, hzl, HZ, F1⟩
          have k5 := F1.get (b := w.heap.size + 2) (o := .cells (ints .u64 (zs 5)) 28) (by go_simp) (by simp)
          have k5l := World.at_lt k5
          have FZ : Fr [] w w1 := (HFX.out.put _ _ (by omega)).trans F1
          have HFZ := Lib.hid FZ
          clear FZ F1 hc hcl m3 hc1 k2'
          go_wp2
          refine ret_cell rfl rfl rfl ?_
          go_simp
          have hzz : Lim 4503599627370496 z ∧ val z % prI = val a * val b % prI := by
            rw [HZ.out]
            refine ⟨lim_carry M1.out, ?_⟩
            rw [← M2.out, val_carryL d, prI, Int.add_mul_emod_self_left]
          exact ⟨z, rfl, hzz.1, hzz.2, HFZ.out.put _ _ (by omega)⟩
end
end Go.Proofs.Ytakhmmnklkckpaa
