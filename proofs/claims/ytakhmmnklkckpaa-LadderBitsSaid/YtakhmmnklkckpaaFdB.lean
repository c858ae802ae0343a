/- The package field: Of. -/
import Derived.Test.YtakhmmnklkckpaaFdA
import Derived.Laws.BitsAllLaws
namespace Go.Proofs.Ytakhmmnklkckpaa
open Go.RowKit Go.Dr

theorem or_add (s : Nat) (x y : Int) (z : Nat) (hx : 0 ≤ x) (hx2 : x < ((2 ^ s : Nat) : Int)) (hx3 : x < 18446744073709551616) (hy : y = (2 ^ s * z : Nat)) (hy2 : y < 18446744073709551616) : bits .or .u64 x y = x + y := by
  obtain ⟨a, rfl⟩ : ∃ a : Nat, x = a := ⟨x.toNat, by omega⟩
  subst hy
  rw [u64_or_nat a (2 ^ s * z) (by omega) (by omega), Nat.or_comm, ← Nat.two_pow_add_eq_or_of_lt (by omega)]
  omega
theorem or_comm64 (x y : Int) : bits .or .u64 x y = bits .or .u64 y x := by simp only [bits, BitVec.or_comm]
/-- Bytes' number, the least first. -/
def le : List Int → Int
  | [] => 0
  | x :: r => x + 256 * le r
theorem le_append (l m : List Int) : le (l ++ m) = le l + 256 ^ l.length * le m := by
  induction l with
  | nil => simp [le]
  | cons x r ih => simp only [List.cons_append, le, ih, List.length_cons, Int.pow_succ]; grind
/-- Bytes. -/
def Byt (l : List Int) : Prop := ∀ x ∈ l, 0 ≤ x ∧ x < 256
theorem Byt.at_ {l : List Int} (h : Byt l) (k : Nat) (hk : k < l.length) : 0 ≤ el l k ∧ el l k < 256 := by
  have := h l[k] (List.getElem_mem hk)
  simpa [el, hk] using this
theorem le_lt (l : List Int) (h : Byt l) : 0 ≤ le l ∧ le l < 256 ^ l.length := by
  induction l with
  | nil => simp [le]
  | cons x r ih =>
    have hx := h x (by simp)
    have := ih (fun y hy => h y (by simp [hy]))
    simp only [le, List.length_cons, Int.pow_succ]
    omega
/-- The words of the first i bytes. -/
def wordsL (b : List Int) (i : Nat) : List Int := (List.range 4).map fun j => le (((b.take i).drop (8 * j)).take 8)
theorem word_lt {b : List Int} (h : Byt b) (i j : Nat) : 0 ≤ le (((b.take i).drop (8 * j)).take 8) ∧ le (((b.take i).drop (8 * j)).take 8) < 256 ^ (((b.take i).drop (8 * j)).take 8).length :=
  le_lt _ fun x hx => h x (List.mem_of_mem_take (List.mem_of_mem_drop (List.mem_of_mem_take hx)))
theorem word_step {b : List Int} (hb : b.length = 32) (i : Nat) (hi : i < 32) : ((b.take (i + 1)).drop (8 * (i / 8))).take 8 = ((b.take i).drop (8 * (i / 8))).take 8 ++ [el b i] := by
  have h1 : b.take (i + 1) = b.take i ++ [el b i] := by
    rw [List.take_add_one, el]
    simp [List.getElem?_eq_getElem (show i < b.length by omega)]
  rw [h1, List.drop_append_of_le_length (by simp; omega)]
  rw [List.take_of_length_le (l := (b.take i).drop (8 * (i / 8)) ++ [el b i]) (by simp; omega), List.take_of_length_le (l := (b.take i).drop (8 * (i / 8))) (by simp; omega)]
theorem word_other {b : List Int} (hb : b.length = 32) (i j : Nat) (hi : i < 32) (hj : j ≠ i / 8) : ((b.take (i + 1)).drop (8 * j)).take 8 = ((b.take i).drop (8 * j)).take 8 := by
  rcases Nat.lt_or_gt_of_ne hj with h | h
  · have h1 : b.take (i + 1) = b.take i ++ [el b i] := by
      rw [List.take_add_one, el]
      simp [List.getElem?_eq_getElem (show i < b.length by omega)]
    rw [h1, List.drop_append_of_le_length (by simp; omega), List.take_append_of_le_length (by simp; omega)]
  · rw [List.drop_of_length_le (l := b.take (i + 1)) (by simp; omega), List.drop_of_length_le (l := b.take i) (by simp; omega)]
theorem words_step {b : List Int} (hb : b.length = 32) (i : Nat) (hi : i < 32) :
    (wordsL b i).set (i / 8) (el (wordsL b i) (i / 8) + el b i * 256 ^ (i % 8)) = wordsL b (i + 1) := by
  apply el_ext
  · simp [wordsL]
  · intro j hj
    have hj4 : j < 4 := by simpa [wordsL] using hj
    rw [el_set _ _ _ _ (by simp [wordsL]; omega)]
    by_cases h : i / 8 = j
    · subst h
      rw [if_pos rfl, wordsL, wordsL, el_map_range _ _ _ hj4, el_map_range _ _ _ hj4, word_step hb i hi, le_append]
      have hlen : (((List.take i b).drop (8 * (i / 8))).take 8).length = i % 8 := by simp; omega
      rw [hlen]
      simp only [le]
      grind
    · rw [if_neg h, wordsL, wordsL, el_map_range _ _ _ hj4, el_map_range _ _ _ hj4, word_other hb i j hi (fun e => h e.symm)]
theorem pow256_le (r : Nat) (h : r < 8) : 0 < (256 : Int) ^ r ∧ (256 : Int) ^ r ≤ 72057594037927936 := by
  match r, h with
  | 0, _ | 1, _ | 2, _ | 3, _ | 4, _ | 5, _ | 6, _ | 7, _ => decide
theorem word_or {b : List Int} (hlb : b.length = 32) (hb : Byt b) (k : Nat) (hk : k < 32) :
    k / 8 < 4 ∧ IntKind.u64.wrap (el b k * 2 ^ (k % 8 * 8)) = el b k * 256 ^ (k % 8) ∧
      bits .or .u64 (el (wordsL b k) (k / 8)) (el b k * 256 ^ (k % 8)) = el (wordsL b k) (k / 8) + el b k * 256 ^ (k % 8) := by
  have hbk := hb.at_ k (by omega)
  have hp := pow256_le (k % 8) (by omega)
  have e2 : (2 : Int) ^ (k % 8 * 8) = 256 ^ (k % 8) := by rw [Nat.mul_comm, Int.pow_mul]; rfl
  have hbig : 0 ≤ el b k * 256 ^ (k % 8) ∧ el b k * 256 ^ (k % 8) < 18446744073709551616 := by
    refine ⟨Int.mul_nonneg hbk.1 (by omega), ?_⟩
    have : el b k * 256 ^ (k % 8) ≤ 255 * 72057594037927936 := Int.mul_le_mul (by omega) hp.2 (by omega) (by omega)
    omega
  refine ⟨by omega, by rw [e2]; exact wrap64 _ hbig.1 hbig.2, ?_⟩
  have hw := word_lt hb k (k / 8)
  have hlen : (((b.take k).drop (8 * (k / 8))).take 8).length = k % 8 := by simp; omega
  rw [hlen] at hw
  have hel : el (wordsL b k) (k / 8) = le (((b.take k).drop (8 * (k / 8))).take 8) := by rw [wordsL, el_map_range _ _ _ (by omega)]
  rw [hel]
  refine or_add (8 * (k % 8)) _ _ (el b k).toNat hw.1 ?_ (by omega) ?_ hbig.2
  · have e3 : ((2 ^ (8 * (k % 8)) : Nat) : Int) = 256 ^ (k % 8) := by rw [Int.natCast_pow, Int.pow_mul]; rfl
    rw [e3]; exact hw.2
  · have e3 : ((2 ^ (8 * (k % 8)) : Nat) : Int) = 256 ^ (k % 8) := by rw [Int.natCast_pow, Int.pow_mul]; rfl
    rw [Int.natCast_mul, e3, Int.toNat_of_nonneg hbk.1, Int.mul_comm]
/-- The limbs of four words. -/
def ofL (u : List Int) : List Int :=
  [el u 0 % 2251799813685248, (el u 0 / 2251799813685248 + el u 1 * 8192 % 18446744073709551616) % 2251799813685248, (el u 1 / 274877906944 + el u 2 * 67108864 % 18446744073709551616) % 2251799813685248,
   (el u 2 / 33554432 + el u 3 * 549755813888 % 18446744073709551616) % 2251799813685248, el u 3 / 4096 % 2251799813685248]
/-- What four words say. -/
def wval (u : List Int) : Int := el u 0 + 18446744073709551616 * el u 1 + 340282366920938463463374607431768211456 * el u 2 + 6277101735386680763835789423207666416102355444464034512896 * el u 3
structure Wds (u : List Int) : Prop where
  len : u.length = 4
  w0 : 0 ≤ el u 0 ∧ el u 0 < 18446744073709551616
  w1 : 0 ≤ el u 1 ∧ el u 1 < 18446744073709551616
  w2 : 0 ≤ el u 2 ∧ el u 2 < 18446744073709551616
  w3 : 0 ≤ el u 3 ∧ el u 3 < 18446744073709551616
theorem val_ofL {u : List Int} (h : Wds u) : val (ofL u) = wval u % 57896044618658097711785492504343953926634992332820282019728792003956564819968 := by
  obtain ⟨_, h0, h1, h2, h3⟩ := h
  unfold val ofL wval
  simp only [el_zero, el_succ]
  omega
theorem lim_ofL (u : List Int) : Lim 2251799813685248 (ofL u) := by
  refine ⟨rfl, ?_, ?_, ?_, ?_, ?_⟩ <;> (unfold ofL; simp only [el_zero, el_succ]; omega)
theorem or_sh (s : Nat) (c : Int) (hc : c = ((2 ^ s : Nat) : Int)) (x y : Int) (hx : 0 ≤ x) (hx2 : x < c) (hc2 : 0 < c) (hc3 : c < 18446744073709551616) (hd : 18446744073709551616 % c = 0) (_hy : 0 ≤ y) :
    bits .or .u64 x (IntKind.u64.wrap (y * c)) = x + y * c % 18446744073709551616 := by
  rw [IntKind.wrap_u64]
  have hm := Int.emod_nonneg (y * c) (show (18446744073709551616 : Int) ≠ 0 by decide)
  have hl := Int.emod_lt_of_pos (y * c) (show (0 : Int) < 18446744073709551616 by decide)
  have hdv : (y * c % 18446744073709551616) % c = 0 := by
    rw [Int.emod_emod_of_dvd _ (Int.dvd_of_emod_eq_zero hd), Int.mul_emod_left]
  generalize y * c % 18446744073709551616 = z at hm hl hdv ⊢
  obtain ⟨k, hk⟩ := Int.dvd_of_emod_eq_zero hdv
  have hk0 : 0 ≤ k := by
    rcases (by omega : k < 0 ∨ 0 ≤ k) with h | h
    · have : c * k < 0 := Int.mul_neg_of_pos_of_neg hc2 h
      omega
    · exact h
  refine or_add s x z k.toNat hx (by omega) (by omega) ?_ hl
  rw [hk, Int.natCast_mul, Int.toNat_of_nonneg hk0, hc]
theorem ors {u : List Int} (h : Wds u) :
    bits .or .u64 (el u 0 / 2251799813685248) (IntKind.u64.wrap (el u 1 * 8192)) = el u 0 / 2251799813685248 + el u 1 * 8192 % 18446744073709551616 ∧
    bits .or .u64 (el u 1 / 274877906944) (IntKind.u64.wrap (el u 2 * 67108864)) = el u 1 / 274877906944 + el u 2 * 67108864 % 18446744073709551616 ∧
    bits .or .u64 (el u 2 / 33554432) (IntKind.u64.wrap (el u 3 * 549755813888)) = el u 2 / 33554432 + el u 3 * 549755813888 % 18446744073709551616 := by
  obtain ⟨_, h0, h1, h2, h3⟩ := h
  refine ⟨or_sh 13 _ (by decide) _ _ (by omega) (by omega) (by decide) (by decide) (by decide) (by omega), or_sh 26 _ (by decide) _ _ (by omega) (by omega) (by decide) (by decide) (by decide) (by omega), or_sh 39 _ (by decide) _ _ (by omega) (by omega) (by decide) (by decide) (by decide) (by omega)⟩
theorem wds_words {b : List Int} (hb : Byt b) (k : Nat) : Wds (wordsL b k) := by
  have key : ∀ j, j < 4 → 0 ≤ el (wordsL b k) j ∧ el (wordsL b k) j < 18446744073709551616 := fun j hj => by
    rw [wordsL, el_map_range _ _ _ hj]
    have h := word_lt hb k j
    have h2 : ((256 : Int) ^ (((b.take k).drop (8 * j)).take 8).length) ≤ 18446744073709551616 := by
      have : (((b.take k).drop (8 * j)).take 8).length ≤ 8 := by simp; omega
      have := Nat.pow_le_pow_right (n := 256) (by omega) this
      have h3 : (((256 ^ (((b.take k).drop (8 * j)).take 8).length : Nat)) : Int) ≤ ((256 ^ 8 : Nat) : Int) := by exact_mod_cast this
      rw [Int.natCast_pow] at h3
      exact h3
    omega
  exact ⟨by simp [wordsL], key 0 (by omega), key 1 (by omega), key 2 (by omega), key 3 (by omega)⟩
theorem wval_words {b : List Int} (hl : b.length = 32) : wval (wordsL b 32) = le b := by
  have e : b = (b.drop 0).take 8 ++ ((b.drop 8).take 8 ++ ((b.drop 16).take 8 ++ (b.drop 24).take 8)) := by
    apply List.ext_getElem
    · simp; omega
    · intro i h1 h2
      simp only [List.getElem_append, List.getElem_take, List.getElem_drop, List.length_take, List.length_drop]
      (repeat' split) <;> (congr 1; omega)
  have l0 : ((b.drop 0).take 8).length = 8 := by simp; omega
  have l1 : ((b.drop 8).take 8).length = 8 := by simp; omega
  have l2 : ((b.drop 16).take 8).length = 8 := by simp; omega
  have e2 : le b = le ((b.drop 0).take 8) + 256 ^ 8 * (le ((b.drop 8).take 8) + 256 ^ 8 * (le ((b.drop 16).take 8) + 256 ^ 8 * le ((b.drop 24).take 8))) := by
    conv => lhs; rw [e]
    rw [le_append, le_append, le_append, l0, l1, l2]
  rw [e2]
  unfold wval wordsL
  rw [el_map_range _ _ _ (by omega), el_map_range _ _ _ (by omega), el_map_range _ _ _ (by omega), el_map_range _ _ _ (by omega), List.take_of_length_le (l := b) (by omega)]
  simp only [Nat.mul_zero, Nat.reduceMul]
  generalize le ((b.drop 0).take 8) = x0
  generalize le ((b.drop 8).take 8) = x1
  generalize le ((b.drop 16).take 8) = x2
  generalize le ((b.drop 24).take 8) = x3
  omega
section
variable {w : World}
set_option maxRecDepth 100000 in
theorem of_walk (b : List Int) (hlb : b.length = 32) (hb : Byt b) :
    Calls Try.prog 27 #[.agg (ints .u8 b)] w fun e w' => ∃ c, e = .returned (fe c) ∧ Hid (c = ofL (wordsL b 32)) ∧ Fr [] w w' := by
  have HB := Lib.hid hb
  clear hb
  go_enter Try.func27, Try.ntmps27
  go_wp2
  go_loopw [7] (fun i wr => ∃ k : Nat, k ≤ 32 ∧ i = .int .i64 k ∧ Fr [w.heap.size + 2] (((w.alloc (.cells (ints .u8 b) 22)).alloc (.cells (ints .u64 (zs 5)) 28)).alloc (.cells (ints .u64 (zs 4)) 75)) wr ∧
    wr.blk (w.heap.size + 2) = some (.cells (ints .u64 (wordsL b k)) 75 (0, 0))) (fun i _ => 32 - (intOf i).toNat)
  case atStart => exact ⟨0, by omega, rfl, Fr.refl _ _, by go_simp; rfl⟩
  case round =>
    obtain ⟨k, hk, rfl, FR, hc⟩ := hrel
    have hcl := World.at_lt hc
    have HF := Lib.hid FR
    clear FR
    have hlu : (wordsL b k).length = 4 := by simp [wordsL]
    by_cases hlt : k < 32
    · have hbk := HB.out.at_ k (by omega)
      obtain ⟨hq, hsh, hor⟩ := word_or hlb HB.out k hlt
      have hset := words_step hlb k hlt
      go_wp2
      refine drawn_head 12 (by kernel_rfl) rfl rfl (by kernel_rfl) ?_
      change rowK _ _ _ [0,1,2,3,4,5,6,7,8,9,10,11] _ _
      repeat (refine rowK_step2 rfl rfl (fun K hK => ?_); go_wp2)
      refine rowK_nil ?_
      intro K hK
      go_wp2
      go_roundw
      case rel =>
        refine ⟨k + 1, by omega, by go_num, ?_, by rw [World.at_drew]; exact World.at_put_same _ _ _ hcl⟩
        refine Fr.drew (Fr.put HF.out _ _ ?_)
        simp
      case measure => simp [intOf]; omega
    · obtain rfl : k = 32 := by omega
      have h2 := HF.out.get (b := w.heap.size + 1) (o := .cells (ints .u64 (zs 5)) 28) (by go_simp) (by simp)
      have h2l := World.at_lt h2
      have FA : Fr [] w wr := ((((Fr.refl [] w).alloc _).alloc _).alloc _).seq HF.out (by simp)
      have HFA := Lib.hid FA
      have hW := wds_words HB.out 32
      obtain ⟨o1, o2, o3⟩ := ors hW
      obtain ⟨u, hu⟩ : ∃ u, u = wordsL b 32 := ⟨_, rfl⟩
      rw [← hu] at hc hlu hW o1 o2 o3
      have HU := Lib.hid hu
      obtain ⟨_, w0, w1, w2, w3⟩ := hW
      have a0 := and51 (el u 0) w0.1 w0.2
      have a1 := and51 (el u 0 / 2251799813685248 + el u 1 * 8192 % 18446744073709551616) (by omega) (by omega)
      have a2 := and51 (el u 1 / 274877906944 + el u 2 * 67108864 % 18446744073709551616) (by omega) (by omega)
      have a3 := and51 (el u 2 / 33554432 + el u 3 * 549755813888 % 18446744073709551616) (by omega) (by omega)
      have a4 := and51 (el u 3 / 4096) (by omega) (by omega)
      clear FA HF hu w0 w1 w2 w3
      go_wp2
      refine ret_cell rfl rfl rfl ?_
      go_simp
      exact ⟨ofL u, rfl, by rw [HU.out]; exact Lib.hid rfl, HFA.out.put _ _ (by simp)⟩
/-- Of: the bytes' number modulo 2^255. -/
theorem of_any (b : List Int) (hlb : b.length = 32) (hb : Byt b) :
    Calls Try.prog 27 #[.agg (ints .u8 b)] w fun e w' => ∃ c, e = .returned (fe c) ∧ Lim 2251799813685248 c ∧ val c = le b % 57896044618658097711785492504343953926634992332820282019728792003956564819968 ∧ Fr [] w w' :=
  (of_walk b hlb hb).mono fun _ _ ⟨c, h1, h2, h3⟩ => ⟨c, h1, by rw [h2.out]; exact lim_ofL _, by rw [h2.out, val_ofL (wds_words hb 32), wval_words hlb], h3⟩
end
end Go.Proofs.Ytakhmmnklkckpaa
