/- The document's disk: Write in one form, Read. -/
import Derived.Test.YtbjoeihcphcohaaDkN
namespace Go.Proofs.Ytbjoeihcphcohaa
open Go.RowKit Go.Dr

theorem blockOf_lay (c : List Int) (k a n : Nat) (x : List Int) (hc : c.length = 64 * n) (hk : k < n) (ha : a < n) (hx : x.length = 64) : blockOf (lay c (k * 64) x) a = if k = a then x else blockOf c a := by
  have hl := length_lay c (k * 64) x (by omega)
  split
  · next h =>
    subst h
    simp only [blockOf, lay]
    rw [List.take_append_of_le_length (by simp; omega), List.take_of_length_le (by simp; omega)]
    rw [List.drop_append_of_le_length (by simp; omega), List.drop_of_length_le (by simp; omega), List.nil_append]
  · next h =>
    apply List.ext_getElem?
    intro i
    simp only [blockOf, lay, List.getElem?_drop, List.getElem?_take]
    by_cases hi : i < 64
    · rw [if_pos (by omega), if_pos (by omega)]
      rcases Nat.lt_or_gt_of_ne h with h' | h'
      · rw [List.getElem?_append_right (by simp; omega)]
        simp only [List.length_append, List.length_take, List.getElem?_drop]
        congr 1; omega
      · rw [List.append_assoc, List.getElem?_append_left (by simp; omega), List.getElem?_take_of_lt (by omega)]
    · rw [if_neg (by omega), if_neg (by omega)]

section
variable {w : World} {r : Nat} {m : DM} {fp : List Nat}
theorem rwrite_any (D : RefAt w r m fp) (at_ : Int) (bv : Value) (bb : Nat) (b : List Int) (B : BytesAt w bv bb b) (hbf : bb ∉ fp) (hb : b.length ≤ 1099511627776) (hwl : m.waits.length ≤ 1000000) :
    Calls Try.prog 21 #[.pointer (some ⟨r, 0, none⟩), .int .i64 at_, bv] w fun e w' => e = .returned (.int .i64 (writeM m at_ b).1) ∧ ∃ fp', RefAt w' r (writeM m at_ b).2 fp' ∧ Fr fp w w' ∧ News w fp fp' := by
  cases h : argM m at_ b with
  | true =>
    refine (rwrite_arg D at_ bv bb b B hb h).mono ?_
    rintro e w' ⟨rfl, rfl⟩
    simp only [writeM, h, ↓reduceIte]
    exact ⟨trivial, fp, D, Fr.refl _ _, fun k hk => .inl hk⟩
  | false =>
    cases hl : livesM m with
    | false =>
      refine (rwrite_dead D at_ bv bb b B h hl).mono ?_
      rintro e w' ⟨rfl, D', F⟩
      simp only [writeM, h, hl, Bool.false_eq_true, ↓reduceIte]
      exact ⟨trivial, fp, D', F, fun k hk => .inl hk⟩
    | true =>
      refine (rwrite_ok D at_ bv bb b B hbf hwl h hl).mono ?_
      rintro e w' ⟨rfl, fp', D', F, N⟩
      simp only [writeM, h, hl, Bool.false_eq_true, ↓reduceIte]
      exact ⟨trivial, fp', D', F, N⟩

theorem rread_arg (D : RefAt w r m fp) (at_ : Int) (h : noBlock m at_ = true) :
    Calls Try.prog 23 #[.pointer (some ⟨r, 0, none⟩), .int .i64 at_] w fun e w' => e = .returned (.tuple #[.slice none 0 0, .int .i64 1]) ∧ w = w' := by
  obtain ⟨kb, pa, ca, pb, cb, bs, ⟨hr, hk, ha, hb', hl, hx, n0, na, nb, nx⟩, _, ok⟩ := D
  clear hk ha hb' hl hx n0 na nb nx
  have hn := ok.n2
  have hrl := World.at_lt hr
  by_cases h1 : at_ < 0
  · clear h
    go_enter Try.func23, Try.ntmps23
    go_wp2
    go_ret2
    exact ⟨rfl, rfl⟩
  · have h2 : (m.n : Int) ≤ at_ := by simp [noBlock, h1] at h; omega
    clear h
    go_enter Try.func23, Try.ntmps23
    go_wp2
    go_ret2
    exact ⟨rfl, rfl⟩
theorem rread_dead (D : RefAt w r m fp) (at_ : Int) (h : noBlock m at_ = false) (hdead : m.dead = true) :
    Calls Try.prog 23 #[.pointer (some ⟨r, 0, none⟩), .int .i64 at_] w fun e w' => e = .returned (.tuple #[.slice none 0 0, .int .i64 150]) ∧ w = w' := by
  obtain ⟨kb, pa, ca, pb, cb, bs, ⟨hr, hk, ha, hb', hl, hx, n0, na, nb, nx⟩, _, ok⟩ := D
  clear hk ha hb' hl hx n0 na nb nx
  have hn := ok.n2
  have hrl := World.at_lt hr
  simp only [noBlock, Bool.or_eq_false_iff, decide_eq_false_iff_not] at h
  obtain ⟨h1, h2⟩ := h
  have h1b : 0 ≤ at_ := by omega
  have h2b : at_ < m.n := by omega
  clear h1 h2
  go_enter Try.func23, Try.ntmps23
  go_wp2
  go_ret2
  exact ⟨rfl, rfl⟩

set_option maxHeartbeats 2000000 in
theorem rread_ok (D : RefAt w r m fp) (at_ : Int) (h : noBlock m at_ = false) (hdead : m.dead = false) (hseen : m.seen = layW m.kept m.waits) (hwl : m.waits.length ≤ 1000000) :
    Calls Try.prog 23 #[.pointer (some ⟨r, 0, none⟩), .int .i64 at_] w fun e w' => ∃ v bb, e = .returned (.tuple #[v, .int .i64 0]) ∧ BytesAt w' v bb (blockOf m.seen at_.toNat) ∧ Fr [] w w' ∧ w.heap.size ≤ bb := by
  simp only [noBlock, Bool.or_eq_false_iff, decide_eq_false_iff_not] at h
  obtain ⟨h1, h2⟩ := h
  obtain ⟨a, rfl⟩ : ∃ a : Nat, at_ = a := ⟨at_.toNat, by omega⟩
  rw [hseen, Int.toNat_natCast]
  clear hseen
  obtain ⟨kb, pa, ca, pb, cb, bs, ⟨hr, hk, ha, hb, hl, hx, n0, na, nb, nx⟩, hfp, ok⟩ := D
  have hn := ok.n2
  have hkl := ok.kl
  have h2b : (a : Int) < m.n := by omega
  have h2c : a < m.n := by omega
  have HA := Lib.hid ha
  have HB := Lib.hid hb
  have HX := Lib.hid hx
  have HN := Lib.hid (And.intro na (And.intro nb nx))
  have hrl := World.at_lt hr
  have hkbl := World.at_lt hk
  have n0' : kb ≠ r := fun e => n0 e.symm
  obtain ⟨c, hc⟩ : ∃ c : Nat, a * 64 = c := ⟨_, rfl⟩
  obtain ⟨d, hd⟩ : ∃ d : Nat, c + 64 = d := ⟨_, rfl⟩
  have hwr : IntKind.i64.wrap (64 * (a : Int)) = (c : Int) := by rw [IntKind.wrap_i64]; omega
  have hwr2 : IntKind.i64.wrap ((c : Int) + 64) = (d : Int) := by rw [IntKind.wrap_i64]; omega
  have hd1 : (c : Int) ≤ (d : Int) := by omega
  have hd2 : (d : Int) ≤ 64 * (m.n : Int) := by omega
  have hd3 : d - c = 64 := by omega
  have hd4 : 64 * m.n ≠ c := by omega
  have hd5 : 0 ≤ (c : Int) := by omega
  have hd6 : c ≤ d := by omega
  have HC := Lib.hid (And.intro hc hd)
  clear ha hb hx na nb nx hfp h1 h2 hc hd
  go_enter Try.func23, Try.ntmps23
  go_wp2_with (at_builtin; refine wpList_app rfl (.tmp 22) (.tmp 32) 31 rfl E31 (by omega) none 0 0 [] rfl ?h1 kb c 64 (64 * m.n - c) rfl (ints .u8 m.kept) 5 (0, 0) ?h2 ((blockOf m.kept a).map (Value.int .u8)) ?h3 ?h4 ?h5 ?h6 ?h7 ?h8)
  case h1 => exact World.ownsRow_nil _ _ _ _
  case h3 =>
    obtain ⟨rfl, rfl⟩ := HC.out
    simp [blockOf, List.map_take, List.map_drop]
  case h4 => have := HC.out.1; omega
  case h8 =>
  intro pg cg w1 hR
  have F1 : Fr [] w w1 := hR.fr
  have hO := hR.owns
  have hnew := hR.new
  rcases hO.2 with ⟨he, h0⟩ | ⟨g, cap', cur, he, _, hg, hnc, hcm, hcs, htake⟩
  · omega
  simp only [Value.slice.injEq] at he
  obtain ⟨rfl, _, rfl⟩ := he
  have hgw : w.heap.size ≤ g := by
    rcases hnew g rfl with h | h
    · cases h
    · exact h
  obtain ⟨tl, rfl⟩ := split_cur cur (blockOf m.kept a) 64 (by simpa using htake)
  have hbl : (blockOf m.kept a).length = 64 := by have := HC.out.1; simp [blockOf]; omega
  have hbL : ∀ j, (blockOf (layW m.kept (m.waits.take j)) a).length = 64 := fun j => by
    have := length_layW m.n (m.waits.take j) m.kept hkl (fun x hx => ok.ws x (List.mem_of_mem_take hx))
    simp [blockOf]; omega
  have HBL := Lib.hid hbL
  have HF1 := Lib.hid F1
  have hgr : g ≠ r := by omega
  have Hg := Lib.hid hg
  have Hr := Lib.hid hr
  clear hR hO hnew F1 hg hr hk htake hbl hbL hcm hnc hcs
  go_wp2
  go_loopw [7] (fun i wr => ∃ j : Nat, j ≤ m.waits.length ∧ i = .int .i64 j ∧ Fr [] w wr ∧ wr.blk g = some (.cells (ints .u8 (blockOf (layW m.kept (m.waits.take j)) a) ++ tl) 5 (0, 0))) (fun i _ => m.waits.length - (intOf i).toNat)
  case atStart => exact ⟨0, Nat.zero_le _, rfl, HF1.out, Hg.out⟩
  case round =>
    obtain ⟨j, hj1, rfl, FR, hgg⟩ := hrel
    have hrr := FR.get Hr.out (by simp)
    have hrlr := World.at_lt hrr
    have hggl := World.at_lt hgg
    by_cases hlt : j < m.waits.length
    · obtain ⟨ga, cura, rfl, hga, hza, hca⟩ := OwnsR.at_ HA.out (by simp) j hlt
      obtain ⟨gb, curb, rfl, hgb, hzb, hcb⟩ := OwnsR.at_ HB.out (by simp [hl]) j hlt
      have hjb : j < bs.length := by omega
      obtain ⟨curx, T, hgx, hzx, hcx⟩ := HX.out j hjb hlt
      have lga := World.at_lt hga
      have lgb := World.at_lt hgb
      have lgx := World.at_lt hgx
      have hgar := FR.get hga (by simp)
      have hgbr := FR.get hgb (by simp)
      have hgxr := FR.get hgx (by simp)
      obtain ⟨q1, q2⟩ := ok.ws m.waits[j] (List.getElem_mem hlt)
      have hts := List.take_succ_eq_append_getElem hlt
      have hLl := length_layW m.n (m.waits.take j) m.kept ok.kl (fun x hx => ok.ws x (List.mem_of_mem_take hx))
      have hstep := layW_snoc m.kept (m.waits.take j) m.waits[j]
      rw [← hts] at hstep
      have hblk := blockOf_lay (layW m.kept (m.waits.take j)) m.waits[j].1 a m.n m.waits[j].2 hLl q1 h2c q2
      rw [← hstep] at hblk
      simp only [List.getElem?_map, List.getElem?_eq_getElem hlt, List.getElem?_eq_getElem hjb, Option.map_some] at hca hcb
      generalize m.waits[j] = x at hca hcx q1 q2 hstep hblk
      generalize bs[j] = y at hcb hgxr hgx lgx
      obtain ⟨xa, xb⟩ := x
      obtain ⟨yb, yc⟩ := y
      dsimp only at hca hcx q1 q2 hcb hgxr hgx lgx hblk
      have hX := HBL.out j
      obtain ⟨X, hXe⟩ : ∃ X, blockOf (layW m.kept (m.waits.take j)) a = X := ⟨_, rfl⟩
      rw [hXe] at hX hgg hblk
      have hx6 : List.take 64 curx.toList = xb.map (Value.int .u8) := hcx
      have hones : ones (List.take 64 curx.toList) = true := by rw [hx6]; exact ones_map_int _ _
      obtain ⟨_, hca'⟩ := Array.getElem?_eq_some_iff.mp hca
      obtain ⟨_, hcb'⟩ := Array.getElem?_eq_some_iff.mp hcb
      have hgxl := World.at_lt hgxr
      have hspl := spl_in .u8 X tl 0 xb (by omega)
      have hlay : lay X 0 xb = xb := by simp [lay, hX, q2]
      rw [hlay] at hspl
      have HS := Lib.hid hspl
      have HF := Lib.hid FR
      have HBK := Lib.hid hblk
      have hz64 : 64 ≤ 64 + tl.size := by omega
      clear hga hgb hgx hts hstep FR hcx hXe hspl hlay hblk hLl
      by_cases hq : xa = a
      · have hq1 : ((xa : Int) == (a : Int)) = true := by simp [hq]
        go_wp2
        go_roundw
        case rel =>
          refine ⟨j + 1, by omega, by go_num, HF.out.put _ _ (fun h => by omega), ?_⟩
          rw [World.at_put_same _ _ _ hggl, HBK.out, if_pos hq, ← HS.out]
        case measure => simp [intOf]; omega
      · have hq1 : ((xa : Int) == (a : Int)) = false := by simp; omega
        go_wp2
        go_roundw
        case rel =>
          refine ⟨j + 1, by omega, by go_num, HF.out, ?_⟩
          rw [hgg, HBK.out, if_neg hq]
        case measure => simp [intOf]; omega
    · obtain rfl : j = m.waits.length := by omega
      have hX := HBL.out m.waits.length
      rw [List.take_length] at hgg hX
      go_wp2
      go_ret2
      have hBB : BytesAt wr (.slice (some ⟨g, 0, none⟩) 64 cg) g (blockOf (layW m.kept m.waits) a) := by
        refine ⟨cg, _, 5, by rw [hX], hgg, ?_, ?_⟩
        · rw [Array.size_append, size_ints]; omega
        · rw [hX, Array.extract_append, size_ints, hX, extract_ints]
          simp [List.take_of_length_le, hX]
      exact ⟨_, g, rfl, hBB, FR, hgw⟩
theorem rread_any (D : RefAt w r m fp) (at_ : Int) (hseen : m.seen = layW m.kept m.waits) (hwl : m.waits.length ≤ 1000000) :
    Calls Try.prog 23 #[.pointer (some ⟨r, 0, none⟩), .int .i64 at_] w fun e w' => ∃ v, e = .returned (.tuple #[v, .int .i64 (readM m at_).1]) ∧
      ((v = .slice none 0 0 ∧ (readM m at_).2 = []) ∨ ∃ bb, BytesAt w' v bb (readM m at_).2 ∧ w.heap.size ≤ bb) ∧ Fr [] w w' := by
  cases h : noBlock m at_ with
  | true =>
    refine (rread_arg D at_ h).mono ?_
    rintro e w' ⟨rfl, rfl⟩
    simp only [readM, h, ↓reduceIte]
    exact ⟨_, rfl, .inl ⟨rfl, trivial⟩, Fr.refl _ _⟩
  | false =>
    cases hd : m.dead with
    | true =>
      refine (rread_dead D at_ h hd).mono ?_
      rintro e w' ⟨rfl, rfl⟩
      simp only [readM, h, hd, Bool.false_eq_true, ↓reduceIte]
      exact ⟨_, rfl, .inl ⟨rfl, trivial⟩, Fr.refl _ _⟩
    | false =>
      refine (rread_ok D at_ h hd hseen hwl).mono ?_
      rintro e w' ⟨v, bb, rfl, B, F, hbb⟩
      simp only [readM, h, hd, Bool.false_eq_true, ↓reduceIte]
      exact ⟨v, rfl, .inr ⟨bb, B, hbb⟩, F⟩
end
end Go.Proofs.Ytbjoeihcphcohaa
