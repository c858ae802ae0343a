/- The calls of the disk in one form each; the document's example. -/
import Derived.Test.YtbjoeihcphcohaaDkE
import Derived.Deep.DeepCutAuto
namespace Go.Proofs.Ytbjoeihcphcohaa
open Go.RowKit Go.Dr

theorem calls_at {P : Program} {f : FuncId} {args : Array Value} {w : World} {R : Ending → World → Prop} (h : ∀ x, x = w → Calls P f args x R) : Calls P f args w R := h w rfl

def newM (b : Int) : DM := ⟨(max 1 (min b 4096)).toNat, zs (64 * (max 1 (min b 4096)).toNat), zs (64 * (max 1 (min b 4096)).toNat), [], -1, false⟩
def syncM (m : DM) : Int × DM := if livesM m then (0, { aliveM m with kept := layW m.kept m.waits, waits := [] }) else (150, aliveM m)
def readM (m : DM) (at_ : Int) : Int × List Int := if noBlock m at_ then (1, []) else if m.dead then (150, []) else (0, blockOf m.seen at_.toNat)
def fuseM (m : DM) (n : Int) : DM := { m with fuse := max n (-1) }
/-- All that the list names is named by the other, or is new. -/
def News (w : World) (fp fp' : List Nat) : Prop := ∀ k ∈ fp', k ∈ fp ∨ w.heap.size ≤ k

section
variable {w : World} {d : Nat} {m : DM} {fp : List Nat}
theorem new_m (b : Int) (w : World) : Calls Try.prog 8 #[.int .i64 b] w fun e w' => ∃ d fp, e = .returned (.pointer (some ⟨d, 0, none⟩)) ∧ DiskAt w' d (newM b) fp ∧ Fr [] w w' ∧ News w [] fp :=
  (new_any b w).mono fun e w' ⟨d, fp, h1, h2, h3, h4⟩ => ⟨d, fp, h1, h2, h3, fun k hk => .inr (h4 k hk)⟩
theorem write_any (D : DiskAt w d m fp) (at_ : Int) (bv : Value) (bb : Nat) (b : List Int) (B : BytesAt w bv bb b) (hbf : bb ∉ fp) (hb : b.length ≤ 1099511627776) (hwl : m.waits.length ≤ 1000000) :
    Calls Try.prog 10 #[.pointer (some ⟨d, 0, none⟩), .int .i64 at_, bv] w fun e w' => e = .returned (.int .i64 (writeM m at_ b).1) ∧ ∃ fp', DiskAt w' d (writeM m at_ b).2 fp' ∧ Fr fp w w' ∧ News w fp fp' := by
  cases h : argM m at_ b with
  | true =>
    refine (write_arg D at_ bv bb b B hb h).mono ?_
    rintro e w' ⟨rfl, rfl⟩
    simp only [writeM, h, ↓reduceIte]
    exact ⟨trivial, fp, D, Fr.refl _ _, fun k hk => .inl hk⟩
  | false =>
    cases hl : livesM m with
    | false =>
      refine (write_dead D at_ bv bb b B h hl).mono ?_
      rintro e w' ⟨rfl, D', F⟩
      simp only [writeM, h, hl, Bool.false_eq_true, ↓reduceIte]
      exact ⟨trivial, fp, D', F, fun k hk => .inl hk⟩
    | true =>
      refine (write_ok D at_ bv bb b B hbf hwl h hl).mono ?_
      rintro e w' ⟨rfl, fp', D', F, N⟩
      simp only [writeM, h, hl, Bool.false_eq_true, ↓reduceIte]
      exact ⟨trivial, fp', D', F, N⟩
theorem sync_any (D : DiskAt w d m fp) (hwl : m.waits.length ≤ 1000000) :
    Calls Try.prog 12 #[.pointer (some ⟨d, 0, none⟩)] w fun e w' => e = .returned (.int .i64 (syncM m).1) ∧ ∃ fp', DiskAt w' d (syncM m).2 fp' ∧ Fr fp w w' ∧ News w fp fp' := by
  cases hl : livesM m with
  | false =>
    refine (sync_dead D hl).mono ?_
    rintro e w' ⟨rfl, D', F⟩
    simp only [syncM, hl, Bool.false_eq_true, ↓reduceIte]
    exact ⟨trivial, fp, D', F, fun k hk => .inl hk⟩
  | true =>
    refine (sync_ok D hl hwl).mono ?_
    rintro e w' ⟨rfl, fp', D', F, N⟩
    simp only [syncM, hl, ↓reduceIte]
    exact ⟨trivial, fp', D', F, N⟩
theorem read_any (D : DiskAt w d m fp) (at_ : Int) :
    Calls Try.prog 14 #[.pointer (some ⟨d, 0, none⟩), .int .i64 at_] w fun e w' => ∃ v, e = .returned (.tuple #[v, .int .i64 (readM m at_).1]) ∧
      ((v = .slice none 0 0 ∧ (readM m at_).2 = []) ∨ ∃ bb, BytesAt w' v bb (readM m at_).2 ∧ w.heap.size ≤ bb) ∧ Fr [] w w' := by
  cases h : noBlock m at_ with
  | true =>
    refine (read_arg D at_ h).mono ?_
    rintro e w' ⟨rfl, rfl⟩
    simp only [readM, h, ↓reduceIte]
    exact ⟨_, rfl, .inl ⟨rfl, trivial⟩, Fr.refl _ _⟩
  | false =>
    cases hd : m.dead with
    | true =>
      refine (read_dead D at_ h hd).mono ?_
      rintro e w' ⟨rfl, rfl⟩
      simp only [readM, h, hd, Bool.false_eq_true, ↓reduceIte]
      exact ⟨_, rfl, .inl ⟨rfl, trivial⟩, Fr.refl _ _⟩
    | false =>
      refine (read_ok D at_ h hd).mono ?_
      rintro e w' ⟨v, bb, rfl, B, F, hbb⟩
      simp only [readM, h, hd, Bool.false_eq_true, ↓reduceIte]
      exact ⟨v, rfl, .inr ⟨bb, B, hbb⟩, F⟩
end

theorem BytesAt.frame {w w' : World} {v : Value} {bb : Nat} {l : List Int} (B : BytesAt w v bb l) {gp : List Nat} (F : Fr gp w w') (h : bb ∉ gp) : BytesAt w' v bb l := by
  obtain ⟨cap, cur, T, h1, h2, h3, h4⟩ := B
  exact ⟨cap, cur, T, h1, F.get h2 h, h3, h4⟩
theorem BytesAt.lt {w : World} {v : Value} {bb : Nat} {l : List Int} (B : BytesAt w v bb l) : bb < w.heap.size := by
  obtain ⟨cap, cur, T, h1, h2, h3, h4⟩ := B
  exact World.at_lt h2
theorem BytesAt.get {w : World} {v : Value} {bb : Nat} {l : List Int} (B : BytesAt w v bb l) (n : Nat) (hn : l.length = n) :
    ∃ cap cur T, v = .slice (some ⟨bb, 0, none⟩) n cap ∧ w.blk bb = some (.cells cur T (0, 0)) ∧ ∀ i, i < n → cur[i]? = some (.int .u8 (l.getD i 0)) := by
  obtain ⟨cap, cur, T, h1, h2, h3, h4⟩ := B
  subst hn
  refine ⟨cap, cur, T, h1, h2, fun i hi => ?_⟩
  have := congrArg (fun a => a[i]?) h4
  simp only [getElem?_ints _ _ _ hi] at this
  rw [Array.getElem?_extract_of_lt (by omega)] at this
  rw [← this, Array.getElem?_eq_getElem (by omega)]
  simp
theorem DiskAt.lt {w : World} {d : Nat} {m : DM} {fp : List Nat} (D : DiskAt w d m fp) : ∀ k ∈ fp, k < w.heap.size := by
  obtain ⟨kb, sb, p, cap, D, rfl, ok⟩ := D
  intro k hk
  simp only [fpOf, List.mem_cons, Option.mem_toList] at hk
  rcases hk with rfl | rfl | rfl | hk
  · exact World.at_lt D.hd
  · exact World.at_lt D.hk
  · exact World.at_lt D.hs
  · exact (D.hw.lt k (by cases p <;> first | exact hk | cases hk)).2
theorem News.notin {w : World} {fp fp' : List Nat} (N : News w fp fp') {b : Nat} (hb : b ∉ fp) (hlt : b < w.heap.size) : b ∉ fp' := fun h => by
  rcases N b h with h | h
  · exact hb h
  · omega
theorem News.trans {w w1 : World} {fp fp' : List Nat} (N : News w [] fp) (N' : News w1 fp fp') (h : w.heap.size ≤ w1.heap.size) : News w [] fp' := fun k hk => by
  rcases N' k hk with h' | h'
  · exact N k h'
  · right; omega
/-- What turned is all new. -/
theorem News.fr {w w1 w2 : World} {fp : List Nat} (N : News w [] fp) (F : Fr [] w w1) (F' : Fr fp w1 w2) : Fr [] w w2 := F.seq F' (fun k hk hlt => by
  rcases N k hk with h | h
  · cases h
  · omega)
/-- A slice of bytes in a row that is known whole. -/
theorem BytesAt.whole {w : World} {bb n : Nat} {l : List Int} {T : TypeId} (h : w.blk bb = some (.cells (ints .u8 l) T (0, 0))) (hn : l.length = n) (cap : Nat) : BytesAt w (.slice (some ⟨bb, 0, none⟩) n cap) bb l := by
  subst hn
  refine ⟨cap, _, T, rfl, h, by rw [size_ints]; exact Nat.le_refl _, ?_⟩
  rw [extract_ints, List.drop_zero, List.take_length]

/-! ### The document's example -/
def exA : List Int := 1 :: zs 63
def exB : List Int := 2 :: zs 63
def ex1 : DM := (writeM (newM 2) 0 exA).2
def ex2 : DM := (writeM ex1 1 exB).2
def ex3 : DM := crashM ex2 1
def ex4 : DM := fuseM ex3 1
def ex5 : DM := (writeM ex4 0 exB).2
theorem ex_facts : (writeM (newM 2) 0 exA).1 = 0 ∧ (writeM ex1 1 exB).1 = 0 ∧ (readM ex3 0) = (0, exA) ∧ readM ex3 1 = (0, zs 64) ∧ (writeM ex4 0 exB).1 = 0 ∧ (syncM ex5).1 = 150 ∧ (syncM ex5).2.dead = true := by
  decide +kernel

set_option maxRecDepth 100000 in
set_option maxHeartbeats 2000000 in
theorem alive_law (w : World) : Calls Try.prog 7 #[] w fun e w' => e = .returned (.bool true) ∧ Fr [] w w' := by
  obtain ⟨f1, f2, f3, f4, f5, f6, f7⟩ := ex_facts
  have G := Lib.hid (And.intro f1 (And.intro f2 (And.intro f3 (And.intro f4 (And.intro f5 (And.intro f6 f7))))))
  clear f1 f2 f3 f4 f5 f6 f7
  go_enter Try.func7, Try.ntmps7
  go_wp2_with fail
  refine (new_m 2 w).mono ?_
  rintro e w1 ⟨d, fp, rfl, D, F, N⟩
  have HD := Lib.hid D
  have HN := Lib.hid N
  have HF := Lib.hid F
  clear D N F
  go_wp2
  go_cut [2, 3] (fun va vb w' => ∃ A B : Nat, va = .slice (some ⟨A, 0, none⟩) 64 64 ∧ vb = .slice (some ⟨B, 0, none⟩) 64 64 ∧ Fr [] w w' ∧ Fr [] w1 w' ∧ w'.blk A = some (.cells (ints .u8 (zs 64)) 5 (0, 0)) ∧ w'.blk B = some (.cells (ints .u8 (zs 64)) 5 (0, 0)) ∧ w1.heap.size ≤ A ∧ w1.heap.size ≤ B ∧ A ≠ B)
  case first =>
    refine drawn_begin 4 (fun _ => True) (by kernel_rfl) ?_
    refine drawn_next2 0 1 (fuel := 3) rfl rfl (by kernel_rfl) ?_ ?_
    · intro K hK
      go_wp2
      refine ⟨trivial, ?_⟩
      refine drawn_reads (fuel := 2) [2] rfl (by kernel_rfl) trivial ?_
      repeat (refine rowK_step rfl (fun K hK => ?_); go_simp; refine hK _ ?_; clear hK K)
      refine rowK_nil ⟨fun w' _ => ?_, ?_⟩
      · repeat (refine rowWp_step rfl (fun K hK => ?_); go_simp; refine hK _ ?_; clear hK K)
        exact rowWp_nil rfl
      refine drawn_next 1 (fuel := 1) rfl (by kernel_rfl) ?_
      intro K hK
      go_wp2
      refine ⟨trivial, ?_⟩
      refine drawn_reads (fuel := 0) [3] rfl (by kernel_rfl) trivial ?_
      repeat (refine rowK_step rfl (fun K hK => ?_); go_simp; refine hK _ ?_; clear hK K)
      refine rowK_nil ⟨fun w' _ => ?_, ?_⟩
      · repeat (refine rowWp_step rfl (fun K hK => ?_); go_simp; refine hK _ ?_; clear hK K)
        exact rowWp_nil rfl
      refine drawn_end (ol := []) rfl (by kernel_rfl) ?_
      intro K hK
      go_wp2
      go_meet
      case rel => exact ⟨w1.heap.size, w1.heap.size + 1, rfl, rfl, (((HF.out).alloc _).alloc _).drew, (((Fr.refl _ _).alloc _).alloc _).drew, by go_simp, by go_simp, by omega, by omega, by omega⟩
    · intro K hK
      go_wp2
      refine ⟨trivial, ?_⟩
      refine drawn_next 0 (fuel := 2) rfl (by kernel_rfl) ?_
      intro K hK
      go_wp2
      refine ⟨trivial, ?_⟩
      refine drawn_reads (fuel := 0) [2, 3] rfl (by kernel_rfl) trivial ?_
      repeat (refine rowK_step rfl (fun K hK => ?_); go_simp; refine hK _ ?_; clear hK K)
      refine rowK_nil ⟨fun w' _ => ?_, ?_⟩
      · repeat (refine rowWp_step rfl (fun K hK => ?_); go_simp; refine hK _ ?_; clear hK K)
        exact rowWp_nil rfl
      refine drawn_end (ol := []) rfl (by kernel_rfl) ?_
      intro K hK
      go_wp2
      go_meet
      case rel => exact ⟨w1.heap.size + 1, w1.heap.size, rfl, rfl, (((HF.out).alloc _).alloc _).drew, (((Fr.refl _ _).alloc _).alloc _).drew, by go_simp, by go_simp, by omega, by omega, by omega⟩
  case rest =>
    obtain ⟨A, B, rfl, rfl, HF2, F12, hA, hB, gA, gB, nAB⟩ := hcut
    have lA := World.at_lt hA
    have lB := World.at_lt hB
    have nA : A ∉ fp := fun h => by have := HD.out.lt _ h; omega
    have nB : B ∉ fp := fun h => by have := HD.out.lt _ h; omega
    have sz := HF.out.size
    have sA : w.heap.size ≤ A := by omega
    have sB : w.heap.size ≤ B := by omega
    have D2 := HD.out.frame F12 (fun _ _ h => by cases h)
    have H2 := Lib.hid HF2
    have HD2 := Lib.hid D2
    have nAB' : B ≠ A := fun e => nAB e.symm
    clear HF2 F12 D2 sz gA gB
    go_wp2_with fail
    refine calls_at ?_
    intro w2 hw2
    have D3 : DiskAt w2 d (newM 2) fp := HD2.out.frame (gp := [A, B]) (by rw [hw2]; exact ((Fr.refl _ _).put _ _ (by simp)).put _ _ (by simp)) (fun k hk h => by
      simp only [List.mem_cons, List.not_mem_nil, or_false] at h
      rcases h with rfl | rfl
      · exact nA hk
      · exact nB hk)
    have F2 : Fr [] w w2 := by rw [hw2]; exact ((H2.out.put _ _ (fun h => by omega)).put _ _ (fun h => by omega))
    have bA : w2.blk A = some (.cells (ints .u8 exA) 5 (0, 0)) := by rw [hw2]; go_simp; rfl
    have bB : w2.blk B = some (.cells (ints .u8 exB) 5 (0, 0)) := by rw [hw2]; go_simp; rfl
    clear hw2 hA hB lA lB
    have BA := BytesAt.whole (n := 64) bA (by decide) 64
    have BB := BytesAt.whole (n := 64) bB (by decide) 64
    refine (write_any D3 0 _ A exA BA nA (by decide) (by decide)).mono ?_
    rintro e w3 ⟨he, fp3, D3, F3, N3⟩
    rw [G.out.1] at he
    subst he
    have BB3 := BB.frame F3 nB
    have nB3 := N3.notin nB BB.lt
    have G3 := HN.out.fr F2 F3
    have M3 := HN.out.trans N3 F2.size
    clear F2 F3 N3 BB BA
    have D3' : DiskAt w3 d ex1 fp3 := D3
    go_wp2_with fail
    refine (write_any D3' 1 _ B exB BB3 nB3 (by decide) (by decide)).mono ?_
    rintro e w4 ⟨he, fp4, D4, F4, N4⟩
    rw [G.out.2.1] at he
    subst he
    have BB4 := BB3.frame F4 nB3
    have nB4 := N4.notin nB3 BB3.lt
    have G4 := M3.fr G3 F4
    have M4 := M3.trans N4 G3.size
    clear BB3 nB3 F4 N4 G3 M3 D3'
    go_wp2_with fail
    refine (crash_any (m := ex2) D4 1 (by decide)).mono ?_
    rintro e w5 ⟨rfl, fp5, D5, F5, N5⟩
    have BB5 := BB4.frame F5 nB4
    have nB5 := News.notin N5 nB4 BB4.lt
    have G5 := M4.fr G4 F5
    have M5 := M4.trans N5 G4.size
    clear BB4 nB4 F5 N5 G4 M4 D4
    go_wp2_with fail
    refine (read_any (m := ex3) D5 0).mono ?_
    rintro e w6 ⟨v6, he, hv6, F6⟩
    rw [G.out.2.2.1] at he hv6
    subst he
    rcases hv6 with ⟨_, h0⟩ | ⟨b6, B6, s6⟩
    · exact absurd h0 (by decide)
    obtain ⟨c6, cur6, T6, rfl, hb6, hx6⟩ := B6.get 64 (by decide)
    have n6 : b6 ∉ fp5 := fun h => by have := D5.lt _ h; omega
    have D6 := D5.frame F6 (fun _ _ h => by cases h)
    have BB6 := BB5.frame F6 (by simp)
    have G6 := M5.fr G5 (F6.mono (fun _ h => by cases h))
    clear B6 D5 BB5 F6 G5
    go_wp2_with fail
    refine (read_any (m := ex3) D6 1).mono ?_
    rintro e w7 ⟨v7, he, hv7, F7⟩
    rw [G.out.2.2.2.1] at he hv7
    subst he
    rcases hv7 with ⟨_, h0⟩ | ⟨b7, B7, s7⟩
    · exact absurd h0 (by decide)
    obtain ⟨c7, cur7, T7, rfl, hb7, hx7⟩ := B7.get 64 (by decide)
    have n7 : b7 ∉ fp5 := fun h => by have := D6.lt _ h; omega
    have hb6' := F7.get hb6 (by simp)
    have D7 := D6.frame F7 (fun _ _ h => by cases h)
    have BB7 := BB6.frame F7 (by simp)
    have G7 := M5.fr G6 (F7.mono (fun _ h => by cases h))
    clear B7 D6 BB6 F7 G6 hb6
    have h6 : cur6[0]? = some (.int .u8 1) := (hx6 0 (by decide)).trans rfl
    have h7 : cur7[0]? = some (.int .u8 0) := (hx7 0 (by decide)).trans rfl
    clear hx6 hx7
    go_wp2_with fail
    refine (fuse_any (m := ex3) D7 1 (by decide)).mono ?_
    rintro e w8 ⟨rfl, D8, F8⟩
    have BB8 := BB7.frame F8 nB5
    have hb68 := F8.get hb6' n6
    have hb78 := F8.get hb7 n7
    have G8 := M5.fr G7 F8
    have D8' : DiskAt w8 d ex4 fp5 := D8
    clear BB7 F8 G7 D8 hb6' hb7 D7 n6 n7
    go_wp2_with fail
    refine (write_any (m := ex4) D8' 0 _ B exB BB8 nB5 (by decide) (by decide)).mono ?_
    rintro e w9 ⟨he, fp9, D9, F9, N9⟩
    rw [G.out.2.2.2.2.1] at he
    subst he
    have G9 := M5.fr G8 F9
    have M9 := M5.trans N9 G8.size
    clear F9 N9 G8 D8' hb68 hb78
    go_wp2_with fail
    refine (sync_any (m := ex5) D9 (by decide)).mono ?_
    rintro e w10 ⟨he, fp10, D10, F10, N10⟩
    rw [G.out.2.2.2.2.2.1] at he
    subst he
    have G10 := M9.fr G9 F10
    clear F10 N10 G9 M9 D9
    go_wp2_with fail
    refine (dead_any D10).mono ?_
    rintro e w11 ⟨he, rfl⟩
    rw [G.out.2.2.2.2.2.2] at he
    subst he
    go_wp2
    go_ret
    exact ⟨rfl, G10⟩
end Go.Proofs.Ytbjoeihcphcohaa
