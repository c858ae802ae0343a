/- The statements' own helpers: a block of an op; are two slices of bytes alike? -/
import Derived.Test.YtbjoeihcphcohaaDkD
namespace Go.Proofs.Ytbjoeihcphcohaa
open Go.RowKit Go.Dr

def blockB (fill size : Int) : List Int := (List.range (size % 80).toNat).map fun i : Nat => (fill + (i : Int)) % 256
theorem length_blockB (fill size : Int) : (blockB fill size).length = (size % 80).toNat := by simp [blockB]
theorem fill_set (n k : Nat) (f : Nat → Int) (h : k < n) : ((List.range k).map f ++ zs (n - k)).set k (f k) = (List.range (k + 1)).map f ++ zs (n - (k + 1)) := by
  rw [List.set_append_right _ _ (by simp)]
  simp only [List.length_map, List.length_range, Nat.sub_self]
  rw [show n - k = (n - (k + 1)) + 1 from by omega]
  simp [zs, List.replicate_succ, List.range_succ]

section
variable {w : World}
set_option maxHeartbeats 1000000 in
theorem block_any (kd at_ fill size : Int) (h0 : 0 ≤ size) (h1 : size ≤ 255) (g0 : 0 ≤ fill) (g1 : fill ≤ 255) :
    Calls Try.prog 11 #[.agg #[.int .u8 kd, .int .i64 at_, .int .u8 fill, .int .u8 size]] w fun e w' => ∃ v bb, e = .returned v ∧ BytesAt w' v bb (blockB fill size) ∧ Fr [] w w' ∧ w.heap.size ≤ bb := by
  obtain ⟨n, hn, hn80⟩ : ∃ n : Nat, size % 80 = (n : Int) ∧ n < 80 := ⟨(size % 80).toNat, by omega, by omega⟩
  have hm0 : (0 : Int) ≤ size % 80 := by omega
  have hm1 : (n : Int) ≤ 1099511627776 := by omega
  have hB : blockB fill size = (List.range n).map fun i : Nat => (fill + (i : Int)) % 256 := by simp [blockB, hn]
  rw [hB]
  clear hB
  go_enter Try.func11, Try.ntmps11
  go_wp2
  go_loopw [4] (fun i wr => ∃ k : Nat, k ≤ n ∧ i = .int .i64 k ∧ Fr [w.heap.size + 1] (w.alloc (.cells #[.int .u8 kd, .int .i64 at_, .int .u8 fill, .int .u8 size] 28)) wr ∧ w.heap.size + 1 < wr.heap.size ∧
    wr.blk (w.heap.size + 1) = some (.cells (ints .u8 ((List.range k).map (fun i : Nat => (fill + (i : Int)) % 256) ++ zs (n - k))) 5 (0, 0))) (fun i _ => n - (intOf i).toNat)
  case atStart => exact ⟨0, Nat.zero_le _, rfl, (Fr.refl _ _).alloc _, by simp, by go_simp⟩
  case round =>
    obtain ⟨k, hk', rfl, FR, hsz, hkr⟩ := hrel
    have hbx := FR.get (b := w.heap.size) (World.at_alloc_new _ _ _ rfl) (by simp)
    have hbl := World.at_lt hbx
    have HF := Lib.hid FR
    clear FR
    by_cases hlt : k < n
    · have hset := fill_set n k (fun i : Nat => (fill + (i : Int)) % 256) hlt
      have HS := Lib.hid hset
      have hlen : k < ((List.range k).map (fun i : Nat => (fill + (i : Int)) % 256) ++ zs (n - k)).length := by simp [length_zs]; omega
      clear hset
      go_wp2
      have he : List.map (fun i : Nat => (fill + (i : Int)) % 256) (List.range k) ++ (zs (n - k)).set 0 ((fill + (k : Int)) % 256) = List.map (fun i : Nat => (fill + (i : Int)) % 256) (List.range (k + 1)) ++ zs (n - (k + 1)) := by
        rw [← HS.out, List.set_append_right _ _ (by simp)]
        simp
      refine ⟨⟨k + 1, by omega, by go_num, HF.out.put _ _ (fun _ => by simp), by simpa using hsz, ?_⟩, by simp [intOf]; omega⟩
      rw [World.at_put_same _ _ _ hsz, he]
    · obtain rfl : k = n := by omega
      go_wp2
      go_ret
      refine ⟨_, w.heap.size + 1, rfl, ⟨k, _, 5, ?_, hkr, ?_, ?_⟩, ⟨HF.out.os, HF.out.tape, HF.out.output, ?_, fun b hb _ => ?_⟩, by omega⟩
      · simp
      · rw [size_ints]; simp
      · rw [extract_ints]; simp [zs, List.take_of_length_le]
      · have := HF.out.size; simp at this; omega
      · rw [HF.out.at_ b (by simp; omega) (by simp; omega), World.at_alloc_lt _ _ _ hb]
end

/-! ### Bytes -/
def Byt (l : List Int) : Prop := ∀ x ∈ l, 0 ≤ x ∧ x < 256
def str (l : List Int) : ByteArray := ⟨(l.map fun n => UInt8.ofNat n.toNat).toArray⟩
theorem fold_str (l : List Int) : l.foldl (fun (r : ByteArray) n => r.push (UInt8.ofNat n.toNat)) ByteArray.empty = str l := by
  have h : ∀ (l : List Int) (pre : List UInt8), l.foldl (fun (r : ByteArray) n => r.push (UInt8.ofNat n.toNat)) ⟨pre.toArray⟩ = ⟨(pre ++ l.map fun n => UInt8.ofNat n.toNat).toArray⟩ := by
    intro l
    induction l with
    | nil => intro pre; simp
    | cons x r ih =>
      intro pre
      have := ih (pre ++ [UInt8.ofNat x.toNat])
      rw [List.foldl_cons, show ByteArray.push ⟨pre.toArray⟩ (UInt8.ofNat x.toNat) = ⟨(pre ++ [UInt8.ofNat x.toNat]).toArray⟩ from by simp [ByteArray.push], this]
      simp
  exact h l []
theorem str_toList (l : List Int) : (str l).toList = l.map fun n => UInt8.ofNat n.toNat := by
  rw [ByteArray.toList_eq]; simp [str]
theorem str_eq {a b : List Int} (ha : Byt a) (hb : Byt b) : ((str a).toList == (str b).toList) = (a == b) := by
  rw [Bool.eq_iff_iff]
  simp only [beq_iff_eq, str_toList]
  constructor
  · intro h
    have hl : a.length = b.length := by have := congrArg List.length h; simpa using this
    apply List.ext_getElem hl
    intro i h1 h2
    have := congrArg (fun l => l[i]?) h
    simp only [List.getElem?_map, List.getElem?_eq_getElem h1, List.getElem?_eq_getElem h2, Option.map_some, Option.some.injEq] at this
    have e := congrArg UInt8.toNat this
    obtain ⟨p1, p2⟩ := ha _ (List.getElem_mem h1)
    obtain ⟨q1, q2⟩ := hb _ (List.getElem_mem h2)
    simp only [UInt8.toNat_ofNat'] at e
    omega
  · intro h; rw [h]
/-- A slice of bytes: one that reads so, or nil. -/
def BytesV (w : World) (v : Value) (l : List Int) : Prop := (v = .slice none 0 0 ∧ l = []) ∨ ∃ bb, BytesAt w v bb l
theorem conv_str {w : World} {v : Value} {l : List Int} (B : BytesV w v l) : (convert 31 9 v).run Try.prog w = .ok (.string (str l)) w := by
  rcases B with ⟨rfl, rfl⟩ | ⟨bb, cap, cur, T, rfl, hb, hle, hx⟩
  · rw [run_convert_bytes_string w 31 9 5 none 0 0 Try.underlying31 Try.underlying5 Try.underlying9]
    rfl
  · rw [run_convert_bytes_string w 31 9 5 _ _ _ Try.underlying31 Try.underlying5 Try.underlying9, run_bytesToString w ⟨bb, 0, none⟩ l.length cap l, fold_str]
    rw [run_loadCells_at w bb 0 l.length (by simp [World.fits, hb, hle])]
    simp [World.cellsAt, hb, hx, ints]
theorem bytes_any {w : World} {va vb : Value} {a b : List Int} (A : BytesV w va a) (B : BytesV w vb b) (ha : Byt a) (hb : Byt b) :
    Calls Try.prog 16 #[va, vb] w fun e w' => e = .returned (.bool (a == b)) ∧ w = w' := by
  have h1 := conv_str A
  have h2 := conv_str B
  have he := str_eq ha hb
  go_enter Try.func16, Try.ntmps16
  go_wp2
  go_ret
  exact ⟨rfl, rfl⟩
end Go.Proofs.Ytbjoeihcphcohaa
