/- Joined: SoN, SoU, SoZc, DkL. -/
import Derived.Test.YtombhkekocbfoaaZk
import Derived.Test.YtombhkekocbfoaaZg
import Derived.Sort.KeysCollected
import Derived.Maps.OwnSet
import Derived.Sort.Walk0
import Derived.Test.YtombhkekocbfoaaZh
import Derived.Test.YtombhkekocbfoaaZj
set_option linter.unusedVariables false
set_option linter.unusedSimpArgs false
namespace Go.St
open Go.Kd Go.Dr
def u8 (l : Bs) : List UInt8 := l.map fun n => UInt8.ofNat n.toNat
theorem u8_lt : ∀ {a b : Bs}, Byt a → Byt b → (u8 a < u8 b ↔ a < b) := by
  intro a
  induction a with
  | nil => intro b _ _; cases b <;> simp [u8]
  | cons x a ih =>
    intro b ha hb
    cases b with
    | nil => simp [u8]
    | cons y b =>
      have hx := ha x (by simp)
      have hy := hb y (by simp)
      have h1 : u8 (x :: a) = UInt8.ofNat x.toNat :: u8 a := rfl
      have h2 : u8 (y :: b) = UInt8.ofNat y.toNat :: u8 b := rfl
      have h3 : UInt8.ofNat x.toNat < UInt8.ofNat y.toNat ↔ x < y := by
        rw [UInt8.lt_iff_toNat_lt, UInt8.toNat_ofNat', UInt8.toNat_ofNat', Nat.mod_eq_of_lt (by omega), Nat.mod_eq_of_lt (by omega)]; omega
      have h4 : UInt8.ofNat x.toNat = UInt8.ofNat y.toNat ↔ x = y := by
        rw [← UInt8.toNat_inj, UInt8.toNat_ofNat', UInt8.toNat_ofNat', Nat.mod_eq_of_lt (by omega), Nat.mod_eq_of_lt (by omega)]; omega
      rw [h1, h2, List.cons_lt_cons_iff, List.cons_lt_cons_iff, ih (fun z hz => ha z (by simp [hz])) (fun z hz => hb z (by simp [hz])), h3, h4]
theorem keys_sorted {L : List (Bs × Bs)} {ss : List (List UInt8)} (h : ss.Perm (L.map fun x => u8 x.1)) (hs : Sorted L) (hb : ∀ x ∈ L, Byt x.1) : ss.mergeSort (fun x y => decide (x ≤ y)) = L.map fun x => u8 x.1 := by
  have h1 := mergeSort_of_perm h
  refine Eq.trans h1 (List.mergeSort_of_pairwise ?_)
  refine List.pairwise_map.2 (hs.imp_of_mem fun {x y} hx hy hlt => ?_)
  have := (u8_lt (hb x hx) (hb y hy)).2 hlt
  simp only [leB, decide_eq_true_eq]
  exact List.le_of_lt this
theorem u8_str (l : Bs) : Go.Proofs.encStr (u8 l) = .string (strB l) := rfl
end Go.St
namespace Go
open Go.WideElems (rd rg Fit)
open Go.Dr
def anyR (v : Value) : Option (DataW Unit × List MemPlace) := some (.lit (.bool true), [])
def keyL (kvs : List (ByteArray × Value)) : List (Lit × DataW Unit) := kvs.map fun p => (Lit.string p.1.data.toList, .lit (.bool true))
def ownD (kvs : List (ByteArray × Value)) : DataW Unit := .map ((keyL kvs).foldr DataW.insert [])
theorem map_pair {α β γ δ : Type} {f : α → β × γ} {l : List α} {m : List δ} {g : δ → β × γ} (h : l.map f = m.map g) {φ : α → Lit × DataW Unit} {ψ : δ → Lit × DataW Unit} (k : ∀ x ∈ l, ∀ y ∈ m, f x = g y → φ x = ψ y) : l.map φ = m.map ψ := by
  induction l generalizing m with
  | nil => cases m with
    | nil => rfl
    | cons y m => cases h
  | cons x l ih => cases m with
    | nil => cases h
    | cons y m =>
      simp only [List.map_cons, List.cons.injEq] at h ⊢
      exact ⟨k x (by simp) y (by simp) h.1, ih h.2 fun a ha b hb => k a (by simp [ha]) b (by simp [hb])⟩
theorem MapT.owns {P : Program} {kt : TypeId} {w : World} {b : Nat} {kvs : List (ByteArray × Value)} (h : MapT w b kvs) (hk : P.underlying kt = some .string) (hnd : (kvs.map (·.1)).Nodup) (hn : kvs.length ≤ maxLen) (hsz : ∀ p ∈ kvs, p.1.size ≤ maxLen) :
    w.ownsMap P kt anyR b kvs.length (ownD kvs) := by
  obtain ⟨es, clock, hb, he, hs1, hs2⟩ := h.ex
  have hlen : es.size = kvs.length := by
    have := congrArg List.length he
    simpa using this
  have hkey : ∀ x ∈ es.toList, ∀ y ∈ kvs, (x.key, x.val) = (Value.string y.1, y.2) → rd P kt anyR x = some (Lit.string y.1.data.toList, .lit (.bool true)) := by
    intro x hx y hy e
    have e1 : x.key = Value.string y.1 := congrArg Prod.fst e
    unfold rd
    rw [e1, Go.WideMaps.keyOf_string_mk hk (hsz y hy)]
    rfl
  have hex : ∀ x ∈ es.toList, ∃ y ∈ kvs, (x.key, x.val) = (Value.string y.1, y.2) := by
    intro x hx
    have : (x.key, x.val) ∈ es.toList.map (fun e => (e.key, e.val)) := List.mem_map.2 ⟨x, hx, rfl⟩
    rw [he] at this
    obtain ⟨y, hy, e⟩ := List.mem_map.1 this
    exact ⟨y, hy, e.symm⟩
  refine ⟨es, clock, hb, ⟨by omega, ⟨hs1, hs2, ?_⟩, fun x hx => ?_⟩, by omega, ?_⟩
  · have e1 : es.toList.map (·.key) = (kvs.map (·.1)).map Value.string := by
      have := congrArg (List.map Prod.fst) he
      simpa [Function.comp_def] using this
    rw [e1]
    exact List.pairwise_map.2 (hnd.imp fun h e => h (by cases e; rfl))
  · obtain ⟨y, hy, e⟩ := hex x hx
    exact ⟨_, hkey x hx y hy e⟩
  · unfold ownD keyL
    congr 2
    refine (map_pair he fun x hx y hy e => ?_).symm
    unfold rg
    rw [hkey x hx y hy e]
    rfl
theorem keys_own (kvs : List (ByteArray × Value)) : (strKeys (ownD kvs)).Perm (kvs.map fun p => p.1.data.toList) := by
  have h := (Go.WideShapes.sorted_perm (keyL kvs)).map fun p => strOf p.1
  refine List.Perm.trans h (List.Perm.of_eq ?_)
  unfold keyL
  rw [List.map_map]
  rfl
theorem size_own (kvs : List (ByteArray × Value)) : Maps.size (ownD kvs) = kvs.length := by
  show ((keyL kvs).foldr DataW.insert []).length = _
  rw [DataW.length_sorted]
  simp [keyL]
end Go
namespace Go.Proofs.Ytombhkekocbfoaa
open Go.RowKit Go.Dr Go.Kd Go.St
/-- A slice of bytes that may be written. -/
def WrL (w : World) (q : Option Addr) (n c : Nat) (l : Bs) : Prop := n ≤ c ∧ (n = 0 ∨ ∃ b off cs T, q = some ⟨b, off, none⟩ ∧ w.blk b = some (.cells cs T (0, 0)) ∧ off + n ≤ cs.size ∧ (cs.extract off (off + n)).toList = l.map (Value.int .u8))
theorem WrL.of {w : World} {b n c : Nat} {l : Bs} {r : Array Value} {e : TypeId} (hb : w.blk b = some (.cells (rowR .u8 l r) e (0, 0))) (hn : l.length = n) (hc : n ≤ c) : WrL w (some ⟨b, 0, none⟩) n c l := by
  refine ⟨hc, .inr ⟨b, 0, _, e, rfl, hb, by rw [size_rowR]; omega, ?_⟩⟩
  rw [rowR, Array.toList_extract, List.extract_eq_take_drop, Array.toList_append, toList_ints, List.drop_zero, Nat.zero_add, Nat.sub_zero, List.take_append_of_le_length (by rw [List.length_map]; omega), List.take_of_length_le (by rw [List.length_map]; omega)]
theorem Bld.wr {w0 w : World} {L : List (Nat × Obj)} {e : Nat} {q : Option Addr} {n c : Nat} {l : List Int} (h : Bld w0 L .u8 e w q n c l) : WrL w q n c l := by
  have hl := h.len
  have hc := h.cap_le
  rcases h.row.2 with ⟨hv, h0⟩ | ⟨g, c', cur, hv, _, hg, hnc, hcm, hcs, ht⟩
  · exact ⟨hc.1, .inl h0⟩
  · simp only [Value.slice.injEq] at hv
    obtain ⟨rfl, _, rfl⟩ := hv
    refine ⟨hc.1, .inr ⟨g, 0, cur, e, rfl, hg, by rw [hcs]; omega, ?_⟩⟩
    rw [Array.toList_extract, List.extract_eq_take_drop]
    simpa using ht
theorem WrL.fr {fp : List Nat} {w w' : World} {q : Option Addr} {n c : Nat} {l : Bs} (h : WrL w q n c l) (F : Fr fp w w') (hn : ∀ b, q.map (·.block) = some b → b ∉ fp) : WrL w' q n c l := by
  refine ⟨h.1, ?_⟩
  rcases h.2 with h0 | ⟨b, off, cs, T, rfl, hb, hs, hx⟩
  · exact .inl h0
  · exact .inr ⟨b, off, cs, T, rfl, F.get hb (hn b rfl), hs, hx⟩
theorem Bld.hold {w w' : World} {k : IntKind} {e : Nat} {q : Option Addr} {n c : Nat} {l : List Int} (h : Bld w [] k e w' q n c l) : ∃ M, OwB w M w' ∧ (∀ W, Has M W → Sl k W q n c l ∧ (k = .u8 → WrL W q n c l)) ∧ ∀ a, q = some a → w.heap.size ≤ a.block := by
  have hl := h.len
  have hc := h.cap_le
  cases q with
  | none =>
    have hn : n = 0 ∧ c = 0 := by
      rcases h.row.2 with ⟨hv, h0⟩ | ⟨g, c, cur, hv, _⟩
      · simp only [Value.slice.injEq] at hv
        omega
      · cases hv
    obtain ⟨rfl, rfl⟩ := hn
    exact ⟨[], h.own, fun W _ => ⟨⟨hl, Nat.le_refl 0, .inl rfl, fun _ => rfl, by simp⟩, fun _ => ⟨Nat.le_refl 0, .inl rfl⟩⟩, by simp⟩
  | some a =>
    have ha : ∃ b, a = ⟨b, 0, none⟩ := by
      rcases h.row.2 with ⟨hv, h0⟩ | ⟨g, c, cur, hv, _⟩
      · cases hv
      · simp only [Value.slice.injEq, Option.some.injEq] at hv
        exact ⟨g, hv.1⟩
    obtain ⟨b, rfl⟩ := ha
    obtain ⟨r, O, hcr⟩ := h.room
    refine ⟨_, O, fun W hW => ?_, fun a ha => by cases ha; exact (h.new b rfl).1⟩
    have h2 := Sl.ofRow (o := 0) (n := n) (cap := c) (hW.nth 0 rfl) (by omega) hc.1
    rw [List.drop_zero, List.take_of_length_le (by omega)] at h2
    refine ⟨h2, fun hk => ?_⟩
    subst hk
    exact WrL.of (hW.nth 0 rfl) hl hc.1
/-- What lies in slices is new. -/
def Nw (lo : Nat) (us : List Value) : Prop := ∀ u ∈ us, ∀ a m d, u = .slice (some a) m d → lo ≤ a.block
/-- What lies in slices may be written. -/
def Wv (W : World) (us : List Value) : Prop := ∀ u ∈ us, ∀ q m d, u = .slice q m d → ∃ l, isBytes l ∧ WrL W q m d l
/-- Growing changes, with what they lie in, whose values are new. -/
structure GchN (w0 : World) (X : List (Nat × Obj)) (w : World) (q : Option Addr) (k c : Nat) (l : List Chg) : Prop where
  ex : ∃ (us : List Value) (M : List (Nat × Obj)), BldV w0 (M ++ X) 32 3 w q k c us ∧ (∀ W, Has M W → ChV W us l ∧ Wv W us) ∧ Nw w0.heap.size us
section
variable {w0 w w' : World} {X M : List (Nat × Obj)} {q p : Option Addr} {k c m d : Nat} {l : List Chg}
theorem GchN.nil (h : OwB w0 X w) : GchN w0 X w none 0 0 [] := ⟨[], [], BldV.nil h, (fun _ _ => ⟨.nil, fun u hu => by cases hu⟩), fun u hu => by cases hu⟩
theorem GchN.call (h : GchN w0 X w q k c l) (F : Fr [] w w') : GchN w0 X w' q k c l := by
  obtain ⟨us, M, B, S, N⟩ := h.ex
  exact ⟨us, M, B.call F, S, N⟩
theorem GchN.gch (h : GchN w0 X w q k c l) : Gch w0 X w q k c l := by
  obtain ⟨us, M, B, S, N⟩ := h.ex
  exact ⟨us, M, B, fun W hW => (S W hW).1⟩
theorem GchN.with (h : GchN w0 X w q k c l) (O : OwB w M w') : GchN w0 (M ++ X) w' q k c l := by
  obtain ⟨us, N, B, S, Nn⟩ := h.ex
  exact ⟨us, N, (B.with O).perm' (by rw [← List.append_assoc, ← List.append_assoc]; exact List.Perm.append_right _ List.perm_append_comm), S, Nn⟩
theorem GchN.keep (h : GchN w0 (M ++ X) w q k c l) : ∃ us N, BldV w0 ((N ++ M) ++ X) 32 3 w q k c us ∧ (∀ W, Has (N ++ M) W → (ChV W us l ∧ Wv W us) ∧ Has M W) ∧ Nw w0.heap.size us := by
  obtain ⟨us, N, B, S, Nn⟩ := h.ex
  exact ⟨us, N, by rw [List.append_assoc]; exact B, (fun W hW => ⟨S W hW.of_append.1, hW.of_append.2⟩), Nn⟩
theorem GchN.base {wa : World} (h : GchN w0 X w q k c l) (F : Fr [] wa w0) : GchN wa X w q k c l := by
  obtain ⟨us, M, B, S, N⟩ := h.ex
  exact ⟨us, M, ⟨⟨B.own.has, B.own.nd, fun p hp => Nat.le_trans F.size (B.own.lo p hp), F.trans B.own.fr⟩, B.row, fun g hg => ⟨Nat.le_trans F.size (B.new g hg).1, (B.new g hg).2⟩⟩, S, fun u hu a m d e => Nat.le_trans F.size (N u hu a m d e)⟩
variable {ops : Array Oper} {rest : List Oper} {o : Oper} {a : Act} {Q : Exit → Act → World → Prop}
theorem wpList_app33N (hgd : o.guard = none) (s x : Operand) (ho : o.op = .call { callee := .builtin .append, args := #[s, x], argTypes := #[33, 33] })
    (hs : a.eval s = .slice q k c) {b : Nat} (hx : a.eval x = .slice (some ⟨b, 0, none⟩) 1 1) {fr : Nat × Nat} {y : Chg} (G : GchN w0 (M ++ X) w q k c l) (S : ∀ W, Has M W → Sl .u8 W p m d y.val ∧ WrL W p m d y.val) (hyb : isBytes y.val) (hnew : ∀ a, p = some a → w0.heap.size ≤ a.block) (hb : w.blk b = some (.cells #[.string (strB y.name), .slice p m d, .bool y.gone] 32 fr)) (hbig : k + 1 ≤ 1000000)
    (h : ∀ q' c' w', GchN w0 X w' q' (k + 1) c' (l ++ [y]) → wpList Try.prog ops Q rest (a.put o.dst (.slice q' (k + 1) c')) w') : wpList Try.prog ops Q (o :: rest) a w := by
  obtain ⟨us, N, B, hC, Nn⟩ := G.keep
  obtain ⟨i, hi, hz, hs1, hb1⟩ := info_parts info32
  have Sv3 : Sv 3 w (some ⟨b, 0, none⟩) 1 1 [.string (strB y.name), .slice p m d, .bool y.gone] :=
    ⟨rfl, Nat.le_refl 1, .inr ⟨b, 0, _, 32, fr, rfl, hb, by simp, by simp⟩, (fun h => by cases h), trivial⟩
  refine wpList_apdV hgd s x 33 33 ho Try.underlying33 hi hz hs1 (by omega) hb1 rfl hs B hx (Apd.ofSrc Try.underlying33 hi hz (by rw [hs1]; exact Sv3.src Try.underlying33 (by simp [Value.oneCell']))) (by omega) (by omega) fun q' c' w' B' => h q' c' w' ⟨us ++ [.string (strB y.name), .slice p m d, .bool y.gone], N ++ M, B', (fun W hW => ⟨(hC W hW).1.1.append (.cons (S W (hC W hW).2).1 .nil), fun u hu q' m' d' e => ?_⟩), fun u hu a m' d' e => ?_⟩
  · rcases List.mem_append.1 hu with hu | hu
    · exact (hC W hW).1.2 u hu q' m' d' e
    · subst e
      simp only [List.mem_cons, List.not_mem_nil, or_false] at hu
      rcases hu with h1 | h1 | h1
      · cases h1
      · cases h1; exact ⟨y.val, hyb, (S W (hC W hW).2).2⟩
      · cases h1
  rcases List.mem_append.1 hu with hu | hu
  · exact Nn u hu a m' d' e
  · subst e
    simp only [List.mem_cons, List.not_mem_nil, or_false] at hu
    rcases hu with h1 | h1 | h1
    · cases h1
    · cases h1; exact hnew a rfl
    · cases h1
end
section
variable {w : World}
theorem fr_of_below {w w' : World} {n : Nat} (h : Below n w w') (hn : w.heap.size ≤ n) : Fr [] w w' := ⟨h.os, h.tape, h.output, h.size, fun k hk _ => h.block k (by omega)⟩
theorem names_row {W : World} {base : Nat} {v : Value} {n : Nat} {L : List (Bs × Bs)} (h : W.ownsRow base 9 1 v n (L.map fun x => Value.string (strB x.1))) :
    ∃ q c, v = .slice q L.length c ∧ ∀ (i : Nat) (x : Bs × Bs), L[i]? = some x → ∃ g cur, q = some ⟨g, 0, none⟩ ∧ W.blk g = some (.cells cur 9 (0, 0)) ∧ ∃ h : i < cur.size, cur[i] = Value.string (strB x.1) := by
  obtain ⟨h1, h2⟩ := h
  rw [List.length_map, Nat.mul_one] at h1
  subst h1
  rcases h2 with ⟨rfl, h3⟩ | ⟨g, cap, cur, rfl, _, hg, hnc, _, hcs, ht⟩
  · have : L = [] := List.eq_nil_of_length_eq_zero h3
    subst this
    exact ⟨none, 0, rfl, fun i x hx => by simp at hx⟩
  · refine ⟨_, cap, rfl, fun i x hx => ⟨g, cur, rfl, hg, ?_⟩⟩
    have h4 := congrArg (fun l => l[i]?) ht
    have hi := (List.getElem?_eq_some_iff.1 hx).1
    simp only [List.getElem?_map, hx, Option.map_some] at h4
    rw [Nat.mul_one, List.getElem?_take, if_pos hi, Array.getElem?_toList] at h4
    exact Array.getElem?_eq_some_iff.1 h4
set_option maxRecDepth 100000 in
set_option maxHeartbeats 4000000 in
theorem list_f {mb : Nat} {L : List (Bs × Bs)} {fp : List Nat} (M : MapAt w mb L fp) (hS : Sorted L) (hE : ∀ x ∈ L, EntOk x) (hn : L.length ≤ 64) :
    Calls Try.prog 39 #[.map (some mb)] w fun e w' => ∃ q c, e = .returned (.slice q L.length c) ∧ GchN w [] w' q L.length c (asC L) := by
  have hb : ∀ x ∈ L, Byt x.1 := fun x hx => (hE x hx).nb
  have HM := Lib.hid M
  have HS := Lib.hid hS
  have HE := Lib.hid hE
  have HB := Lib.hid hb
  have hfacts : ∃ kvs : List (ByteArray × Value), w.ownsMap Try.prog 9 anyR mb kvs.length (ownD kvs) ∧ kvs.length = L.length ∧ (strKeys (ownD kvs)).Perm (L.map fun x => u8 x.1) := by
    obtain ⟨-, kvs, g, hm, hr, -⟩ := M
    have hp : (kvs.map (·.1)).Perm (L.map fun x => strB x.1) := by
      have h := hr.perm.map Prod.fst
      rwa [List.map_map] at h
    refine ⟨kvs, hm.owns Try.underlying9 ?_ (by rw [hr.len]; unfold maxLen; omega) ?_, hr.len, (keys_own kvs).trans ?_⟩
    · refine hp.symm.nodup (List.pairwise_map.2 (hS.imp_of_mem fun {x y} hx hy hlt e => ?_))
      have := strB_inj (hb x hx) (hb y hy) e
      rw [this] at hlt
      exact bs_irrefl _ hlt
    · intro p hp2
      have h1 := hp.mem_iff.1 (List.mem_map_of_mem hp2)
      obtain ⟨x, hx, e⟩ := List.mem_map.1 h1
      have h2 := (hE x hx).n2
      rw [← e, strB_size]
      unfold maxLen; omega
    · have h := hp.map fun s : ByteArray => s.data.toList
      rw [List.map_map, List.map_map] at h
      exact h
  obtain ⟨kvs, hown, hkl, hper⟩ := hfacts
  obtain ⟨n, hnl⟩ : ∃ n, n = L.length := ⟨_, rfl⟩
  have HN := Lib.hid hnl
  rw [← hnl] at hn hkl ⊢
  have hsz := size_own kvs
  have HOW := Lib.hid hown
  have HPER := Lib.hid hper
  have HSZ := Lib.hid (hsz.trans hkl)
  clear M hS hE hb hown hper hsz hnl hkl
  go_enter Try.func39, Try.ntmps39
  go_wp2_with fail
  refine (callsIn_wide.1 (Try.maps_Keys_60 (some mb) _)).mono ?_
  rintro e w1 ⟨rfl, rfl⟩
  go_wp2_with fail
  refine (callsIn_wide.1 (Try.slices_Sorted_keys_59_60 mb _ _ anyR w HOW.out (by rw [HSZ.out]; unfold maxLen; omega) (by rw [HSZ.out]; omega))).mono ?_
  rintro e w2 ⟨v, ss, rfl, hperm, hrow, -, hbel⟩
  have F2 : Fr [] w w2 := ((Fr.refl [] w).alloc _).trans (fr_of_below hbel (Nat.le_refl _))
  rw [keys_sorted (hperm.trans HPER.out) HS.out HB.out, List.map_map] at hrow
  obtain ⟨q9, c9, rfl, hrow2⟩ := names_row (L := L) hrow
  have HROW := Lib.hid hrow2
  have HF2 := Lib.hid F2
  have HG0 := Lib.hid (GchN.nil (OwB.start w2))
  have HM2 := Lib.hid (HM.out.fr0 F2)
  rw [← HN.out]
  clear hrow hrow2 hperm hbel F2
  go_wp2_with fail
  go_loopw [3, 10] (fun v iv wy => ∃ (i : Nat) (q : Option Addr) (cp : Nat), i ≤ n ∧ v = .slice q i cp ∧ iv = .int .i64 (i : Int) ∧ Hid (GchN w2 [] wy q i cp (asC (L.take i)))) (fun _ iv _ => (n - intOf iv).toNat)
  case atStart => exact ⟨0, none, 0, by omega, rfl, rfl, HG0⟩
  case round =>
    obtain ⟨i, q, cp, hin, rfl, rfl, hW⟩ := hrel
    by_cases hlt : i < n
    · have hd : decide ((i : Int) < (n : Int)) = true := by rw [decide_eq_true_eq]; omega
      have hgx : ∃ x, L[i]? = some x := ⟨_, List.getElem?_eq_getElem (by rw [← HN.out]; exact hlt)⟩
      obtain ⟨x, hx⟩ := hgx
      have hxm := List.mem_of_getElem? hx
      obtain ⟨g, cur, rfl, hg, hi, hci⟩ := HROW.out i x hx
      have fg := hW.out.gch.own.fr.get hg (by simp)
      have tg := World.at_lt fg
      obtain ⟨q1, m1, d1, -, hl, S1⟩ := (HM2.out.fr0 hW.out.gch.own.fr).look HS.out HB.out (HB.out x hxm)
      rw [getL_some HS.out hxm] at S1
      have HS1 := Lib.hid S1
      have hlen : m1 ≤ 4000 := by
        have h1 := S1.len
        have h2 := (HE.out x hxm).v
        simp only [Option.getD_some] at h1
        omega
      have HVB := Lib.hid (HE.out x hxm).vb
      have htk : L.take (i + 1) = L.take i ++ [x] := by rw [List.take_add_one, hx]; rfl
      have HTK := Lib.hid htk
      obtain ⟨X, hX⟩ : ∃ X, X = strB x.1 := ⟨_, rfl⟩
      rw [← hX] at hl hci
      have HX := Lib.hid hX
      have wi : IntKind.i64.wrap ((i : Int) + 1) = ((i + 1 : Nat) : Int) := by rw [IntKind.wrap_i64]; omega
      have ki : (i : Int) < (n : Int) := by omega
      clear hx hxm hg htk hX S1
      go_wp2_with fail
      refine (clone_f HS1.out (by omega)).mono ?_
      rintro en w3 ⟨q3, c3, rfl, B3⟩
      obtain ⟨M3, O3, hS3, hN3⟩ := Bld.hold B3
      have HG3 := Lib.hid (hW.out.with O3)
      have HS3 := Lib.hid hS3
      have HN3 := Lib.hid hN3
      have HLO := Lib.hid (show w2.heap.size ≤ wr.heap.size from hW.out.gch.own.fr.size)
      clear B3 O3 hS3 hN3 hW fg tg hl
      have hss : ∀ W, Has M3 W → Sl .u8 W q3 m1 c3 (Chg.val ⟨x.1, false, x.2⟩) ∧ WrL W q3 m1 c3 (Chg.val ⟨x.1, false, x.2⟩) := fun W hW => ⟨(HS3.out W hW).1, (HS3.out W hW).2 rfl⟩
      have HSS := Lib.hid hss
      clear hss
      go_wp2_with (refine wpList_app33N (y := ⟨x.1, false, x.2⟩) rfl _ _ rfl rfl rfl (HG3.out.call ((Fr.refl [] w3).alloc _)) HSS.out HVB.out (fun a ha => Nat.le_trans HLO.out (HN3.out a ha)) (by rw [HX.out]; exact World.at_alloc_new _ _ _ (by simp)) (by omega) ?_)
      intro q5 c5 W5 G5
      have HG5 := Lib.hid G5
      clear G5 HG3
      go_wp2_with fail
      go_roundw
      case rel => exact ⟨i + 1, q5, c5, hlt, by first | rfl | simp, by first | rfl | simp, Lib.hid (by rw [HTK.out, asC, List.map_append]; exact HG5.out)⟩
      case measure => simp [intOf]; omega
    · obtain rfl : i = n := by omega
      have hd : decide ((i : Int) < (i : Int)) = false := by simp
      have htk : L.take i = L := List.take_of_length_le (by rw [HN.out]; exact Nat.le_refl _)
      rw [htk] at hW
      go_wp2_with fail
      exact bodyPost_ret (results_tmp rfl _ _ _) rfl ⟨q, cp, rfl, hW.out.base HF2.out⟩
set_option maxRecDepth 100000 in
set_option maxHeartbeats 2000000 in
theorem all_sf {s d : Nat} {sp : SP} {m : DM} {fp : List Nat} (T : StAt w s d sp m fp) (hS : Sorted sp.L) (hE : ∀ x ∈ sp.L, EntOk x) (hn : sp.L.length ≤ 64) :
    Calls Try.prog 13 #[.pointer (some ⟨s, 0, none⟩)] w fun e w' => ∃ q c, e = .returned (.slice q sp.L.length c) ∧ GchN w [] w' q sp.L.length c (asC sp.L) := by
  obtain ⟨mb, f0, -, -, M⟩ := T.ex
  unfold stC at f0
  have t0 := World.at_lt f0
  have HM := Lib.hid M
  have HS := Lib.hid hS
  have HE := Lib.hid hE
  obtain ⟨n, hnl⟩ : ∃ n, n = sp.L.length := ⟨_, rfl⟩
  have HN := Lib.hid hnl
  rw [← hnl]
  clear T M hS hE hnl
  go_enter Try.func13, Try.ntmps13
  go_wp2_with fail
  refine (list_f HM.out HS.out HE.out hn).mono ?_
  rintro en w2 ⟨q2, c2, rfl, G⟩
  have HG := Lib.hid G
  clear G
  rw [← HN.out]
  go_wp2_with fail
  exact bodyPost_ret (results_tmp rfl _ _ _) rfl ⟨q2, c2, rfl, by rw [HN.out]; exact HG.out⟩
end
end Go.Proofs.Ytombhkekocbfoaa
namespace Go.St
open Go.Kd Go.Dr
/-- What Do still has to hand out. -/
def doF (n v : Bs) : Bool → List (Bs × Bs) → List (Bs × Bs)
  | done, [] => if done then [] else [(n, v)]
  | done, x :: L => (if done = false ∧ n < x.1 then [(n, v)] else []) ++ (if x.1 ≠ n then [x] else []) ++ doF n v (done || decide (n < x.1)) L
theorem doF_true {n v : Bs} : ∀ L : List (Bs × Bs), doF n v true L = delL n L := by
  intro L
  induction L with
  | nil => rfl
  | cons x L ih =>
    rw [doF, Bool.true_or, ih, delL, delL, List.filter_cons]
    by_cases h : x.1 = n
    · simp [h]
    · simp [h]
theorem delL_above {n : Bs} : ∀ {L : List (Bs × Bs)}, (∀ x ∈ L, n < x.1) → delL n L = L := by
  intro L h
  refine List.filter_eq_self.2 fun x hx => ?_
  have := h x hx
  simp only [ne_eq, decide_not, Bool.not_eq_true', decide_eq_false_iff_not]
  intro e
  rw [e] at this
  exact bs_irrefl _ this
theorem doF_false {n v : Bs} : ∀ {L : List (Bs × Bs)}, Sorted L → doF n v false L = putL n v L := by
  intro L
  induction L with
  | nil => intro _; rfl
  | cons x L ih =>
    intro hs
    obtain ⟨m, u⟩ := x
    have h2 := List.pairwise_cons.1 hs
    rw [doF, putL]
    simp only [true_and, Bool.false_or]
    by_cases hlt : n < m
    · have hne : m ≠ n := fun e => by rw [e] at hlt; exact bs_irrefl _ hlt
      rw [if_pos hlt, if_pos hlt, if_pos hne, decide_eq_true hlt, doF_true, delL_above fun x hx => bs_trans hlt (h2.1 x hx)]
      rfl
    · rw [if_neg hlt, if_neg hlt, decide_eq_false hlt, ih h2.2]
      by_cases he : n = m
      · subst he
        rw [if_neg (by simp), if_pos rfl]
        have : putL n v L = (n, v) :: L := by
          cases L with
          | nil => rfl
          | cons y L =>
            have := h2.1 y (by simp)
            rw [putL, if_pos this]
        rw [this]
        rfl
      · rw [if_pos (fun e => he e.symm), if_neg he]
        rfl
theorem doF_doC {c : Chg} {L : List (Bs × Bs)} (hs : Sorted L) : doF c.name c.val c.gone L = doC L c := by
  unfold doC
  cases hg : c.gone with
  | true => rw [if_pos rfl]; exact doF_true L
  | false => rw [if_neg (by simp)]; exact doF_false hs
end Go.St
namespace Go.Proofs.Ytombhkekocbfoaa
open Go.RowKit Go.Dr Go.Kd Go.St
theorem less_str {a b : Bs} (ha : Byt a) (hb : Byt b) : Op.bytesLess (strB a).toList (strB b).toList = decide (a < b) := by
  rw [bytesLess_eq, ByteArray.toList_eq, ByteArray.toList_eq]
  exact decide_eq_decide.2 (u8_lt ha hb)
/-- Slices among these values lie elsewhere than in these blocks. -/
def Away (av : List Nat) (us : List Value) : Prop := ∀ u ∈ us, ∀ q m d, u = Value.slice q m d → 0 < m → ∀ k, q.map (·.block) = some k → k ∉ av
/-- Changes that lie elsewhere than in these blocks. -/
def ChsA (w : World) (av : List Nat) (p : Option Addr) (n cap : Nat) (l : List Chg) : Prop := ∃ vs, Sv 3 w p n cap vs ∧ ChV w vs l ∧ Away av vs ∧ (0 < n → ∀ k, p.map (·.block) = some k → k ∉ av)
theorem ChsA.chs {w : World} {av : List Nat} {p : Option Addr} {n cap : Nat} {l : List Chg} (h : ChsA w av p n cap l) : Chs w p n cap l := by
  obtain ⟨vs, h1, h2, -⟩ := h
  exact ⟨vs, h1, h2⟩
theorem ChsA.fr0 {w w' : World} {av : List Nat} {p : Option Addr} {n cap : Nat} {l : List Chg} (h : ChsA w av p n cap l) (F : Fr [] w w') : ChsA w' av p n cap l := by
  obtain ⟨vs, h1, h2, h3⟩ := h
  exact ⟨vs, h1.fr0 F, h2.fr0 F, h3⟩
theorem Chs.away {w : World} {p : Option Addr} {n cap : Nat} {l : List Chg} (h : Chs w p n cap l) : ChsA w [] p n cap l := by
  obtain ⟨vs, h1, h2⟩ := h
  exact ⟨vs, h1, h2, (fun _ _ _ _ _ _ _ _ _ => by simp), fun _ _ _ => by simp⟩
theorem chV_turn {w w' : World} {fp : List Nat} (F : Fr fp w w') : ∀ {vs : List Value} {l : List Chg}, ChV w vs l → Away fp vs → ChV w' vs l := by
  intro vs l h
  induction h with
  | nil => intro _; exact .nil
  | cons h hs ih =>
    intro ha
    refine .cons ?_ (ih fun u hu => ha u (by simp [hu]))
    rename_i q m d c vs l
    rcases Nat.eq_zero_or_pos m with h0 | h0
    · subst h0; exact sl_zero h
    · exact sl_fr h F fun k hk => ha (.slice q m d) (by simp) q m d rfl h0 k hk
theorem ChV.lt {w : World} {vs : List Value} {l : List Chg} (h : ChV w vs l) : ∀ u ∈ vs, ∀ q m d, u = Value.slice q m d → 0 < m → ∀ k, q.map (·.block) = some k → k < w.heap.size := by
  induction h with
  | nil => intro u hu; cases hu
  | cons h hs ih =>
    intro u hu q m d e h0 k hk
    simp only [List.mem_cons] at hu
    rcases hu with hu | hu | hu | hu
    · subst e; cases hu
    · subst e
      cases hu
      obtain ⟨bb, off, cs, T, fr, rfl, fc, -⟩ := h.out h0
      simp only [Option.map_some, Option.some.injEq] at hk
      subst hk
      exact World.at_lt fc
    · subst e; cases hu
    · exact ih u hu q m d e h0 k hk
/-- What lies elsewhere than in a disk's blocks stays, and lies elsewhere behind it. -/
theorem ChsA.fr {w w' : World} {fp fp' : List Nat} {p : Option Addr} {n cap : Nat} {l : List Chg} (h : ChsA w fp p n cap l) (F : Fr fp w w') (N : News w fp fp') : ChsA w' fp' p n cap l := by
  obtain ⟨vs, h1, h2, h3, h4⟩ := h
  have hrow : n = 0 ∨ ∀ b, p.map (·.block) = some b → b ∉ fp := by
    rcases Nat.eq_zero_or_pos n with h0 | h0
    · exact .inl h0
    · exact .inr (h4 h0)
  refine ⟨vs, ?_, chV_turn F h2 h3, fun u hu q m d e h0 k hk hf => ?_, fun h0 k hk hf => ?_⟩
  · rcases hrow with h0 | h0
    · exact ⟨h1.len, h1.cap_, .inl h0, h1.nil, trivial⟩
    · exact h1.fr F h0
  · rcases N k hf with h5 | h5
    · exact h3 u hu q m d e h0 k hk h5
    · have := h2.lt u hu q m d e h0 k hk; omega
  · rcases N k hf with h5 | h5
    · exact h4 h0 k hk h5
    · rcases h1.row with h6 | ⟨b, off, cs, T, fr, rfl, hb, -⟩
      · omega
      · simp only [Option.map_some, Option.some.injEq] at hk
        subst hk
        have := World.at_lt hb; omega
theorem ChsA.at {w : World} {av : List Nat} {p : Option Addr} {n cap : Nat} {l : List Chg} (h : ChsA w av p n cap l) {j : Nat} (hj : j < n) : ∃ c q m d b off cs T fr, l[j]? = some c ∧ p = some ⟨b, off, none⟩ ∧ w.blk b = some (.cells cs T fr) ∧ off + j * 3 + 3 ≤ cs.size ∧ cs.extract (off + j * 3) (off + j * 3 + 3) = #[.string (strB c.name), .slice q m d, .bool c.gone] ∧ Sl .u8 w q m d c.val ∧ (0 < m → ∀ k, q.map (·.block) = some k → k ∉ av) := by
  have hl := h.chs.len
  obtain ⟨vs, h1, h2, h3, -⟩ := h
  obtain ⟨b, off, cs, T, fr, e1, e2, e3, e4, e5⟩ := h1.elem hj
  obtain ⟨c, hc⟩ : ∃ c, l[j]? = some c := ⟨_, List.getElem?_eq_getElem (by omega)⟩
  obtain ⟨q, m, d, h5, h4⟩ := h2.at j c hc
  refine ⟨c, q, m, d, b, off, cs, T, fr, hc, e1, e2, e4, by rw [e5, h5], h4, fun h0 k hk => h3 (.slice q m d) ?_ q m d rfl h0 k hk⟩
  have : Value.slice q m d ∈ (vs.drop (j * 3)).take 3 := by rw [h5]; simp
  exact List.mem_of_mem_drop (List.mem_of_mem_take this)
/-- Growing changes whose values lie where the call began. -/
structure GchF (w0 : World) (av : List Nat) (X : List (Nat × Obj)) (w : World) (q : Option Addr) (k c : Nat) (l : List Chg) : Prop where
  ex : ∃ us, BldV w0 X 32 3 w q k c us ∧ ChV w0 us l ∧ Away av us
section
variable {w0 w w' : World} {av : List Nat} {X : List (Nat × Obj)} {q p : Option Addr} {k c m d : Nat} {l : List Chg}
theorem GchF.nil (h : OwB w0 X w) : GchF w0 av X w none 0 0 [] := ⟨[], BldV.nil h, .nil, fun u hu => by cases hu⟩
theorem GchF.call (h : GchF w0 av X w q k c l) (F : Fr [] w w') : GchF w0 av X w' q k c l := by
  obtain ⟨us, B, S, A⟩ := h.ex
  exact ⟨us, B.call F, S, A⟩
theorem GchF.own (h : GchF w0 av X w q k c l) : OwB w0 X w := by
  obtain ⟨us, B, S, A⟩ := h.ex
  exact B.own
theorem GchF.chs (h : GchF w0 av X w q k c l) (hav : ∀ b ∈ av, b < w0.heap.size) : ChsA w av q k c l := by
  obtain ⟨us, B, S, A⟩ := h.ex
  exact ⟨us, B.sv, S.fr0 B.own.fr, A, fun _ g hg hm => by have := (B.new g hg).1; have := hav g hm; omega⟩
variable {ops : Array Oper} {rest : List Oper} {o : Oper} {a : Act} {Q : Exit → Act → World → Prop}
theorem wpList_app33F (hgd : o.guard = none) (s x : Operand) (ho : o.op = .call { callee := .builtin .append, args := #[s, x], argTypes := #[33, 33] })
    (hs : a.eval s = .slice q k c) {b : Nat} (hx : a.eval x = .slice (some ⟨b, 0, none⟩) 1 1) {fr : Nat × Nat} {y : Chg} (G : GchF w0 av X w q k c l) (S : Sl .u8 w0 p m d y.val) (hA : 0 < m → ∀ k, p.map (·.block) = some k → k ∉ av) (hb : w.blk b = some (.cells #[.string (strB y.name), .slice p m d, .bool y.gone] 32 fr)) (hbig : k + 1 ≤ 1000000)
    (h : ∀ q' c' w', GchF w0 av X w' q' (k + 1) c' (l ++ [y]) → wpList Try.prog ops Q rest (a.put o.dst (.slice q' (k + 1) c')) w') : wpList Try.prog ops Q (o :: rest) a w := by
  obtain ⟨us, B, hC, hAw⟩ := G.ex
  obtain ⟨i, hi, hz, hs1, hb1⟩ := info_parts info32
  have Sv3 : Sv 3 w (some ⟨b, 0, none⟩) 1 1 [.string (strB y.name), .slice p m d, .bool y.gone] :=
    ⟨rfl, Nat.le_refl 1, .inr ⟨b, 0, _, 32, fr, rfl, hb, by simp, by simp⟩, (fun h => by cases h), trivial⟩
  exact wpList_apdV hgd s x 33 33 ho Try.underlying33 hi hz hs1 (by omega) hb1 rfl hs B hx (Apd.ofSrc Try.underlying33 hi hz (by rw [hs1]; exact Sv3.src Try.underlying33 (by simp [Value.oneCell']))) (by omega) (by omega) fun q' c' w' B' => h q' c' w' ⟨us ++ [.string (strB y.name), .slice p m d, .bool y.gone], B', hC.append (.cons S .nil), fun u hu q2 m2 d2 e h0 k2 hk2 => by
    rcases List.mem_append.1 hu with hu | hu
    · exact hAw u hu q2 m2 d2 e h0 k2 hk2
    · subst e
      simp only [List.mem_cons, List.not_mem_nil, or_false] at hu
      rcases hu with h1 | h1 | h1
      · cases h1
      · cases h1; exact hA h0 k2 hk2
      · cases h1⟩
end
section
variable {w : World}
set_option maxRecDepth 100000 in
set_option maxHeartbeats 8000000 in
theorem do_f {av : List Nat} (hav : ∀ b ∈ av, b < w.heap.size) {p : Option Addr} {n cap : Nat} {L : List (Bs × Bs)} (T : ChsA w av p n cap (asC L)) (hL : ∀ x ∈ L, Byt x.1) (hS : Sorted L) (hn : n ≤ 100000) {q : Option Addr} {m d : Nat} {x : Chg} (S : Sl .u8 w q m d x.val) (hSA : 0 < m → ∀ k, q.map (·.block) = some k → k ∉ av) (hx : Byt x.name) :
    Calls Try.prog 49 #[.slice p n cap, .agg #[.string (strB x.name), .slice q m d, .bool x.gone]] w fun e w' => ∃ q' k c, e = .returned (.slice q' k c) ∧ ChsA w' av q' k c (asC (doC L x)) ∧ Fr [] w w' := by
  have HAV := Lib.hid hav
  have HSA := Lib.hid hSA
  have HT := Lib.hid T
  have HLB := Lib.hid hL
  have HXB := Lib.hid hx
  have HS := Lib.hid S
  have hlen : L.length = n := by have := T.chs.len; simpa [asC] using this
  have HLEN := Lib.hid hlen
  obtain ⟨R, hR⟩ : ∃ R, R = doC L x := ⟨_, rfl⟩
  have hR2 : R = doF x.name x.val x.gone L := hR.trans (doF_doC hS).symm
  rw [← hR]
  have HR := Lib.hid hR2
  obtain ⟨C, hC⟩ : ∃ C : Array Value, C = #[.string (strB x.name), .slice q m d, .bool x.gone] := ⟨_, rfl⟩
  rw [← hC]
  have szC : C.size = 3 := by rw [hC]; rfl
  have onC : ones C.toList = true := by rw [hC]; rfl
  have y0 := Array.getElem?_eq_some_iff.1 (show C[0]? = some (.string (strB x.name)) by rw [hC]; rfl)
  have y1 := Array.getElem?_eq_some_iff.1 (show C[1]? = some (.slice q m d) by rw [hC]; rfl)
  obtain ⟨g, hg⟩ : ∃ g, g = x.gone := ⟨_, rfl⟩
  have y2 := Array.getElem?_eq_some_iff.1 (show C[2]? = some (.bool g) by rw [hC, hg]; rfl)
  obtain ⟨X, hX⟩ : ∃ X, X = strB x.name := ⟨_, rfl⟩
  rw [← hX] at y0
  obtain ⟨y0', y0⟩ := y0
  obtain ⟨y1', y1⟩ := y1
  obtain ⟨y2', y2⟩ := y2
  have HC := Lib.hid hC
  have HG := Lib.hid hg
  have HX := Lib.hid hX
  clear T hL hx S hav hSA hlen hR hR2 hS hC hg hX
  go_enter Try.func49, Try.ntmps49
  go_upto_region 3 with (fail)
  refine OwB.named (Q := fun X => Code.wp _ _ _ _ X) ((OwB.start w).allocN (.cells C 32) w.heap.size rfl) ?_
  intro V hV
  obtain ⟨b3, hb3⟩ : ∃ b3, b3 = w.heap.size := ⟨_, rfl⟩
  rw [← hb3] at hV ⊢
  have HV := Lib.hid hV
  clear hV hb3
  go_wp2_with fail
  go_loopw [5, 6, 7] (fun v dv iv wy => ∃ (i : Nat) (q' : Option Addr) (k c : Nat) (dn : Bool) (out : List (Bs × Bs)), i ≤ n ∧ v = .slice q' k c ∧ dv = .bool dn ∧ iv = .int .i64 (i : Int) ∧ k ≤ 2 * i ∧ Hid (GchF w av [(b3, .cells C 32)] wy q' k c (asC out) ∧ out ++ doF x.name x.val dn (L.drop i) = R)) (fun _ _ iv _ => (n - intOf iv).toNat)
  case atStart => exact ⟨0, none, 0, 0, g, [], by omega, rfl, rfl, rfl, by omega, Lib.hid ⟨GchF.nil HV.out, by rw [HR.out, HG.out]; rfl⟩⟩
  case round =>
    obtain ⟨i, q', k, c, dn, out, hin, rfl, rfl, rfl, hk, hW⟩ := hrel
    by_cases hlt : i < n
    · have hd : decide ((i : Int) < (n : Int)) = true := by rw [decide_eq_true_eq]; omega
      obtain ⟨y, qy, my, dy, b, off, cs, TT, fr, hy, rfl, fb, hsz, hext, Sy, hya⟩ := HT.out.at hlt
      have fbw := hW.out.1.own.fr.get fb (by simp)
      have tb := World.at_lt fbw
      have f3 := hW.out.1.own.nth 0 rfl
      have t3 := World.at_lt f3
      have hxl : ∃ z, L[i]? = some z := ⟨_, List.getElem?_eq_getElem (by rw [HLEN.out]; exact hlt)⟩
      obtain ⟨z, hz⟩ := hxl
      have hyz : y = ⟨z.1, false, z.2⟩ := by
        have h := hy
        rw [asC, List.getElem?_map, hz] at h
        simpa using h.symm
      subst hyz
      obtain ⟨B, hB⟩ : ∃ B : Array Value, B = #[.string (strB z.1), .slice qy my dy, .bool false] := ⟨_, rfl⟩
      have hext2 : cs.extract (off + i * 3) (off + i * 3 + 3) = B := hext.trans hB.symm
      have szB : B.size = 3 := by rw [hB]; rfl
      have onB : ones B.toList = true := by rw [hB]; rfl
      obtain ⟨Y, hY⟩ : ∃ Y, Y = strB z.1 := ⟨_, rfl⟩
      have x0 : ∃ h : off + i * 3 < cs.size, cs[off + i * 3] = .string Y := by
        have h := congrArg (fun a => a[0]?) hext
        rw [Array.getElem?_extract_of_lt (by omega), ← hY] at h
        have h2 : some cs[off + i * 3 + 0] = some (Value.string Y) := h
        exact ⟨by omega, by simpa using h2⟩
      obtain ⟨x0', x0⟩ := x0
      have hzb := HLB.out z (List.mem_of_getElem? hz)
      have HZB := Lib.hid hzb
      have HY := Lib.hid hY
      have HBB := Lib.hid hB
      have HSY := Lib.hid Sy
      have HYA := Lib.hid hya
      have hdr : L.drop i = z :: L.drop (i + 1) := by
        obtain ⟨h1, h2⟩ := List.getElem?_eq_some_iff.1 hz
        rw [List.drop_eq_getElem_cons h1, h2]
      have HDR := Lib.hid hdr
      have ki : (i : Int) < (n : Int) := by omega
      have HFB := Lib.hid fb
      clear hext hy hz hzb hY hB Sy hya fb hdr
      obtain ⟨ye, hye⟩ : ∃ ye : Bool, ye = decide (z.1 = x.name) := ⟨_, rfl⟩
      have hyeq : (Y.toList == X.toList) = ye := by rw [HY.out, HX.out, beq_str HZB.out HXB.out, hye]
      have HYE := Lib.hid (show (!ye) = true ↔ z.1 ≠ x.name by rw [hye]; simp)
      obtain ⟨ls, hls⟩ : ∃ ls : Bool, ls = decide (x.name < z.1) := ⟨_, rfl⟩
      have hlss : Op.bytesLess X.toList Y.toList = ls := by rw [HY.out, HX.out, less_str HXB.out HZB.out, hls]
      have HLS := Lib.hid hls
      clear hye hls
      cases dn with
      | true =>
        have HI := Lib.hid (show out ++ ((if z.1 ≠ x.name then [z] else []) ++ doF x.name x.val true (L.drop (i + 1))) = R by
          rw [← hW.out.2, HDR.out, doF]; simp)
        have HGG := Lib.hid hW.out.1
        clear hW
        go_upto_region 6 with (fail)
        refine drawn_begin 12 (fun w' => w'.blk b3 = some (.cells C 32) ∧ w'.blk b = some (.cells cs TT fr)) (by kernel_rfl) ?_
        refine drawn_reads (fuel := 0) [0, 1, 2, 3, 4, 5, 6, 7, 8, 9, 10, 11] rfl (by kernel_rfl) ⟨f3, fbw⟩ ?_
        repeat (first | (refine rowK_step2 rfl rfl (fun K hK => ?_); go_wp2) | (refine rowK_step rfl (fun K hK => ?_); go_simp; refine hK _ ?_; clear hK K))
        refine rowK_nil ⟨?_, ?_⟩
        · first | (rintro w' ⟨e1, e2⟩) | (intro w' e1 e2)
          clear f3 fbw t3 tb
          have t3 := World.at_lt e1
          have tb := World.at_lt e2
          repeat (first | (refine rowWp_step2 rfl rfl (fun K hK => ?_); go_wp2) | (refine rowWp_step rfl (fun K hK => ?_); go_simp; refine hK _ ?_; clear hK K))
          exact rowWp_nil rfl
        refine drawn_end (ol := []) rfl (by kernel_rfl) ?_
        intro K hK
        go_upto_if 27 with (fail)
        refine named_world (A := fun X => GchF w av [(b3, .cells C 32)] X q' k c (asC out)) (Q := fun X => Code.wp _ _ _ _ X) (HGG.out.call (Fr.refl [] _).drew) ?_
        rintro V6 HG6
        have HGG := Lib.hid HG6
        have f3 := HG6.own.nth 0 rfl
        have t3 := World.at_lt f3
        have fbw := HG6.own.fr.get HFB.out (by simp)
        have tb := World.at_lt fbw
        clear HG6
        go_upto_region 9 with (fail)
        refine drawn_begin 8 (fun w' => w'.blk b3 = some (.cells C 32) ∧ w'.blk b = some (.cells cs TT fr)) (by kernel_rfl) ?_
        refine drawn_reads (fuel := 0) [0, 1, 2, 3, 4, 5, 6, 7] rfl (by kernel_rfl) ⟨f3, fbw⟩ ?_
        repeat (first | (refine rowK_step2 rfl rfl (fun K hK => ?_); go_wp2) | (refine rowK_step rfl (fun K hK => ?_); go_simp; refine hK _ ?_; clear hK K))
        refine rowK_nil ⟨?_, ?_⟩
        · first | (rintro w' ⟨e1, e2⟩) | (intro w' e1 e2)
          clear f3 fbw t3 tb
          have t3 := World.at_lt e1
          have tb := World.at_lt e2
          repeat (first | (refine rowWp_step2 rfl rfl (fun K hK => ?_); go_wp2) | (refine rowWp_step rfl (fun K hK => ?_); go_simp; refine hK _ ?_; clear hK K))
          exact rowWp_nil rfl
        refine drawn_end (ol := []) rfl (by kernel_rfl) ?_
        intro K hK
        go_upto_if 43 with (fail)
        refine named_world (A := fun X => GchF w av [(b3, .cells C 32)] X q' k c (asC (out))) (Q := fun X => Code.wp _ _ _ _ X) (HGG.out.call (Fr.refl [] _).drew) ?_
        rintro U HGU
        have HGU := Lib.hid HGU
        have fbw := HGU.out.own.fr.get HFB.out (by simp)
        have tb := World.at_lt fbw
        clear f3
        cases ye with
        | true =>
          have hI := HI.out
          rw [if_neg (by have := HYE.out; simpa using this), List.nil_append] at hI
          have HI := Lib.hid hI
          have HG2 := HGU
          clear hI
          go_wp2_with fail
          go_roundw
          case rel => exact ⟨i + 1, _, _, _, true, out, hlt, rfl, rfl, by first | rfl | simp, by omega, Lib.hid ⟨HG2.out, HI.out⟩⟩
          case measure => simp [intOf]; omega
        | false =>
          have hI := HI.out
          rw [if_pos (by have := HYE.out; simpa using this), ← List.append_assoc] at hI
          have HI := Lib.hid hI
          have HG2 := HGU
          clear hI
          go_wp2_with (refine wpList_app33F (y := ⟨z.1, false, z.2⟩) rfl _ _ rfl rfl rfl (HG2.out.call ((Fr.refl [] _).alloc _)) HSY.out HYA.out (by show World.blk _ _ = some (.cells #[.string (strB z.1), .slice qy my dy, .bool false] 32 _); rw [← HBB.out]; exact World.at_alloc_new _ _ _ (by simp)) (by omega) ?_)
          intro q9 c9 W9 G9
          have HG9 := Lib.hid G9
          clear G9 HG2
          go_wp2_with fail
          go_roundw
          case rel => exact ⟨i + 1, q9, _, c9, true, out ++ [z], hlt, rfl, rfl, by first | rfl | simp, by omega, Lib.hid ⟨by rw [asC, List.map_append]; exact HG9.out, HI.out⟩⟩
          case measure => simp [intOf]; omega
      | false =>
        have HGG := Lib.hid hW.out.1
        have hW2 := hW.out.2
        rw [HDR.out, doF] at hW2
        have HW2 := Lib.hid hW2
        clear hW hW2
        go_upto_region 6 with (fail)
        refine drawn_begin 12 (fun w' => w'.blk b3 = some (.cells C 32) ∧ w'.blk b = some (.cells cs TT fr)) (by kernel_rfl) ?_
        refine drawn_reads (fuel := 0) [0, 1, 2, 3, 4, 5, 6, 7, 8, 9, 10, 11] rfl (by kernel_rfl) ⟨f3, fbw⟩ ?_
        repeat (first | (refine rowK_step2 rfl rfl (fun K hK => ?_); go_wp2) | (refine rowK_step rfl (fun K hK => ?_); go_simp; refine hK _ ?_; clear hK K))
        refine rowK_nil ⟨?_, ?_⟩
        · first | (rintro w' ⟨e1, e2⟩) | (intro w' e1 e2)
          clear f3 fbw t3 tb
          have t3 := World.at_lt e1
          have tb := World.at_lt e2
          repeat (first | (refine rowWp_step2 rfl rfl (fun K hK => ?_); go_wp2) | (refine rowWp_step rfl (fun K hK => ?_); go_simp; refine hK _ ?_; clear hK K))
          exact rowWp_nil rfl
        refine drawn_end (ol := []) rfl (by kernel_rfl) ?_
        intro K hK
        go_upto_if 27 with (fail)
        refine named_world (A := fun X => GchF w av [(b3, .cells C 32)] X q' k c (asC out)) (Q := fun X => Code.wp _ _ _ _ X) (HGG.out.call (Fr.refl [] _).drew) ?_
        rintro V6 HG6
        have HGG := Lib.hid HG6
        have f3 := HG6.own.nth 0 rfl
        have t3 := World.at_lt f3
        have fbw := HG6.own.fr.get HFB.out (by simp)
        have tb := World.at_lt fbw
        clear HG6
        cases ls with
        | false =>
          have HI := Lib.hid (show out ++ ((if z.1 ≠ x.name then [z] else []) ++ doF x.name x.val false (L.drop (i + 1))) = R by
            have h1 := of_decide_eq_false HLS.out.symm
            rw [← HW2.out, decide_eq_false h1]; simp [h1])
          go_upto_region 9 with (fail)
          refine drawn_begin 8 (fun w' => w'.blk b3 = some (.cells C 32) ∧ w'.blk b = some (.cells cs TT fr)) (by kernel_rfl) ?_
          refine drawn_reads (fuel := 0) [0, 1, 2, 3, 4, 5, 6, 7] rfl (by kernel_rfl) ⟨f3, fbw⟩ ?_
          repeat (first | (refine rowK_step2 rfl rfl (fun K hK => ?_); go_wp2) | (refine rowK_step rfl (fun K hK => ?_); go_simp; refine hK _ ?_; clear hK K))
          refine rowK_nil ⟨?_, ?_⟩
          · first | (rintro w' ⟨e1, e2⟩) | (intro w' e1 e2)
            clear f3 fbw t3 tb
            have t3 := World.at_lt e1
            have tb := World.at_lt e2
            repeat (first | (refine rowWp_step2 rfl rfl (fun K hK => ?_); go_wp2) | (refine rowWp_step rfl (fun K hK => ?_); go_simp; refine hK _ ?_; clear hK K))
            exact rowWp_nil rfl
          refine drawn_end (ol := []) rfl (by kernel_rfl) ?_
          intro K hK
          go_upto_if 43 with (fail)
          refine named_world (A := fun X => GchF w av [(b3, .cells C 32)] X q' k c (asC (out))) (Q := fun X => Code.wp _ _ _ _ X) (HGG.out.call (Fr.refl [] _).drew) ?_
          rintro U HGU
          have HGU := Lib.hid HGU
          have fbw := HGU.out.own.fr.get HFB.out (by simp)
          have tb := World.at_lt fbw
          clear f3
          cases ye with
          | true =>
            have hI := HI.out
            rw [if_neg (by have := HYE.out; simpa using this), List.nil_append] at hI
            have HI := Lib.hid hI
            have HG2 := HGU
            clear hI
            go_wp2_with fail
            go_roundw
            case rel => exact ⟨i + 1, _, _, _, false, out, hlt, rfl, rfl, by first | rfl | simp, by omega, Lib.hid ⟨HG2.out, HI.out⟩⟩
            case measure => simp [intOf]; omega
          | false =>
            have hI := HI.out
            rw [if_pos (by have := HYE.out; simpa using this), ← List.append_assoc] at hI
            have HI := Lib.hid hI
            have HG2 := HGU
            clear hI
            go_wp2_with (refine wpList_app33F (y := ⟨z.1, false, z.2⟩) rfl _ _ rfl rfl rfl (HG2.out.call ((Fr.refl [] _).alloc _)) HSY.out HYA.out (by show World.blk _ _ = some (.cells #[.string (strB z.1), .slice qy my dy, .bool false] 32 _); rw [← HBB.out]; exact World.at_alloc_new _ _ _ (by simp)) (by omega) ?_)
            intro q9 c9 W9 G9
            have HG9 := Lib.hid G9
            clear G9 HG2
            go_wp2_with fail
            go_roundw
            case rel => exact ⟨i + 1, q9, _, c9, false, out ++ [z], hlt, rfl, rfl, by first | rfl | simp, by omega, Lib.hid ⟨by rw [asC, List.map_append]; exact HG9.out, HI.out⟩⟩
            case measure => simp [intOf]; omega
        | true =>
          have HI := Lib.hid (show (out ++ [(x.name, x.val)]) ++ ((if z.1 ≠ x.name then [z] else []) ++ doF x.name x.val true (L.drop (i + 1))) = R by
            have h1 := of_decide_eq_true HLS.out.symm
            rw [← HW2.out, decide_eq_true h1]; simp [h1])
          go_wp2_with (refine wpList_app33F (y := ⟨x.name, false, x.val⟩) rfl _ _ rfl rfl rfl (HGG.out.call ((Fr.refl [] _).alloc _)) HS.out HSA.out (by show World.blk _ _ = some (.cells #[.string (strB x.name), .slice q m d, .bool false] 32 _); rw [← HX.out]; exact World.at_alloc_new _ _ _ (by simp)) (by omega) ?_)
          intro q8 c8 W8 G8
          have HG8 := Lib.hid (show GchF w av [(b3, .cells C 32)] W8 q8 (k + 1) c8 (asC (out ++ [(x.name, x.val)])) by rw [asC, List.map_append]; exact G8)
          have f3 := G8.own.nth 0 rfl
          have t3 := World.at_lt f3
          have fbw := G8.own.fr.get HFB.out (by simp)
          have tb := World.at_lt fbw
          clear G8 HGG
          go_upto_region 9 with (fail)
          refine drawn_begin 8 (fun w' => w'.blk b3 = some (.cells C 32) ∧ w'.blk b = some (.cells cs TT fr)) (by kernel_rfl) ?_
          refine drawn_reads (fuel := 0) [0, 1, 2, 3, 4, 5, 6, 7] rfl (by kernel_rfl) ⟨f3, fbw⟩ ?_
          repeat (first | (refine rowK_step2 rfl rfl (fun K hK => ?_); go_wp2) | (refine rowK_step rfl (fun K hK => ?_); go_simp; refine hK _ ?_; clear hK K))
          refine rowK_nil ⟨?_, ?_⟩
          · first | (rintro w' ⟨e1, e2⟩) | (intro w' e1 e2)
            clear f3 fbw t3 tb
            have t3 := World.at_lt e1
            have tb := World.at_lt e2
            repeat (first | (refine rowWp_step2 rfl rfl (fun K hK => ?_); go_wp2) | (refine rowWp_step rfl (fun K hK => ?_); go_simp; refine hK _ ?_; clear hK K))
            exact rowWp_nil rfl
          refine drawn_end (ol := []) rfl (by kernel_rfl) ?_
          intro K hK
          go_upto_if 43 with (fail)
          refine named_world (A := fun X => GchF w av [(b3, .cells C 32)] X q8 (k + 1) c8 (asC ((out ++ [(x.name, x.val)])))) (Q := fun X => Code.wp _ _ _ _ X) (HG8.out.call (Fr.refl [] _).drew) ?_
          rintro U HGU
          have HGU := Lib.hid HGU
          have fbw := HGU.out.own.fr.get HFB.out (by simp)
          have tb := World.at_lt fbw
          clear f3
          cases ye with
          | true =>
            have hI := HI.out
            rw [if_neg (by have := HYE.out; simpa using this), List.nil_append] at hI
            have HI := Lib.hid hI
            have HG2 := HGU
            clear hI
            go_wp2_with fail
            go_roundw
            case rel => exact ⟨i + 1, _, _, _, true, (out ++ [(x.name, x.val)]), hlt, rfl, rfl, by first | rfl | simp, by omega, Lib.hid ⟨HG2.out, HI.out⟩⟩
            case measure => simp [intOf]; omega
          | false =>
            have hI := HI.out
            rw [if_pos (by have := HYE.out; simpa using this), ← List.append_assoc] at hI
            have HI := Lib.hid hI
            have HG2 := HGU
            clear hI
            go_wp2_with (refine wpList_app33F (y := ⟨z.1, false, z.2⟩) rfl _ _ rfl rfl rfl (HG2.out.call ((Fr.refl [] _).alloc _)) HSY.out HYA.out (by show World.blk _ _ = some (.cells #[.string (strB z.1), .slice qy my dy, .bool false] 32 _); rw [← HBB.out]; exact World.at_alloc_new _ _ _ (by simp)) (by omega) ?_)
            intro q9 c9 W9 G9
            have HG9 := Lib.hid G9
            clear G9 HG2
            go_wp2_with fail
            go_roundw
            case rel => exact ⟨i + 1, q9, _, c9, true, (out ++ [(x.name, x.val)]) ++ [z], hlt, rfl, rfl, by first | rfl | simp, by omega, Lib.hid ⟨by rw [asC, List.map_append]; exact HG9.out, HI.out⟩⟩
            case measure => simp [intOf]; omega
    · obtain rfl : i = n := by omega
      have hd : decide ((i : Int) < (i : Int)) = false := by simp
      have hdr : L.drop i = [] := List.drop_of_length_le (by rw [HLEN.out]; exact Nat.le_refl _)
      have hW2 := hW.out.2
      rw [hdr, doF] at hW2
      have HW2 := Lib.hid hW2
      have HGG := Lib.hid hW.out.1
      have f3 := hW.out.1.own.nth 0 rfl
      have t3 := World.at_lt f3
      clear hW hW2 hdr
      cases dn with
      | true =>
        have hout : out = R := by have := HW2.out; simpa using this
        go_wp2_with fail
        exact bodyPost_ret (results_tmp rfl _ _ _) rfl ⟨q', k, c, rfl, by rw [← hout]; exact (HGG.out.chs HAV.out), HGG.out.own.fr⟩
      | false =>
        have HO := Lib.hid (show out ++ [(x.name, x.val)] = R by have := HW2.out; simpa using this)
        go_wp2_with (refine wpList_app33F (y := ⟨x.name, false, x.val⟩) rfl _ _ rfl rfl rfl (HGG.out.call ((Fr.refl [] _).alloc _)) HS.out HSA.out (by show World.blk _ _ = some (.cells #[.string (strB x.name), .slice q m d, .bool false] 32 _); rw [← HX.out]; exact World.at_alloc_new _ _ _ (by simp)) (by omega) ?_)
        intro q8 c8 W8 G8
        have HG8 := Lib.hid (show GchF w av [(b3, .cells C 32)] W8 q8 (k + 1) c8 (asC (out ++ [(x.name, x.val)])) by rw [asC, List.map_append]; exact G8)
        clear G8 HGG f3 t3
        go_wp2_with fail
        exact bodyPost_ret (results_tmp rfl _ _ _) rfl ⟨q8, k + 1, c8, rfl, by rw [← HO.out]; exact (HG8.out.chs HAV.out), HG8.out.own.fr⟩
end
end Go.Proofs.Ytombhkekocbfoaa
namespace Go.Proofs.Ytombhkekocbfoaa
open Go.RowKit Go.Dr Go.Kd Go.St
/-- What changes answers: the changes lie in blocks of their own. -/
def UnpG (w : World) (o : Option (List Chg)) (e : Ending) (w' : World) : Prop := match o with
  | some l => ∃ q c w1, e = .returned (.tuple #[.slice q l.length c, .bool true]) ∧ Gch w1 [] w' q l.length c l ∧ Fr [] w w1
  | none => e = .returned (.tuple #[.slice none 0 0, .bool false]) ∧ Fr [] w w'
theorem ChV.cells {w : World} {vs : List Value} {l : List Chg} (h : ChV w vs l) : ∀ u ∈ vs, ∀ q m d, u = Value.slice q m d → 0 < m → ∀ k, q.map (·.block) = some k → ∃ cs T fr, w.blk k = some (.cells cs T fr) := by
  induction h with
  | nil => intro u hu; cases hu
  | cons h hs ih =>
    intro u hu q m d e h0 k hk
    simp only [List.mem_cons] at hu
    rcases hu with hu | hu | hu | hu
    · subst e; cases hu
    · subst e
      cases hu
      obtain ⟨bb, off, cs, T, fr, rfl, fc, -⟩ := h.out h0
      simp only [Option.map_some, Option.some.injEq] at hk
      subst hk
      exact ⟨cs, T, fr, fc⟩
    · subst e; cases hu
    · exact ih u hu q m d e h0 k hk
theorem Gch.away {w0 w : World} {q : Option Addr} {k c : Nat} {l : List Chg} (h : Gch w0 [] w q k c l) {av : List Nat} (hav : ∀ b ∈ av, b < w0.heap.size) : ChsA w av q k c l := by
  obtain ⟨us, M, B, S⟩ := h.ex
  have hM : Has M w := B.own.has.of_append.1
  refine ⟨us, B.sv, S w hM, fun u hu q' m d e h0 b hk hb => ?_, fun h0 b hk hb => ?_⟩
  · have hlo : ∀ x ∈ M, w0.heap.size ≤ x.1 := fun x hx => B.own.lo x (by simp [hx])
    have hlt := hav b hb
    have h1 := S (w.put b (.map #[] 0)) (fun x hx => (World.at_put_other _ _ _ _ (by have := hlo x hx; omega)).trans (hM x hx))
    obtain ⟨cs, T, fr, h2⟩ := ChV.cells h1 u hu q' m d e h0 b hk
    rw [World.at_put_same _ _ _ (Nat.lt_of_lt_of_le hlt B.own.fr.size)] at h2
    cases h2
  · have := (B.new b hk).1
    have := hav b hb
    omega
section
variable {w : World}
set_option maxRecDepth 100000 in
set_option maxHeartbeats 8000000 in
theorem dchanges_f {p : Option Addr} {n c : Nat} {B : Bs} (S : Sl .u8 w p n c B) (hB : isBytes B) (hn : n ≤ 100000) :
    Calls Try.prog 48 #[.slice p n c] w fun e w' => UnpG w (rdPay B) e w' := by
  have HB := Lib.hid hB
  have HS := Lib.hid S
  obtain ⟨R, hR⟩ : ∃ R, R = rdPay B := ⟨_, rfl⟩
  rw [← hR]
  have HR := Lib.hid hR
  clear S hB hR
  go_enter Try.func48, Try.ntmps48
  go_wp2_with fail
  refine (dsplit_f HS.out HB.out hn).mono ?_
  intro en w1 hsp
  cases ho : splitB B with
  | none =>
    rw [ho] at hsp
    obtain ⟨why, hw, rfl, F⟩ := hsp
    have hr : R = none := by rw [HR.out, rdPay, ho]; rfl
    have HRN := Lib.hid hr
    have HF := Lib.hid F
    have hd : (why == 0) = false := by rw [beq_eq_false_iff_ne]; exact hw
    have hd2 : (why != 0) = true := by rw [bne, hd]; rfl
    clear ho hr F
    go_wp2_with fail
    refine bodyPost_ret (results_tmp2 rfl _ _ _) rfl ?_
    rw [HRN.out]
    exact ⟨rfl, HF.out⟩
  | some ls =>
    rw [ho] at hsp
    obtain ⟨q1, c1, M1, rfl, O1, -, us1, hus1⟩ := hsp
    have hSll : Sll w1 q1 ls.length c1 ls := by obtain ⟨a, b⟩ := hus1 w1 O1.has; exact Sll.of a b
    have HLS := Lib.hid hSll
    have HF1 := Lib.hid O1.fr
    have hr : R = rdChgs ls := by rw [HR.out, rdPay, ho]; rfl
    have HRL := Lib.hid hr
    have HPB := Lib.hid (splitB_byt HB.out ho)
    have HPL := Lib.hid (splitB_le ho)
    have hlen := splitB_len ho
    obtain ⟨N, hN⟩ : ∃ N, N = ls.length := ⟨_, rfl⟩
    rw [← hN] at hlen HLS ⊢
    have HN := Lib.hid hN
    clear ho hr hN hus1 hSll O1
    go_wp2_with fail
    go_loopw [6, 7] (fun v iv wy => ∃ (i : Nat) (q : Option Addr) (cp : Nat) (l : List Chg), i ≤ N ∧ v = .slice q i cp ∧ iv = .int .i64 (i : Int) ∧ Hid (rdChgs (ls.take i) = some l ∧ Gch w1 [] wy q i cp l)) (fun _ iv _ => (N - intOf iv).toNat)
    case atStart => exact ⟨0, none, 0, [], by omega, rfl, rfl, Lib.hid ⟨rfl, Gch.nil (OwB.start w1)⟩⟩
    case round =>
      obtain ⟨i, q, cp, l, hin, rfl, rfl, hW⟩ := hrel
      by_cases hlt : i < N
      · have hd : decide ((i : Int) < (N : Int)) = true := by rw [decide_eq_true_eq]; omega
        obtain ⟨b, off, cs, TT, fr, q2, m2, c2, x, rfl, fb, hsz, hat, hx, S2⟩ := (HLS.out.fr0 hW.out.2.own.fr).at hlt
        replace hat := (Array.getElem?_eq_some_iff.1 hat).2
        have hxm := List.mem_of_getElem? hx
        have HXM := Lib.hid hxm
        have HX := Lib.hid hx
        have HS2 := Lib.hid S2
        have tb := World.at_lt fb
        have wi : IntKind.i64.wrap ((i : Int) + 1) = ((i + 1 : Nat) : Int) := by rw [IntKind.wrap_i64]; omega
        clear hx hxm S2
        go_wp2_with fail
        refine (dsplit_f HS2.out (HPB.out x HXM.out) (by have := HPL.out x HXM.out; have := HS2.out.len; omega)).mono ?_
        intro en w2 hsp
        have HPX := Lib.hid (HPB.out x HXM.out)
        cases ho : splitB x with
        | none =>
          rw [ho] at hsp
          obtain ⟨why, hw, rfl, F⟩ := hsp
          have hr : R = none := by rw [HRL.out]; exact rdChgs_bad HXM.out (by rw [rdChg, ho])
          have HRN := Lib.hid hr
          have HF := Lib.hid (HF1.out.trans (hW.out.2.own.fr.trans F))
          have hd : (why == 0) = false := by rw [beq_eq_false_iff_ne]; exact hw
          have hd2 : (why != 0) = true := by rw [bne, hd]; rfl
          clear ho hr F
          go_wp2_with fail
          refine bodyPost_ret (results_tmp2 rfl _ _ _) rfl ?_
          rw [HRN.out]
          exact ⟨rfl, HF.out⟩
        | some ys =>
          rw [ho] at hsp
          obtain ⟨q3, c3, M3, rfl, O3, -, us3, hus3⟩ := hsp
          have HG3 := Lib.hid (hW.out.2.with O3)
          have HRI := Lib.hid hW.out.1
          have HF := Lib.hid (HF1.out.trans (hW.out.2.own.fr.trans O3.fr))
          have hSll : ∀ W, Has M3 W → Sll W q3 ys.length c3 ys := fun W hW => by obtain ⟨a, b⟩ := hus3 W hW; exact Sll.of a b
          have hM3 := O3.has
          have HUS := Lib.hid hus3
          have HM3 := Lib.hid hM3
          have HYB := Lib.hid (splitB_byt HPX.out ho)
          have hrd : rdChg x = match (some ys : Option (List Bs)) with
            | some [n] => if 1 ≤ n.length ∧ n.length ≤ 32 then some ⟨n, true, []⟩ else none
            | some [n, v] => if 1 ≤ n.length ∧ n.length ≤ 32 ∧ v.length ≤ 4000 then some ⟨n, false, v⟩ else none
            | _ => none := by rw [← ho]; rfl
          have HRD := Lib.hid hrd
          clear hW O3 ho hSll hrd fb tb hat hsz hus3 hM3
          have hbad : rdChg x = none → R = none := fun h => by rw [HRL.out]; exact rdChgs_bad HXM.out h
          have HBAD := Lib.hid hbad
          clear hbad
          match ys, HUS, HYB, HRD with
          | [], HUS, HYB, HRD =>
            have HRN := Lib.hid (HBAD.out HRD.out)
            go_wp2_with fail
            refine bodyPost_ret (results_tmp2 rfl _ _ _) rfl ?_
            rw [HRN.out]
            exact ⟨rfl, HF.out⟩
          | y :: z :: t :: ys, HUS, HYB, HRD =>
            have HRN := Lib.hid (HBAD.out HRD.out)
            have hl3 : (y :: z :: t :: ys).length = ys.length + 3 := rfl
            rw [hl3]
            obtain ⟨m3, hm3⟩ : ∃ m3, m3 = ys.length + 3 := ⟨_, rfl⟩
            have d1 : ((m3 : Int) == 0) = false := by rw [beq_eq_false_iff_ne]; omega
            have d2 : decide ((2 : Int) < (m3 : Int)) = true := by rw [decide_eq_true_eq]; omega
            rw [← hm3]
            clear hl3 hm3
            go_wp2_with fail
            refine bodyPost_ret (results_tmp2 rfl _ _ _) rfl ?_
            rw [HRN.out]
            exact ⟨rfl, HF.out⟩
          | [y], HUS, HYB, HRD =>
            obtain ⟨b3, o3, cs3, T3, fr3, qa, ca, rfl, g3, s3, c3', Sy⟩ := sly_one HUS.out HM3.out
            have t3 := World.at_lt g3
            have hcv := conv47 Sy
            have hrd : rdChg x = if 1 ≤ y.length ∧ y.length ≤ 32 then some ⟨y, true, []⟩ else none := HRD.out
            obtain ⟨m3, hm3⟩ : ∃ m3, m3 = y.length := ⟨_, rfl⟩
            rw [← hm3] at hcv hrd c3'
            have HM := Lib.hid hm3
            have HRC := Lib.hid hrd
            clear Sy hrd hm3
            by_cases h1 : m3 < 1
            · have d1 : ((m3 : Int) == 0) = true := by rw [beq_iff_eq]; omega
              have HRN := Lib.hid (HBAD.out (by rw [HRC.out, if_neg (by omega)]))
              clear hcv
              go_wp2_with fail
              refine bodyPost_ret (results_tmp2 rfl _ _ _) rfl ?_
              rw [HRN.out]
              exact ⟨rfl, HF.out⟩
            have d1 : ((m3 : Int) == 0) = false := by rw [beq_eq_false_iff_ne]; omega
            by_cases h2 : 32 < m3
            · have d2 : decide ((32 : Int) < (m3 : Int)) = true := by rw [decide_eq_true_eq]; omega
              have HRN := Lib.hid (HBAD.out (by rw [HRC.out, if_neg (by omega)]))
              clear hcv
              go_wp2_with fail
              refine bodyPost_ret (results_tmp2 rfl _ _ _) rfl ?_
              rw [HRN.out]
              exact ⟨rfl, HF.out⟩
            have d2 : decide ((32 : Int) < (m3 : Int)) = false := by rw [decide_eq_false_iff_not]; omega
            have HRS := Lib.hid (show rdChgs (ls.take (i + 1)) = some (l ++ [⟨y, true, []⟩]) by
              rw [List.take_add_one, HX.out]
              show rdChgs (ls.take i ++ [x]) = _
              rw [rdChgs_snoc, HRI.out, HRC.out, if_pos (by omega)]
              rfl)
            clear h1 h2
            go_wp2_with (refine wpList_app33 (y := ⟨y, true, []⟩) (p := none) (m := 0) (d := 0) rfl _ _ rfl rfl rfl (HG3.out.call (((Fr.refl [] w2).alloc _).alloc _)) (fun W _ => sl_nil W) (World.at_alloc_new _ _ _ (by simp)) (by omega) ?_)
            intro q5 c5 W5 G5
            have HG5 := Lib.hid G5
            clear G5 HG3 hcv g3 t3
            go_wp2_with fail
            go_roundw
            case rel => exact ⟨i + 1, q5, c5, _, hlt, by first | rfl | simp, by first | rfl | simp, Lib.hid ⟨HRS.out, HG5.out⟩⟩
            case measure => simp [intOf]; omega
          | [y, z], HUS, HYB, HRD =>
            obtain ⟨b3, o3, cs3, T3, fr3, qa, ca, qb, cb, rfl, g3, ⟨s3, c3'⟩, ⟨s4, c4'⟩, Sy, Sz⟩ := sly_two HUS.out HM3.out
            have HSZ := Lib.hid Sz
            have t3 := World.at_lt g3
            have hcv := conv47 Sy
            have hrd : rdChg x = if 1 ≤ y.length ∧ y.length ≤ 32 ∧ z.length ≤ 4000 then some ⟨y, false, z⟩ else none := HRD.out
            obtain ⟨m3, hm3⟩ : ∃ m3, m3 = y.length := ⟨_, rfl⟩
            rw [← hm3] at hcv hrd c3'
            obtain ⟨m4, hm4⟩ : ∃ m4, m4 = z.length := ⟨_, rfl⟩
            rw [← hm4] at hrd c4'
            have HM4 := Lib.hid hm4
            have HM := Lib.hid hm3
            have HRC := Lib.hid hrd
            clear Sy Sz hrd hm3 hm4
            by_cases h1 : m3 < 1
            · have d1 : ((m3 : Int) == 0) = true := by rw [beq_iff_eq]; omega
              have HRN := Lib.hid (HBAD.out (by rw [HRC.out, if_neg (by omega)]))
              clear hcv
              go_wp2_with fail
              refine bodyPost_ret (results_tmp2 rfl _ _ _) rfl ?_
              rw [HRN.out]
              exact ⟨rfl, HF.out⟩
            have d1 : ((m3 : Int) == 0) = false := by rw [beq_eq_false_iff_ne]; omega
            by_cases h2 : 32 < m3
            · have d2 : decide ((32 : Int) < (m3 : Int)) = true := by rw [decide_eq_true_eq]; omega
              have HRN := Lib.hid (HBAD.out (by rw [HRC.out, if_neg (by omega)]))
              clear hcv
              go_wp2_with fail
              refine bodyPost_ret (results_tmp2 rfl _ _ _) rfl ?_
              rw [HRN.out]
              exact ⟨rfl, HF.out⟩
            have d2 : decide ((32 : Int) < (m3 : Int)) = false := by rw [decide_eq_false_iff_not]; omega
            by_cases h3 : 4000 < m4
            · have d3 : decide ((4000 : Int) < (m4 : Int)) = true := by rw [decide_eq_true_eq]; omega
              have HRN := Lib.hid (HBAD.out (by rw [HRC.out, if_neg (by omega)]))
              have HF2 := Lib.hid (fun (o : Obj) => HF.out.alloc o)
              go_wp2_with fail
              refine bodyPost_ret (results_tmp2 rfl _ _ _) rfl ?_
              rw [HRN.out]
              exact ⟨rfl, HF2.out _⟩
            have d3 : decide ((4000 : Int) < (m4 : Int)) = false := by rw [decide_eq_false_iff_not]; omega
            have HRS := Lib.hid (show rdChgs (ls.take (i + 1)) = some (l ++ [⟨y, false, z⟩]) by
              rw [List.take_add_one, HX.out]
              show rdChgs (ls.take i ++ [x]) = _
              rw [rdChgs_snoc, HRI.out, HRC.out, if_pos (by omega)]
              rfl)
            clear h1 h2 h3
            go_wp2_with (refine wpList_app33 (y := ⟨y, false, z⟩)  rfl _ _ rfl rfl rfl (HG3.out.call (((Fr.refl [] w2).alloc _).alloc _)) (by rw [HM4.out]; exact HSZ.out) (World.at_alloc_new _ _ _ (by simp)) (by omega) ?_)
            intro q5 c5 W5 G5
            have HG5 := Lib.hid G5
            clear G5 HG3 hcv g3 t3
            go_wp2_with fail
            go_roundw
            case rel => exact ⟨i + 1, q5, c5, _, hlt, by first | rfl | simp, by first | rfl | simp, Lib.hid ⟨HRS.out, HG5.out⟩⟩
            case measure => simp [intOf]; omega
      · obtain rfl : i = N := by omega
        have hd : decide ((i : Int) < (i : Int)) = false := by simp
        have htk : ls.take i = ls := List.take_of_length_le (by rw [← HN.out]; exact Nat.le_refl _)
        rw [htk] at hW
        have hll : l.length = i := hW.out.2.chs.len
        go_wp2_with fail
        refine bodyPost_ret (results_tmp2 rfl _ _ _) rfl ?_
        rw [HRL.out, hW.out.1]
        exact ⟨q, cp, w1, by rw [hll]; rfl, by rw [hll]; exact hW.out.2, HF1.out⟩
end
end Go.Proofs.Ytombhkekocbfoaa
namespace Go.Proofs.Ytombhkekocbfoaa
open Go.RowKit Go.Dr Go.St

theorem dkE45 : ElemT Try.prog 45 3 1 8 #[.int .i64 0] := ⟨Try.underlying45, by kernel_rfl, rfl⟩
theorem dkE46 : ElemT Try.prog 46 22 1 24 #[.slice none 0 0] := ⟨Try.underlying46, by kernel_rfl, rfl⟩
@[go_sem] theorem dk_one45 (w : World) (n : Int) : (buildOneK 45 #[(0, .int .i64 n)]).run Try.prog w = .ok (.slice (some ⟨w.heap.size, 0, none⟩) 1 1) (w.alloc (.cells #[.int .i64 n] 3)) :=
  dkE45.buildOne (by omega) (by omega) w _ rfl
@[go_sem] theorem dk_one46 (w : World) (p : Option Addr) (l c : Nat) : (buildOneK 46 #[(0, .slice p l c)]).run Try.prog w = .ok (.slice (some ⟨w.heap.size, 0, none⟩) 1 1) (w.alloc (.cells #[.slice p l c] 22)) :=
  dkE46.buildOne (by omega) (by omega) w _ rfl

structure RefIn (w : World) (r kb : Nat) (pa : Option Addr) (ca : Nat) (pb : Option Addr) (cb : Nat) (bs : List (Nat × Nat)) (m : DM) : Prop where
  hr : w.blk r = some (.cells #[.int .i64 m.n, .slice (some ⟨kb, 0, none⟩) (64 * m.n) (64 * m.n), .slice pa m.waits.length ca, .slice pb m.waits.length cb, .int .i64 m.fuse, .bool m.dead] 48 (0, 0))
  hk : w.blk kb = some (.cells (ints .u8 m.kept) 5 (0, 0))
  ha : OwnsR w 3 1 pa m.waits.length ca (m.waits.map fun x => .int .i64 x.1)
  hb : OwnsR w 22 1 pb m.waits.length cb (bs.map fun x => .slice (some ⟨x.1, 0, none⟩) 64 x.2)
  hl : bs.length = m.waits.length
  hx : ∀ i (h : i < bs.length) (h' : i < m.waits.length), ∃ cur T, w.blk bs[i].1 = some (.cells cur T (0, 0)) ∧ 64 ≤ cur.size ∧ cur.toList.take 64 = (m.waits[i]).2.map (Value.int .u8)
  n0 : r ≠ kb
  na : ∀ g, pa.map (·.block) = some g → g ≠ r ∧ g ≠ kb
  nb : ∀ g, pb.map (·.block) = some g → g ≠ r ∧ g ≠ kb ∧ pa.map (·.block) ≠ some g
  nx : ∀ x ∈ bs, x.1 ≠ r ∧ x.1 ≠ kb ∧ pa.map (·.block) ≠ some x.1 ∧ pb.map (·.block) ≠ some x.1
def rfpOf (r kb : Nat) (pa pb : Option Addr) (bs : List (Nat × Nat)) : List Nat := r :: kb :: ((pa.map (·.block)).toList ++ ((pb.map (·.block)).toList ++ bs.map (·.1)))
def RefAt (w : World) (r : Nat) (m : DM) (fp : List Nat) : Prop := ∃ kb pa ca pb cb bs, RefIn w r kb pa ca pb cb bs m ∧ fp = rfpOf r kb pa pb bs ∧ m.Ok

section
variable {w : World} {r : Nat} {m : DM} {fp : List Nat}
theorem RefIn.frame {w' : World} {kb : Nat} {pa : Option Addr} {ca : Nat} {pb : Option Addr} {cb : Nat} {bs : List (Nat × Nat)} (D : RefIn w r kb pa ca pb cb bs m) {gp : List Nat} (F : Fr gp w w') (h : ∀ k ∈ rfpOf r kb pa pb bs, k ∉ gp) :
    RefIn w' r kb pa ca pb cb bs m where
  hr := F.get D.hr (h r (by simp [rfpOf]))
  hk := F.get D.hk (h kb (by simp [rfpOf]))
  ha := F.owns D.ha (fun g hg => h g (by
    have : pa.map (·.block) = some g := by cases pa <;> first | exact hg | cases hg
    simp [rfpOf, this]))
  hb := F.owns D.hb (fun g hg => h g (by
    have : pb.map (·.block) = some g := by cases pb <;> first | exact hg | cases hg
    simp [rfpOf, this]))
  hl := D.hl
  hx := fun i h1 h2 => by
    obtain ⟨cur, T, e1, e2, e3⟩ := D.hx i h1 h2
    exact ⟨cur, T, F.get e1 (h _ (by simp only [rfpOf, List.mem_cons, List.mem_append, List.mem_map]; exact .inr (.inr (.inr (.inr ⟨_, List.getElem_mem h1, rfl⟩))))), e2, e3⟩
  n0 := D.n0
  na := D.na
  nb := D.nb
  nx := D.nx
theorem RefAt.frame {w' : World} (D : RefAt w r m fp) {gp : List Nat} (F : Fr gp w w') (h : ∀ k ∈ fp, k ∉ gp) : RefAt w' r m fp := by
  obtain ⟨kb, pa, ca, pb, cb, bs, D, rfl, ok⟩ := D
  exact ⟨kb, pa, ca, pb, cb, bs, D.frame F h, rfl, ok⟩
theorem RefAt.lt (D : RefAt w r m fp) : ∀ k ∈ fp, k < w.heap.size := by
  obtain ⟨kb, pa, ca, pb, cb, bs, D, rfl, ok⟩ := D
  intro k hk
  simp only [rfpOf, List.mem_cons, List.mem_append, Option.mem_toList, List.mem_map] at hk
  rcases hk with rfl | rfl | hk | hk | ⟨x, hx, rfl⟩
  · exact World.at_lt D.hr
  · exact World.at_lt D.hk
  · exact (D.ha.lt k (by cases pa <;> first | exact hk | cases hk)).2
  · exact (D.hb.lt k (by cases pb <;> first | exact hk | cases hk)).2
  · obtain ⟨i, hi, rfl⟩ := List.getElem_of_mem hx
    obtain ⟨cur, T, e1, _⟩ := D.hx i hi (by rw [← D.hl]; exact hi)
    exact World.at_lt e1
/-- Only the flags turn. -/
theorem RefIn.flags {kb : Nat} {pa : Option Addr} {ca : Nat} {pb : Option Addr} {cb : Nat} {bs : List (Nat × Nat)} (D : RefIn w r kb pa ca pb cb bs m) (f : Int) (b : Bool) :
    RefIn (w.put r (.cells #[.int .i64 m.n, .slice (some ⟨kb, 0, none⟩) (64 * m.n) (64 * m.n), .slice pa m.waits.length ca, .slice pb m.waits.length cb, .int .i64 f, .bool b] 48 (0, 0))) r kb pa ca pb cb bs { m with fuse := f, dead := b } where
  hr := World.at_put_same _ _ _ (World.at_lt D.hr)
  hk := by rw [World.at_put_other _ _ _ _ D.n0]; exact D.hk
  ha := ((Fr.refl [r] w).put r _ (by simp)).owns D.ha (fun g hg => by
    have := (D.na g (by cases pa <;> first | exact hg | cases hg)).1
    simpa using this)
  hb := ((Fr.refl [r] w).put r _ (by simp)).owns D.hb (fun g hg => by
    have := (D.nb g (by cases pb <;> first | exact hg | cases hg)).1
    simpa using this)
  hl := D.hl
  hx := fun i h1 h2 => by
    obtain ⟨cur, T, e1, e2, e3⟩ := D.hx i h1 h2
    exact ⟨cur, T, by rw [World.at_put_other _ _ _ _ (fun h => (D.nx _ (List.getElem_mem h1)).1 h.symm)]; exact e1, e2, e3⟩
  n0 := D.n0
  na := D.na
  nb := D.nb
  nx := D.nx

theorem rnew_any (b : Int) (w : World) : Calls Try.prog 15 #[.int .i64 b] w fun e w' => ∃ r fp, e = .returned (.pointer (some ⟨r, 0, none⟩)) ∧ RefAt w' r (newM b) fp ∧ Fr [] w w' ∧ News w [] fp := by
  obtain ⟨n, hn1, hn2, hn⟩ : ∃ n : Nat, 1 ≤ n ∧ n ≤ 4096 ∧ max 1 (min b 4096) = (n : Int) := ⟨(max 1 (min b 4096)).toNat, by omega, by omega, by omega⟩
  have hn3 : 0 ≤ 64 * (n : Int) := by omega
  have hn4 : 64 * (n : Int) ≤ 1099511627776 := by omega
  have hn' : min (max b 1) 4096 = (n : Int) := by omega
  have hwr : IntKind.i64.wrap (64 * (n : Int)) = 64 * (n : Int) := by rw [IntKind.wrap_i64]; omega
  have hz : (64 * (n : Int)).toNat = 64 * n := by omega
  have hm : newM b = ⟨n, zs (64 * n), zs (64 * n), [], -1, false⟩ := by simp only [newM, hn, Int.toNat_natCast]
  have HM := Lib.hid hm
  clear hm
  go_enter Try.func15, Try.ntmps15
  go_wp2
  go_ret
  rw [HM.out]
  refine ⟨_, _, rfl, ⟨w.heap.size, none, 0, none, 0, [], ⟨?_, ?_, World.ownsRow_nil _ _ _ _, World.ownsRow_nil _ _ _ _, rfl, ?_, by omega, fun g h => by (cases h), fun g h => by (cases h), fun x h => by (cases h)⟩, rfl, ⟨hn1, hn2, length_zs _, length_zs _, by dsimp only; omega, by dsimp only; omega, fun x h => by (cases h)⟩⟩, ?_, ?_⟩
  · go_simp <;> rfl
  · go_simp
  · intro i h; cases h
  · exact ((Fr.refl _ _).alloc _).alloc _
  · intro k hk
    right
    simp only [rfpOf, Option.map_none, Option.toList_none, List.map_nil, List.append_nil, List.mem_cons, List.not_mem_nil, or_false] at hk
    omega
theorem rstep_any (D : RefAt w r m fp) : Calls Try.prog 42 #[.pointer (some ⟨r, 0, none⟩)] w fun e w' => e = .returned (.bool (livesM m)) ∧ RefAt w' r (aliveM m) fp ∧ Fr fp w w' := by
  obtain ⟨kb, pa, ca, pb, cb, bs, D, rfl, ok⟩ := D
  have hok := aliveM_ok ok
  have hd := D.hr
  have hdl := World.at_lt hd
  have hf1 := ok.f1
  have hf2 := ok.f2
  have hfp : r ∈ rfpOf r kb pa pb bs := by simp [rfpOf]
  by_cases h2 : m.fuse = 0
  · have h2' : (m.fuse == 0) = true := by simp [h2]
    have e1 : livesM m = false := by simp [livesM, h2]
    have e2 : aliveM m = { m with fuse := m.fuse, dead := true } := by simp [aliveM, h2]
    rw [e2] at hok ⊢
    rw [e1]
    clear h2 e1 e2
    go_enter Try.func42, Try.ntmps42
    go_wp2
    go_ret
    exact ⟨rfl, ⟨kb, pa, ca, pb, cb, bs, D.flags m.fuse true, rfl, hok⟩, (Fr.refl _ _).put _ _ (fun _ => hfp)⟩
  · have h2' : (m.fuse == 0) = false := by simp [h2]
    by_cases h1 : m.dead = true
    · have e1 : livesM m = false := by simp [livesM, h1]
      have e2 : aliveM m = m := by
        obtain ⟨a1, a2, a3, a4, a5, a6⟩ := m
        simp only at h1; subst h1; rfl
      rw [e1, e2]
      have D' := Lib.hid D
      rw [h1] at hd
      go_enter Try.func42, Try.ntmps42
      go_wp2
      go_ret
      exact ⟨rfl, ⟨kb, pa, ca, pb, cb, bs, D'.out, rfl, ok⟩, Fr.refl _ _⟩
    · have h1' : m.dead = false := by simpa using h1
      have e1 : livesM m = true := by simp [livesM, h1', h2]
      by_cases h3 : 0 < m.fuse
      · have e2 : aliveM m = { m with fuse := m.fuse - 1, dead := false } := by simp [aliveM, h1', h2, h3]
        rw [e2] at hok ⊢
        rw [e1]
        rw [h1'] at hd
        clear h1 h2
        go_enter Try.func42, Try.ntmps42
        go_wp2
        go_ret
        exact ⟨rfl, ⟨kb, pa, ca, pb, cb, bs, D.flags (m.fuse - 1) false, rfl, hok⟩, (Fr.refl _ _).put _ _ (fun _ => hfp)⟩
      · have e2 : aliveM m = m := by
          obtain ⟨a1, a2, a3, a4, a5, a6⟩ := m
          simp only at h1' h3 h2; subst h1'
          simp [aliveM, h2, h3]
        rw [e1, e2]
        have h3' : m.fuse ≤ 0 := by omega
        have D' := Lib.hid D
        rw [h1'] at hd
        clear h1 h2
        go_enter Try.func42, Try.ntmps42
        go_wp2
        go_ret
        exact ⟨rfl, ⟨kb, pa, ca, pb, cb, bs, D'.out, rfl, ok⟩, Fr.refl _ _⟩
end
end Go.Proofs.Ytombhkekocbfoaa
