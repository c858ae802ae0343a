/- Joined: SoN, SoP. -/
import Derived.Test.YtombhkekocbfoaaZm
import Derived.Test.YtombhkekocbfoaaZh
import Derived.Sort.KeysCollected
import Derived.Maps.OwnSet
set_option linter.unusedVariables false
set_option linter.unusedSimpArgs false
namespace Go.St
open Go.Kd Go.Dr
def u8 (l : Bs) : List UInt8 := l.map fun n => UInt8.ofNat n.toNat
theorem u8_lt : ∀ {a b : Bs}, Byt a → Byt b → (u8 a < u8 b ↔ a < b) := by
  intro a
  induction a with
  | nil => intro b _ _; cases b <;> simp [u8]
  | cons x a ih =>
    intro b ha hb
    cases b with
    | nil => simp [u8]
    | cons y b =>
      have hx := ha x (by simp)
      have hy := hb y (by simp)
      have h1 : u8 (x :: a) = UInt8.ofNat x.toNat :: u8 a := rfl
      have h2 : u8 (y :: b) = UInt8.ofNat y.toNat :: u8 b := rfl
      have h3 : UInt8.ofNat x.toNat < UInt8.ofNat y.toNat ↔ x < y := by
        rw [UInt8.lt_iff_toNat_lt, UInt8.toNat_ofNat', UInt8.toNat_ofNat', Nat.mod_eq_of_lt (by omega), Nat.mod_eq_of_lt (by omega)]; omega
      have h4 : UInt8.ofNat x.toNat = UInt8.ofNat y.toNat ↔ x = y := by
        rw [← UInt8.toNat_inj, UInt8.toNat_ofNat', UInt8.toNat_ofNat', Nat.mod_eq_of_lt (by omega), Nat.mod_eq_of_lt (by omega)]; omega
      rw [h1, h2, List.cons_lt_cons_iff, List.cons_lt_cons_iff, ih (fun z hz => ha z (by simp [hz])) (fun z hz => hb z (by simp [hz])), h3, h4]
theorem keys_sorted {L : List (Bs × Bs)} {ss : List (List UInt8)} (h : ss.Perm (L.map fun x => u8 x.1)) (hs : Sorted L) (hb : ∀ x ∈ L, Byt x.1) : ss.mergeSort (fun x y => decide (x ≤ y)) = L.map fun x => u8 x.1 := by
  have h1 := mergeSort_of_perm h
  refine Eq.trans h1 (List.mergeSort_of_pairwise ?_)
  refine List.pairwise_map.2 (hs.imp_of_mem fun {x y} hx hy hlt => ?_)
  have := (u8_lt (hb x hx) (hb y hy)).2 hlt
  simp only [leB, decide_eq_true_eq]
  exact List.le_of_lt this
theorem u8_str (l : Bs) : Go.Proofs.encStr (u8 l) = .string (strB l) := rfl
end Go.St
namespace Go
open Go.WideElems (rd rg Fit)
open Go.Dr
def anyR (v : Value) : Option (DataW Unit × List MemPlace) := some (.lit (.bool true), [])
def keyL (kvs : List (ByteArray × Value)) : List (Lit × DataW Unit) := kvs.map fun p => (Lit.string p.1.data.toList, .lit (.bool true))
def ownD (kvs : List (ByteArray × Value)) : DataW Unit := .map ((keyL kvs).foldr DataW.insert [])
theorem map_pair {α β γ δ : Type} {f : α → β × γ} {l : List α} {m : List δ} {g : δ → β × γ} (h : l.map f = m.map g) {φ : α → Lit × DataW Unit} {ψ : δ → Lit × DataW Unit} (k : ∀ x ∈ l, ∀ y ∈ m, f x = g y → φ x = ψ y) : l.map φ = m.map ψ := by
  induction l generalizing m with
  | nil => cases m with
    | nil => rfl
    | cons y m => cases h
  | cons x l ih => cases m with
    | nil => cases h
    | cons y m =>
      simp only [List.map_cons, List.cons.injEq] at h ⊢
      exact ⟨k x (by simp) y (by simp) h.1, ih h.2 fun a ha b hb => k a (by simp [ha]) b (by simp [hb])⟩
theorem MapT.owns {P : Program} {kt : TypeId} {w : World} {b : Nat} {kvs : List (ByteArray × Value)} (h : MapT w b kvs) (hk : P.underlying kt = some .string) (hnd : (kvs.map (·.1)).Nodup) (hn : kvs.length ≤ maxLen) (hsz : ∀ p ∈ kvs, p.1.size ≤ maxLen) :
    w.ownsMap P kt anyR b kvs.length (ownD kvs) := by
  obtain ⟨es, clock, hb, he, hs1, hs2⟩ := h.ex
  have hlen : es.size = kvs.length := by
    have := congrArg List.length he
    simpa using this
  have hkey : ∀ x ∈ es.toList, ∀ y ∈ kvs, (x.key, x.val) = (Value.string y.1, y.2) → rd P kt anyR x = some (Lit.string y.1.data.toList, .lit (.bool true)) := by
    intro x hx y hy e
    have e1 : x.key = Value.string y.1 := congrArg Prod.fst e
    unfold rd
    rw [e1, Go.WideMaps.keyOf_string_mk hk (hsz y hy)]
    rfl
  have hex : ∀ x ∈ es.toList, ∃ y ∈ kvs, (x.key, x.val) = (Value.string y.1, y.2) := by
    intro x hx
    have : (x.key, x.val) ∈ es.toList.map (fun e => (e.key, e.val)) := List.mem_map.2 ⟨x, hx, rfl⟩
    rw [he] at this
    obtain ⟨y, hy, e⟩ := List.mem_map.1 this
    exact ⟨y, hy, e.symm⟩
  refine ⟨es, clock, hb, ⟨by omega, ⟨hs1, hs2, ?_⟩, fun x hx => ?_⟩, by omega, ?_⟩
  · have e1 : es.toList.map (·.key) = (kvs.map (·.1)).map Value.string := by
      have := congrArg (List.map Prod.fst) he
      simpa [Function.comp_def] using this
    rw [e1]
    exact List.pairwise_map.2 (hnd.imp fun h e => h (by cases e; rfl))
  · obtain ⟨y, hy, e⟩ := hex x hx
    exact ⟨_, hkey x hx y hy e⟩
  · unfold ownD keyL
    congr 2
    refine (map_pair he fun x hx y hy e => ?_).symm
    unfold rg
    rw [hkey x hx y hy e]
    rfl
theorem keys_own (kvs : List (ByteArray × Value)) : (strKeys (ownD kvs)).Perm (kvs.map fun p => p.1.data.toList) := by
  have h := (Go.WideShapes.sorted_perm (keyL kvs)).map fun p => strOf p.1
  refine List.Perm.trans h (List.Perm.of_eq ?_)
  unfold keyL
  rw [List.map_map]
  rfl
theorem size_own (kvs : List (ByteArray × Value)) : Maps.size (ownD kvs) = kvs.length := by
  show ((keyL kvs).foldr DataW.insert []).length = _
  rw [DataW.length_sorted]
  simp [keyL]
end Go
namespace Go.Proofs.Ytombhkekocbfoaa
open Go.RowKit Go.Dr Go.Kd Go.St
/-- A slice of bytes that may be written. -/
def WrL (w : World) (q : Option Addr) (n c : Nat) (l : Bs) : Prop := n ≤ c ∧ (n = 0 ∨ ∃ b off cs T, q = some ⟨b, off, none⟩ ∧ w.blk b = some (.cells cs T (0, 0)) ∧ off + n ≤ cs.size ∧ (cs.extract off (off + n)).toList = l.map (Value.int .u8))
theorem WrL.of {w : World} {b n c : Nat} {l : Bs} {r : Array Value} {e : TypeId} (hb : w.blk b = some (.cells (rowR .u8 l r) e (0, 0))) (hn : l.length = n) (hc : n ≤ c) : WrL w (some ⟨b, 0, none⟩) n c l := by
  refine ⟨hc, .inr ⟨b, 0, _, e, rfl, hb, by rw [size_rowR]; omega, ?_⟩⟩
  rw [rowR, Array.toList_extract, List.extract_eq_take_drop, Array.toList_append, toList_ints, List.drop_zero, Nat.zero_add, Nat.sub_zero, List.take_append_of_le_length (by rw [List.length_map]; omega), List.take_of_length_le (by rw [List.length_map]; omega)]
theorem Bld.wr {w0 w : World} {L : List (Nat × Obj)} {e : Nat} {q : Option Addr} {n c : Nat} {l : List Int} (h : Bld w0 L .u8 e w q n c l) : WrL w q n c l := by
  have hl := h.len
  have hc := h.cap_le
  rcases h.row.2 with ⟨hv, h0⟩ | ⟨g, c', cur, hv, _, hg, hnc, hcm, hcs, ht⟩
  · exact ⟨hc.1, .inl h0⟩
  · simp only [Value.slice.injEq] at hv
    obtain ⟨rfl, _, rfl⟩ := hv
    refine ⟨hc.1, .inr ⟨g, 0, cur, e, rfl, hg, by rw [hcs]; omega, ?_⟩⟩
    rw [Array.toList_extract, List.extract_eq_take_drop]
    simpa using ht
theorem WrL.fr {fp : List Nat} {w w' : World} {q : Option Addr} {n c : Nat} {l : Bs} (h : WrL w q n c l) (F : Fr fp w w') (hn : ∀ b, q.map (·.block) = some b → b ∉ fp) : WrL w' q n c l := by
  refine ⟨h.1, ?_⟩
  rcases h.2 with h0 | ⟨b, off, cs, T, rfl, hb, hs, hx⟩
  · exact .inl h0
  · exact .inr ⟨b, off, cs, T, rfl, F.get hb (hn b rfl), hs, hx⟩
theorem Bld.hold {w w' : World} {k : IntKind} {e : Nat} {q : Option Addr} {n c : Nat} {l : List Int} (h : Bld w [] k e w' q n c l) : ∃ M, OwB w M w' ∧ (∀ W, Has M W → Sl k W q n c l ∧ (k = .u8 → WrL W q n c l)) ∧ ∀ a, q = some a → w.heap.size ≤ a.block := by
  have hl := h.len
  have hc := h.cap_le
  cases q with
  | none =>
    have hn : n = 0 ∧ c = 0 := by
      rcases h.row.2 with ⟨hv, h0⟩ | ⟨g, c, cur, hv, _⟩
      · simp only [Value.slice.injEq] at hv
        omega
      · cases hv
    obtain ⟨rfl, rfl⟩ := hn
    exact ⟨[], h.own, fun W _ => ⟨⟨hl, Nat.le_refl 0, .inl rfl, fun _ => rfl, by simp⟩, fun _ => ⟨Nat.le_refl 0, .inl rfl⟩⟩, by simp⟩
  | some a =>
    have ha : ∃ b, a = ⟨b, 0, none⟩ := by
      rcases h.row.2 with ⟨hv, h0⟩ | ⟨g, c, cur, hv, _⟩
      · cases hv
      · simp only [Value.slice.injEq, Option.some.injEq] at hv
        exact ⟨g, hv.1⟩
    obtain ⟨b, rfl⟩ := ha
    obtain ⟨r, O, hcr⟩ := h.room
    refine ⟨_, O, fun W hW => ?_, fun a ha => by cases ha; exact (h.new b rfl).1⟩
    have h2 := Sl.ofRow (o := 0) (n := n) (cap := c) (hW.nth 0 rfl) (by omega) hc.1
    rw [List.drop_zero, List.take_of_length_le (by omega)] at h2
    refine ⟨h2, fun hk => ?_⟩
    subst hk
    exact WrL.of (hW.nth 0 rfl) hl hc.1
/-- What lies in slices is new. -/
def Nw (lo : Nat) (us : List Value) : Prop := ∀ u ∈ us, ∀ a m d, u = .slice (some a) m d → lo ≤ a.block
/-- What lies in slices may be written. -/
def Wv (W : World) (us : List Value) : Prop := ∀ u ∈ us, ∀ q m d, u = .slice q m d → ∃ l, isBytes l ∧ WrL W q m d l
/-- Growing changes, with what they lie in, whose values are new. -/
structure GchN (w0 : World) (X : List (Nat × Obj)) (w : World) (q : Option Addr) (k c : Nat) (l : List Chg) : Prop where
  ex : ∃ (us : List Value) (M : List (Nat × Obj)), BldV w0 (M ++ X) 32 3 w q k c us ∧ (∀ W, Has M W → ChV W us l ∧ Wv W us) ∧ Nw w0.heap.size us
section
variable {w0 w w' : World} {X M : List (Nat × Obj)} {q p : Option Addr} {k c m d : Nat} {l : List Chg}
theorem GchN.nil (h : OwB w0 X w) : GchN w0 X w none 0 0 [] := ⟨[], [], BldV.nil h, (fun _ _ => ⟨.nil, fun u hu => by cases hu⟩), fun u hu => by cases hu⟩
theorem GchN.call (h : GchN w0 X w q k c l) (F : Fr [] w w') : GchN w0 X w' q k c l := by
  obtain ⟨us, M, B, S, N⟩ := h.ex
  exact ⟨us, M, B.call F, S, N⟩
theorem GchN.gch (h : GchN w0 X w q k c l) : Gch w0 X w q k c l := by
  obtain ⟨us, M, B, S, N⟩ := h.ex
  exact ⟨us, M, B, fun W hW => (S W hW).1⟩
theorem GchN.with (h : GchN w0 X w q k c l) (O : OwB w M w') : GchN w0 (M ++ X) w' q k c l := by
  obtain ⟨us, N, B, S, Nn⟩ := h.ex
  exact ⟨us, N, (B.with O).perm' (by rw [← List.append_assoc, ← List.append_assoc]; exact List.Perm.append_right _ List.perm_append_comm), S, Nn⟩
theorem GchN.keep (h : GchN w0 (M ++ X) w q k c l) : ∃ us N, BldV w0 ((N ++ M) ++ X) 32 3 w q k c us ∧ (∀ W, Has (N ++ M) W → (ChV W us l ∧ Wv W us) ∧ Has M W) ∧ Nw w0.heap.size us := by
  obtain ⟨us, N, B, S, Nn⟩ := h.ex
  exact ⟨us, N, by rw [List.append_assoc]; exact B, (fun W hW => ⟨S W hW.of_append.1, hW.of_append.2⟩), Nn⟩
theorem GchN.base {wa : World} (h : GchN w0 X w q k c l) (F : Fr [] wa w0) : GchN wa X w q k c l := by
  obtain ⟨us, M, B, S, N⟩ := h.ex
  exact ⟨us, M, ⟨⟨B.own.has, B.own.nd, fun p hp => Nat.le_trans F.size (B.own.lo p hp), F.trans B.own.fr⟩, B.row, fun g hg => ⟨Nat.le_trans F.size (B.new g hg).1, (B.new g hg).2⟩⟩, S, fun u hu a m d e => Nat.le_trans F.size (N u hu a m d e)⟩
variable {ops : Array Oper} {rest : List Oper} {o : Oper} {a : Act} {Q : Exit → Act → World → Prop}
theorem wpList_app33N (hgd : o.guard = none) (s x : Operand) (ho : o.op = .call { callee := .builtin .append, args := #[s, x], argTypes := #[33, 33] })
    (hs : a.eval s = .slice q k c) {b : Nat} (hx : a.eval x = .slice (some ⟨b, 0, none⟩) 1 1) {fr : Nat × Nat} {y : Chg} (G : GchN w0 (M ++ X) w q k c l) (S : ∀ W, Has M W → Sl .u8 W p m d y.val ∧ WrL W p m d y.val) (hyb : isBytes y.val) (hnew : ∀ a, p = some a → w0.heap.size ≤ a.block) (hb : w.blk b = some (.cells #[.string (strB y.name), .slice p m d, .bool y.gone] 32 fr)) (hbig : k + 1 ≤ 1000000)
    (h : ∀ q' c' w', GchN w0 X w' q' (k + 1) c' (l ++ [y]) → wpList Try.prog ops Q rest (a.put o.dst (.slice q' (k + 1) c')) w') : wpList Try.prog ops Q (o :: rest) a w := by
  obtain ⟨us, N, B, hC, Nn⟩ := G.keep
  obtain ⟨i, hi, hz, hs1, hb1⟩ := info_parts info32
  have Sv3 : Sv 3 w (some ⟨b, 0, none⟩) 1 1 [.string (strB y.name), .slice p m d, .bool y.gone] :=
    ⟨rfl, Nat.le_refl 1, .inr ⟨b, 0, _, 32, fr, rfl, hb, by simp, by simp⟩, (fun h => by cases h), trivial⟩
  refine wpList_apdV hgd s x 33 33 ho Try.underlying33 hi hz hs1 (by omega) hb1 rfl hs B hx (Apd.ofSrc Try.underlying33 hi hz (by rw [hs1]; exact Sv3.src Try.underlying33 (by simp [Value.oneCell']))) (by omega) (by omega) fun q' c' w' B' => h q' c' w' ⟨us ++ [.string (strB y.name), .slice p m d, .bool y.gone], N ++ M, B', (fun W hW => ⟨(hC W hW).1.1.append (.cons (S W (hC W hW).2).1 .nil), fun u hu q' m' d' e => ?_⟩), fun u hu a m' d' e => ?_⟩
  · rcases List.mem_append.1 hu with hu | hu
    · exact (hC W hW).1.2 u hu q' m' d' e
    · subst e
      simp only [List.mem_cons, List.not_mem_nil, or_false] at hu
      rcases hu with h1 | h1 | h1
      · cases h1
      · cases h1; exact ⟨y.val, hyb, (S W (hC W hW).2).2⟩
      · cases h1
  rcases List.mem_append.1 hu with hu | hu
  · exact Nn u hu a m' d' e
  · subst e
    simp only [List.mem_cons, List.not_mem_nil, or_false] at hu
    rcases hu with h1 | h1 | h1
    · cases h1
    · cases h1; exact hnew a rfl
    · cases h1
end
section
variable {w : World}
theorem fr_of_below {w w' : World} {n : Nat} (h : Below n w w') (hn : w.heap.size ≤ n) : Fr [] w w' := ⟨h.os, h.tape, h.output, h.size, fun k hk _ => h.block k (by omega)⟩
theorem names_row {W : World} {base : Nat} {v : Value} {n : Nat} {L : List (Bs × Bs)} (h : W.ownsRow base 9 1 v n (L.map fun x => Value.string (strB x.1))) :
    ∃ q c, v = .slice q L.length c ∧ ∀ (i : Nat) (x : Bs × Bs), L[i]? = some x → ∃ g cur, q = some ⟨g, 0, none⟩ ∧ W.blk g = some (.cells cur 9 (0, 0)) ∧ ∃ h : i < cur.size, cur[i] = Value.string (strB x.1) := by
  obtain ⟨h1, h2⟩ := h
  rw [List.length_map, Nat.mul_one] at h1
  subst h1
  rcases h2 with ⟨rfl, h3⟩ | ⟨g, cap, cur, rfl, _, hg, hnc, _, hcs, ht⟩
  · have : L = [] := List.eq_nil_of_length_eq_zero h3
    subst this
    exact ⟨none, 0, rfl, fun i x hx => by simp at hx⟩
  · refine ⟨_, cap, rfl, fun i x hx => ⟨g, cur, rfl, hg, ?_⟩⟩
    have h4 := congrArg (fun l => l[i]?) ht
    have hi := (List.getElem?_eq_some_iff.1 hx).1
    simp only [List.getElem?_map, hx, Option.map_some] at h4
    rw [Nat.mul_one, List.getElem?_take, if_pos hi, Array.getElem?_toList] at h4
    exact Array.getElem?_eq_some_iff.1 h4
set_option maxRecDepth 100000 in
set_option maxHeartbeats 4000000 in
theorem list_f {mb : Nat} {L : List (Bs × Bs)} {fp : List Nat} (M : MapAt w mb L fp) (hS : Sorted L) (hE : ∀ x ∈ L, EntOk x) (hn : L.length ≤ 64) :
    Calls Try.prog 39 #[.map (some mb)] w fun e w' => ∃ q c, e = .returned (.slice q L.length c) ∧ GchN w [] w' q L.length c (asC L) := by
  have hb : ∀ x ∈ L, Byt x.1 := fun x hx => (hE x hx).nb
  have HM := Lib.hid M
  have HS := Lib.hid hS
  have HE := Lib.hid hE
  have HB := Lib.hid hb
  have hfacts : ∃ kvs : List (ByteArray × Value), w.ownsMap Try.prog 9 anyR mb kvs.length (ownD kvs) ∧ kvs.length = L.length ∧ (strKeys (ownD kvs)).Perm (L.map fun x => u8 x.1) := by
    obtain ⟨-, kvs, g, hm, hr, -⟩ := M
    have hp : (kvs.map (·.1)).Perm (L.map fun x => strB x.1) := by
      have h := hr.perm.map Prod.fst
      rwa [List.map_map] at h
    refine ⟨kvs, hm.owns Try.underlying9 ?_ (by rw [hr.len]; unfold maxLen; omega) ?_, hr.len, (keys_own kvs).trans ?_⟩
    · refine hp.symm.nodup (List.pairwise_map.2 (hS.imp_of_mem fun {x y} hx hy hlt e => ?_))
      have := strB_inj (hb x hx) (hb y hy) e
      rw [this] at hlt
      exact bs_irrefl _ hlt
    · intro p hp2
      have h1 := hp.mem_iff.1 (List.mem_map_of_mem hp2)
      obtain ⟨x, hx, e⟩ := List.mem_map.1 h1
      have h2 := (hE x hx).n2
      rw [← e, strB_size]
      unfold maxLen; omega
    · have h := hp.map fun s : ByteArray => s.data.toList
      rw [List.map_map, List.map_map] at h
      exact h
  obtain ⟨kvs, hown, hkl, hper⟩ := hfacts
  obtain ⟨n, hnl⟩ : ∃ n, n = L.length := ⟨_, rfl⟩
  have HN := Lib.hid hnl
  rw [← hnl] at hn hkl ⊢
  have hsz := size_own kvs
  have HOW := Lib.hid hown
  have HPER := Lib.hid hper
  have HSZ := Lib.hid (hsz.trans hkl)
  clear M hS hE hb hown hper hsz hnl hkl
  go_enter Try.func39, Try.ntmps39
  go_wp2_with fail
  refine (callsIn_wide.1 (Try.maps_Keys_60 (some mb) _)).mono ?_
  rintro e w1 ⟨rfl, rfl⟩
  go_wp2_with fail
  refine (callsIn_wide.1 (Try.slices_Sorted_keys_59_60 mb _ _ anyR w HOW.out (by rw [HSZ.out]; unfold maxLen; omega) (by rw [HSZ.out]; omega))).mono ?_
  rintro e w2 ⟨v, ss, rfl, hperm, hrow, -, hbel⟩
  have F2 : Fr [] w w2 := ((Fr.refl [] w).alloc _).trans (fr_of_below hbel (Nat.le_refl _))
  rw [keys_sorted (hperm.trans HPER.out) HS.out HB.out, List.map_map] at hrow
  obtain ⟨q9, c9, rfl, hrow2⟩ := names_row (L := L) hrow
  have HROW := Lib.hid hrow2
  have HF2 := Lib.hid F2
  have HG0 := Lib.hid (GchN.nil (OwB.start w2))
  have HM2 := Lib.hid (HM.out.fr0 F2)
  rw [← HN.out]
  clear hrow hrow2 hperm hbel F2
  go_wp2_with fail
  go_loopw [3, 10] (fun v iv wy => ∃ (i : Nat) (q : Option Addr) (cp : Nat), i ≤ n ∧ v = .slice q i cp ∧ iv = .int .i64 (i : Int) ∧ Hid (GchN w2 [] wy q i cp (asC (L.take i)))) (fun _ iv _ => (n - intOf iv).toNat)
  case atStart => exact ⟨0, none, 0, by omega, rfl, rfl, HG0⟩
  case round =>
    obtain ⟨i, q, cp, hin, rfl, rfl, hW⟩ := hrel
    by_cases hlt : i < n
    · have hd : decide ((i : Int) < (n : Int)) = true := by rw [decide_eq_true_eq]; omega
      have hgx : ∃ x, L[i]? = some x := ⟨_, List.getElem?_eq_getElem (by rw [← HN.out]; exact hlt)⟩
      obtain ⟨x, hx⟩ := hgx
      have hxm := List.mem_of_getElem? hx
      obtain ⟨g, cur, rfl, hg, hi, hci⟩ := HROW.out i x hx
      have fg := hW.out.gch.own.fr.get hg (by simp)
      have tg := World.at_lt fg
      obtain ⟨q1, m1, d1, -, hl, S1⟩ := (HM2.out.fr0 hW.out.gch.own.fr).look HS.out HB.out (HB.out x hxm)
      rw [getL_some HS.out hxm] at S1
      have HS1 := Lib.hid S1
      have hlen : m1 ≤ 4000 := by
        have h1 := S1.len
        have h2 := (HE.out x hxm).v
        simp only [Option.getD_some] at h1
        omega
      have HVB := Lib.hid (HE.out x hxm).vb
      have htk : L.take (i + 1) = L.take i ++ [x] := by rw [List.take_add_one, hx]; rfl
      have HTK := Lib.hid htk
      obtain ⟨X, hX⟩ : ∃ X, X = strB x.1 := ⟨_, rfl⟩
      rw [← hX] at hl hci
      have HX := Lib.hid hX
      have wi : IntKind.i64.wrap ((i : Int) + 1) = ((i + 1 : Nat) : Int) := by rw [IntKind.wrap_i64]; omega
      have ki : (i : Int) < (n : Int) := by omega
      clear hx hxm hg htk hX S1
      go_wp2_with fail
      refine (clone_f HS1.out (by omega)).mono ?_
      rintro en w3 ⟨q3, c3, rfl, B3⟩
      obtain ⟨M3, O3, hS3, hN3⟩ := Bld.hold B3
      have HG3 := Lib.hid (hW.out.with O3)
      have HS3 := Lib.hid hS3
      have HN3 := Lib.hid hN3
      have HLO := Lib.hid (show w2.heap.size ≤ wr.heap.size from hW.out.gch.own.fr.size)
      clear B3 O3 hS3 hN3 hW fg tg hl
      have hss : ∀ W, Has M3 W → Sl .u8 W q3 m1 c3 (Chg.val ⟨x.1, false, x.2⟩) ∧ WrL W q3 m1 c3 (Chg.val ⟨x.1, false, x.2⟩) := fun W hW => ⟨(HS3.out W hW).1, (HS3.out W hW).2 rfl⟩
      have HSS := Lib.hid hss
      clear hss
      go_wp2_with (refine wpList_app33N (y := ⟨x.1, false, x.2⟩) rfl _ _ rfl rfl rfl (HG3.out.call ((Fr.refl [] w3).alloc _)) HSS.out HVB.out (fun a ha => Nat.le_trans HLO.out (HN3.out a ha)) (by rw [HX.out]; exact World.at_alloc_new _ _ _ (by simp)) (by omega) ?_)
      intro q5 c5 W5 G5
      have HG5 := Lib.hid G5
      clear G5 HG3
      go_wp2_with fail
      go_roundw
      case rel => exact ⟨i + 1, q5, c5, hlt, by first | rfl | simp, by first | rfl | simp, Lib.hid (by rw [HTK.out, asC, List.map_append]; exact HG5.out)⟩
      case measure => simp [intOf]; omega
    · obtain rfl : i = n := by omega
      have hd : decide ((i : Int) < (i : Int)) = false := by simp
      have htk : L.take i = L := List.take_of_length_le (by rw [HN.out]; exact Nat.le_refl _)
      rw [htk] at hW
      go_wp2_with fail
      exact bodyPost_ret (results_tmp rfl _ _ _) rfl ⟨q, cp, rfl, hW.out.base HF2.out⟩
set_option maxRecDepth 100000 in
set_option maxHeartbeats 2000000 in
theorem all_sf {s d : Nat} {sp : SP} {m : DM} {fp : List Nat} (T : StAt w s d sp m fp) (hS : Sorted sp.L) (hE : ∀ x ∈ sp.L, EntOk x) (hn : sp.L.length ≤ 64) :
    Calls Try.prog 13 #[.pointer (some ⟨s, 0, none⟩)] w fun e w' => ∃ q c, e = .returned (.slice q sp.L.length c) ∧ GchN w [] w' q sp.L.length c (asC sp.L) := by
  obtain ⟨mb, f0, -, -, M⟩ := T.ex
  unfold stC at f0
  have t0 := World.at_lt f0
  have HM := Lib.hid M
  have HS := Lib.hid hS
  have HE := Lib.hid hE
  obtain ⟨n, hnl⟩ : ∃ n, n = sp.L.length := ⟨_, rfl⟩
  have HN := Lib.hid hnl
  rw [← hnl]
  clear T M hS hE hnl
  go_enter Try.func13, Try.ntmps13
  go_wp2_with fail
  refine (list_f HM.out HS.out HE.out hn).mono ?_
  rintro en w2 ⟨q2, c2, rfl, G⟩
  have HG := Lib.hid G
  clear G
  rw [← HN.out]
  go_wp2_with fail
  exact bodyPost_ret (results_tmp rfl _ _ _) rfl ⟨q2, c2, rfl, by rw [HN.out]; exact HG.out⟩
end
end Go.Proofs.Ytombhkekocbfoaa
namespace Go.Proofs.Ytombhkekocbfoaa
open Go.RowKit Go.Dr Go.Kd Go.St
/-- What Open answers. -/
def OpenR (w : World) (d : Nat) (fp : List Nat) (en : Ending) (w' : World) : Int × Option SP × DM → Prop
  | (E, some sp, m') => E = 0 ∧ ∃ s fp', en = .returned (.tuple #[.pointer (some ⟨s, 0, none⟩), .int .i64 0]) ∧ StAt w' s d sp m' fp' ∧ Fr fp w w' ∧ News w fp fp' ∧ w.heap.size ≤ s
  | (E, none, m') => ∃ fp', en = .returned (.tuple #[.pointer none, .int .i64 E]) ∧ DiskAt w' d m' fp' ∧ Fr fp w w' ∧ News w fp fp'
theorem LookR.no {o : Option (Option (Nat × Nat × Nat))} {e c n : Nat} {is : Bool} (h : LookR o e c n is false) : o = none := by
  cases o with
  | none => rfl
  | some x => cases x with
    | none => exact absurd h.2 (by simp)
    | some x => exact absurd h.2.1 (by simp)
theorem LookR.yes {o : Option (Option (Nat × Nat × Nat))} {e c n : Nat} {is : Bool} (h : LookR o e c n is true) : o = some (if is then some (e, c, n) else none) := by
  cases o with
  | none => exact absurd h (by simp [LookR])
  | some x => cases x with
    | none => rw [h.1]; rfl
    | some x => rw [h.1, h.2.2]; rfl
theorem DiskAt.frs {w w' : World} {d s : Nat} {m : DM} {fp : List Nat} (D : DiskAt w d m fp) (hs : s ∉ fp) (F : Fr [s] w w') : DiskAt w' d m fp := by
  obtain ⟨kb, sb, p, cap, D, rfl, ok⟩ := D
  have h : ∀ k ∈ fpOf d kb sb p, k ∉ [s] := fun k hk e => by
    rw [List.mem_singleton] at e
    subst e
    exact hs hk
  exact ⟨kb, sb, p, cap, ⟨F.get D.hd (h _ (by simp [fpOf])), F.get D.hk (h _ (by simp [fpOf])), F.get D.hs (h _ (by simp [fpOf])), F.owns D.hw (fun g hg => h _ (by unfold fpOf; simp only [List.mem_cons, Option.mem_toList]; exact .inr (.inr (.inr (by cases p with | none => cases hg | some a => simpa [Value.ownBlock] using hg))))), D.ne1, D.ne2, D.ne3, D.nw⟩, rfl, ok⟩
section
variable {w : World}
set_option maxRecDepth 100000 in
set_option maxHeartbeats 2000000 in
theorem open_nil : Calls Try.prog 9 #[.pointer none] w fun en w' => en = .returned (.tuple #[.pointer none, .int .i64 1]) ∧ w' = w := by
  go_enter Try.func9, Try.ntmps9
  go_wp2_with fail
  exact bodyPost_ret (results_tmp2 rfl _ _ _) rfl ⟨rfl, rfl⟩
set_option maxRecDepth 100000 in
set_option maxHeartbeats 8000000 in
theorem open_f {d : Nat} {m : DM} {fp : List Nat} (D : DiskAt w d m fp) (hN1 : m.n ≤ 1024) (hmb : isBytes m.seen) (hwl : m.waits.length + 1 ≤ 1000000) :
    Calls Try.prog 9 #[.pointer (some ⟨d, 0, none⟩)] w fun en w' => OpenR w d fp en w' (openM m) := by
  have HD := Lib.hid D
  have HMB := Lib.hid hmb
  have hsl : m.seen.length = 64 * m.n := by obtain ⟨_, _, _, _, _, _, ok⟩ := D; exact ok.sl
  have HSL := Lib.hid hsl
  have HF0 := Lib.hid (Fr.refl fp w)
  have HN0 := Lib.hid (show News w fp fp from fun k hk => .inl hk)
  have HFP := Lib.hid (show ∀ k ∈ fp, k < w.heap.size from fun k hk => DiskAt.lt D k hk)
  clear D hmb hsl
  obtain ⟨RR, hRR⟩ : ∃ RR, RR = openM m := ⟨_, rfl⟩
  rw [← hRR]
  have HR := Lib.hid hRR
  clear hRR
  go_enter Try.func9, Try.ntmps9
  go_wp2_with fail
  refine (blocks_any HD.out).mono ?_
  rintro en w1 ⟨rfl, rfl⟩
  by_cases hn4 : m.n < 4
  · have hd : decide ((m.n : Int) < 4) = true := by rw [decide_eq_true_eq]; omega
    have HR1 := Lib.hid (HR.out.trans (show openM m = (1, none, m) by rw [openM, if_pos hn4]))
    go_wp2_with fail
    refine bodyPost_ret (results_tmp2 rfl _ _ _) rfl ?_
    rw [HR1.out]
    exact ⟨fp, rfl, HD.out, HF0.out, HN0.out⟩
  have hd4 : decide ((m.n : Int) < 4) = false := by rw [decide_eq_false_iff_not]; omega
  go_wp2_with fail
  refine (blocks_any HD.out).mono ?_
  rintro en w1 ⟨rfl, rfl⟩
  obtain ⟨h, hh⟩ : ∃ h, h = m.n / 2 := ⟨_, rfl⟩
  have hq : (m.n : Int).tdiv 2 = (h : Int) := by rw [Int.tdiv_eq_ediv_of_nonneg (by omega)]; omega
  have hh2 : 2 ≤ h := by omega
  have hh3 : 2 * h ≤ m.n := by omega
  have HH := Lib.hid hh
  clear hh
  have hmk : ∀ W : World, (Instr.makeMap 70 none).run Try.prog W = .ok (.map (some W.heap.size)) (W.alloc (.map #[] 0)) := fun W => by simp [Instr.makeMap]
  go_upto_region 6 with (fail)
  have hlow := DiskAt.lt HD.out
  refine OwB.named (Q := fun X => Code.wp _ _ _ _ X) (((((OwB.start w).allocN (.map #[] 0) w.heap.size rfl).allocN (.cells #[.pointer (some ⟨d, 0, none⟩), .int .i64 (h : Int), .int .i64 0, .int .u64 0, .int .u32 0, .int .u32 0, .map (some w.heap.size), .bool false] 75) (w.heap.size + 1) (by simp)).allocN (.cells #[.int .u64 0, .int .u32 0, .int .u32 0, .int .u64 0, .int .u32 0, .int .u32 0] 76) (w.heap.size + 1 + 1) (by simp)).allocN (.cells #[.bool false, .bool false] 77) (w.heap.size + 1 + 1 + 1) (by simp)) ?_
  intro V hV
  obtain ⟨mb, hmb⟩ : ∃ mb, mb = w.heap.size := ⟨_, rfl⟩
  obtain ⟨s, hs⟩ : ∃ s, s = w.heap.size + 1 := ⟨_, rfl⟩
  obtain ⟨bx, hbx⟩ : ∃ bx, bx = w.heap.size + 1 + 1 := ⟨_, rfl⟩
  obtain ⟨bh, hbh⟩ : ∃ bh, bh = w.heap.size + 1 + 1 + 1 := ⟨_, rfl⟩
  rw [← hbh, ← hbx, ← hs, ← hmb] at hV ⊢
  have HLB := Lib.hid (show w.heap.size ≤ mb ∧ w.heap.size ≤ s by omega)
  obtain ⟨SC, hSC⟩ : ∃ SC : Array Value, SC = #[.pointer (some ⟨d, 0, none⟩), .int .i64 (h : Int), .int .i64 0, .int .u64 0, .int .u32 0, .int .u32 0, .map (some mb), .bool false] := ⟨_, rfl⟩
  rw [← hSC] at hV
  have HSC := Lib.hid hSC
  have szC : SC.size = 8 := by rw [hSC]; rfl
  have x1 := Array.getElem?_eq_some_iff.1 (show SC[1]? = some (.int .i64 h) by rw [hSC]; rfl)
  obtain ⟨x1', x1⟩ := x1
  have HV := Lib.hid hV
  have HHL := Lib.hid hlow
  clear hmb hs hbx hbh hSC hlow hq hd4 hmk
  have fs := hV.nth 2 rfl
  have ts := hV.lt 2 rfl
  clear hV
  repeat go_step
  refine wp_loop_rounds 3 ?_
  rw [rounds_succ]
  go_wp2_with fail
  refine (read_any (HD.out.fr0 HV.out.fr) _).mono ?_
  rintro en w2 ⟨v, rfl, hv, F2⟩
  cases hdd : m.dead with
  | true =>
    have hrd : readM m 0 = (150, []) := by
      unfold readM
      rw [show noBlock m 0 = false by simp [noBlock] <;> omega, hdd]
      rfl
    rw [hrd]
    have HR1 := Lib.hid (HR.out.trans (show openM m = (150, none, m) by rw [openM, if_neg hn4, hdd]; try rfl))
    have HF2 := Lib.hid (HV.out.fr.trans F2)
    clear hv hrd F2 hdd fs ts
    go_wp2_with fail
    refine bodyPost_ret (results_tmp2 rfl _ _ _) rfl ?_
    rw [HR1.out]
    exact ⟨fp, rfl, HD.out.fr0 HF2.out, HF2.out.mono (by simp), HN0.out⟩
  | false =>
    have hrd : readM m 0 = (0, blockOf m.seen 0) := by
      unfold readM
      rw [show noBlock m 0 = false by simp [noBlock] <;> omega, hdd]; try rfl
    rw [hrd] at hv ⊢
    have hblk : ∀ k : Nat, k < m.n → (blockOf m.seen k).length = 64 := fun k hk => by
      have := HSL.out
      simp [blockOf]; omega
    have hbyt : ∀ k : Nat, isBytes (blockOf m.seen k) := fun k x hx => HMB.out x (by
      unfold blockOf at hx
      exact List.mem_of_mem_take (List.mem_of_mem_drop hx))
    have hvs : ∀ (W : World) (v : Value) (k lo : Nat), k < m.n → ((v = .slice none 0 0 ∧ ((0 : Int), blockOf m.seen k).2 = []) ∨ ∃ bb, BytesAt W v bb ((0 : Int), blockOf m.seen k).2 ∧ lo ≤ bb) → ∃ q2 c2, v = .slice q2 64 c2 ∧ Sl .u8 W q2 64 c2 (blockOf m.seen k) := by
      intro W v k lo hk hv
      have hbk := hblk k hk
      rcases hv with ⟨_, h⟩ | ⟨bb, B, _⟩
      · have h2 : blockOf m.seen k = [] := h
        rw [h2] at hbk
        cases hbk
      · obtain ⟨q2, c2, h1, h2⟩ := B.sl
        rw [hbk] at h1 h2
        exact ⟨q2, c2, h1, h2⟩
    obtain ⟨q2, c2, rfl, S2⟩ := hvs _ _ _ _ (by omega) hv
    have HVS := Lib.hid hvs
    have HBY := Lib.hid hbyt
    have HS2 := Lib.hid S2
    have HV2 := Lib.hid (HV.out.call F2)
    have fs := HV2.out.nth 2 rfl
    have ts := HV2.out.lt 2 rfl
    have HDD := Lib.hid hdd
    clear hv hrd F2 hdd hblk hvs hbyt S2
    go_wp2_with fail
    refine (look_f HS2.out (HBY.out 0) rfl (by omega)).mono ?_
    rintro en w3 ⟨e0, c0, n0, is0, ok0, rfl, hL0, F3⟩
    cases ok0 with
    | false =>
      have hno := LookR.no hL0
      have HR1 := Lib.hid (HR.out.trans (show openM m = (160, none, m) by rw [openM, if_neg hn4, HDD.out, ← HH.out, hno]; try rfl))
      have HF3 := Lib.hid (fun o => (HV2.out.fr.trans F3).alloc o)
      clear hno hL0 F3 fs ts
      go_wp2_with fail
      refine bodyPost_ret (results_tmp2 rfl _ _ _) rfl ?_
      rw [HR1.out]
      exact ⟨fp, rfl, HD.out.fr0 (HF3.out _), (HF3.out _).mono (by simp), HN0.out⟩
    | true =>
      have HL0 := Lib.hid hL0
      have HV3 := Lib.hid (HV2.out.call F3)
      have fs := HV3.out.nth 2 rfl
      have ts := HV3.out.lt 2 rfl
      have fx := HV3.out.nth 1 rfl
      have tx := HV3.out.lt 1 rfl
      have fh := HV3.out.nth 0 rfl
      have th := HV3.out.lt 0 rfl
      have n1 := HV3.out.ne 0 1 rfl rfl (by decide)
      have n2 := HV3.out.ne 0 2 rfl rfl (by decide)
      have n3 := HV3.out.ne 1 2 rfl rfl (by decide)
      have n1' := n1.symm
      have n2' := n2.symm
      have n3' := n3.symm
      clear hL0 F3
      go_upto_region 16 with (fail)
      obtain ⟨bt, hbt⟩ : ∃ bt, bt = w3.heap.size := ⟨_, rfl⟩
      rw [← hbt]
      refine OwB.named (L := [(bh, .cells #[.bool is0, .bool false] 77), (bx, .cells #[.int .u64 e0, .int .u32 c0, .int .u32 n0, .int .u64 0, .int .u32 0, .int .u32 0] 76), (s, .cells SC 75), (mb, .map #[] 0)]) (Q := fun X => Code.wp _ _ _ _ X) (((HV3.out.set 1 (.cells (spl #[.int .u64 0, .int .u32 0, .int .u32 0, .int .u64 0, .int .u32 0, .int .u32 0] 0 [.int .u64 e0, .int .u32 c0, .int .u32 n0]) 76) rfl).set 0 (.cells #[.bool is0, .bool false] 77) rfl).call ((Fr.refl [] _).alloc _)) ?_
      clear hbt
      intro V4 hV4
      have HV4 := Lib.hid hV4
      clear hV4 fs ts fx tx fh th
      have fs := HV4.out.nth 2 rfl
      have ts := HV4.out.lt 2 rfl
      go_wp2_with fail
      rw [rounds_succ]
      go_wp2_with fail
      refine (read_any (HD.out.fr0 HV4.out.fr) _).mono ?_
      rintro en w5 ⟨v, rfl, hv, F5⟩
      have hrd : readM m (h : Int) = (0, blockOf m.seen h) := by
        unfold readM
        rw [show noBlock m (h : Int) = false by simp [noBlock] <;> omega, HDD.out]
        rfl
      rw [hrd] at hv ⊢
      obtain ⟨q3, c3, rfl, S3⟩ := HVS.out _ _ _ _ (by omega) hv
      have HS3 := Lib.hid S3
      have HV5 := Lib.hid (HV4.out.call F5)
      have fs := HV5.out.nth 2 rfl
      have ts := HV5.out.lt 2 rfl
      clear hv hrd F5 S3
      go_wp2_with fail
      refine (look_f HS3.out (HBY.out h) rfl (by omega)).mono ?_
      rintro en w6 ⟨e1, c1, n1e, is1, ok1, rfl, hL1, F6⟩
      cases ok1 with
      | false =>
        have hno := LookR.no hL1
        have hyes := LookR.yes HL0.out
        have HR1 := Lib.hid (HR.out.trans (show openM m = (160, none, m) by rw [openM, if_neg hn4, HDD.out, ← HH.out, hno, hyes]; cases is0 <;> rfl))
        have HF3 := Lib.hid (fun o => (HV5.out.fr.trans F6).alloc o)
        clear hno hyes hL1 F6 fs ts
        go_wp2_with fail
        refine bodyPost_ret (results_tmp2 rfl _ _ _) rfl ?_
        rw [HR1.out]
        exact ⟨fp, rfl, HD.out.fr0 (HF3.out _), (HF3.out _).mono (by simp), HN0.out⟩
      | true =>
        have HL1 := Lib.hid hL1
        have HV6 := Lib.hid (HV5.out.call F6)
        have fs := HV6.out.nth 2 rfl
        have ts := HV6.out.lt 2 rfl
        have fx := HV6.out.nth 1 rfl
        have tx := HV6.out.lt 1 rfl
        have fh := HV6.out.nth 0 rfl
        have th := HV6.out.lt 0 rfl
        clear hL1 F6
        go_upto_region 16 with (fail)
        obtain ⟨bt, hbt⟩ : ∃ bt, bt = w6.heap.size := ⟨_, rfl⟩
        rw [← hbt]
        refine OwB.named (L := [(bh, .cells #[.bool is0, .bool is1] 77), (bx, .cells #[.int .u64 e0, .int .u32 c0, .int .u32 n0, .int .u64 e1, .int .u32 c1, .int .u32 n1e] 76), (s, .cells SC 75), (mb, .map #[] 0)]) (Q := fun X => Code.wp _ _ _ _ X) (((HV6.out.set 1 (.cells (spl #[.int .u64 e0, .int .u32 c0, .int .u32 n0, .int .u64 0, .int .u32 0, .int .u32 0] 3 [.int .u64 e1, .int .u32 c1, .int .u32 n1e]) 76) rfl).set 0 (.cells #[.bool is0, .bool is1] 77) rfl).call ((Fr.refl [] _).alloc _)) ?_
        clear hbt
        intro V7 hV7
        have HV7 := Lib.hid hV7
        clear hV7 fs ts fx tx fh th
        go_wp2_with fail
        rw [rounds_succ]
        have fs := HV7.out.nth 2 rfl
        have ts := HV7.out.lt 2 rfl
        have fx := HV7.out.nth 1 rfl
        have tx := HV7.out.lt 1 rfl
        have fh := HV7.out.nth 0 rfl
        have th := HV7.out.lt 0 rfl
        have hl0 := LookR.yes HL0.out
        have hl1 := LookR.yes HL1.out
        have hor := HR.out
        rw [openM, if_neg hn4, HDD.out, ← HH.out, hl0, hl1] at hor
        have HRO := Lib.hid hor
        have HL0 := Lib.hid hl0
        have HL1 := Lib.hid hl1
        have x2 := Array.getElem?_eq_some_iff.1 (show SC[2]? = some (.int .i64 0) by rw [HSC.out]; rfl)
        obtain ⟨x2', x2⟩ := x2
        have hsf : s ∉ fp := fun h => by have := HHL.out s h; have := HLB.out.2; omega
        have HSF := Lib.hid hsf
        have HMAP := Lib.hid (show MapAt V7 mb [] fp from ⟨fun h => by have := HHL.out mb h; have := HLB.out.1; omega, [], fun _ => .bool false, ⟨#[], 0, HV7.out.nth 3 rfl, rfl, by simp, by simp⟩, ⟨List.Perm.refl _⟩, by simp⟩)
        clear hor hl0 hl1 hsf
        cases is0 with
        | false =>
          cases is1 with
          | false =>
            have hRR : RR = if (putM m 0 (headB 1 0 1)).1 then (0, some ⟨0, 1, 0, 1, [], false⟩, (putM m 0 (headB 1 0 1)).2) else (150, none, (putM m 0 (headB 1 0 1)).2) := HRO.out
            have HRR := Lib.hid hRR
            go_upto_region 19 with (fail)
            refine named_world (A := fun X => X.blk s = some (.cells (stC d (m.n / 2) 0 1 0 1 mb false) 75 (0, 0)) ∧ MapAt X mb [] fp ∧ DiskAt X d m fp ∧ Fr [] w X) (Q := fun X => Code.wp _ _ _ _ X) ⟨by rw [World.at_put_same _ _ _ ts]; congr 2; rw [HSC.out, ← HH.out]; rfl, HMAP.out.put fs (by rw [HSC.out]; intro u hu x e; subst e; simp at hu), (HD.out.fr0 HV7.out.fr).frs HSF.out ((Fr.refl [s] _).put s _ (fun _ => by simp)), HV7.out.fr.put s _ (fun hl => by have := HLB.out.2; omega)⟩ ?_
            rintro X ⟨fX, MX, DX, FX⟩
            have HFX := Lib.hid FX
            have HDX := Lib.hid DX
            have HMX := Lib.hid MX
            have HFs := Lib.hid fX
            obtain ⟨SX, hSX⟩ : ∃ SX, SX = stC d (m.n / 2) 0 1 0 1 mb false := ⟨_, rfl⟩
            rw [← hSX] at fX
            have szX : SX.size = 8 := by rw [hSX]; rfl
            have hex : SX.extract 3 6 = #[.int .u64 1, .int .u32 0, .int .u32 1] := by rw [hSX]; rfl
            have tX := World.at_lt fX
            clear hRR hSX MX DX FX fs ts fx tx fh th
            go_wp2_with fail
            refine (hbytes_f (e := 1) (c := 0) (n := 1) (by omega) (by omega)).mono ?_
            rintro en w8 ⟨q8, m8, c8, rfl, B8⟩
            obtain rfl : m8 = 64 := by rw [← B8.len, headB_length]
            have HB8 := Lib.hid B8
            have F8 := B8.own.fr
            have HF8 := Lib.hid F8
            clear B8 F8 fX tX hex
            go_wp2_with fail
            have hpf : ∀ g, q8.map (·.block) = some g → g ∉ fp := fun g hg hgf => by
              have := (HB8.out.new g hg).1
              have := HHL.out g hgf
              have := HFX.out.size
              omega
            have hw := write_f (s := s) (d := d) (hs := m.n / 2) (half := 0) (e := 1) (c := 0) (f := 1) (mb := mb) (br := false) (fr := (0, 0)) (m := m) (fp := fp) (h2 := 0) (at_ := 0) (pos := 0) (k := 1) (HF8.out.get HFs.out (by simp)) HSF.out (HDX.out.fr0 HF8.out) HB8.out.sl hpf rfl (by omega) (by omega) (by omega) (by omega) (by omega) (by omega) (by omega)
            rw [show ((0 : Nat) : Int) = 0 from rfl] at hw
            refine hw.mono ?_
            clear hw
            rintro en w9 ⟨E, rfl, hE, fp', D9, F9, N9⟩
            have HD9 := Lib.hid D9
            have hsl9 : s < w8.heap.size := World.at_lt (HF8.out.get HFs.out (by simp))
            have HSL9 := Lib.hid hsl9
            have HF9 := Lib.hid F9
            have HFW := Lib.hid (((HFX.out.trans HF8.out).mono (fp' := fp) (by simp)).seq F9 (fun k hk hl => hk))
            have HNW := Lib.hid (show News w fp fp' from fun k hk => by
              rcases N9 k hk with h | h
              · exact .inl h
              · exact .inr (Nat.le_trans (HFX.out.trans HF8.out).size h))
            have HN9 := Lib.hid N9
            cases hp : (putM m 0 (headB 1 0 1)).1 with
            | false =>
              have HR1 := Lib.hid (HRR.out.trans (if_neg (by rw [hp]; simp)))
              rw [hp] at hE
              obtain rfl : E = 150 := hE
              clear hp D9 F9 N9 hsl9
              go_wp2_with fail
              refine bodyPost_ret (results_tmp2 rfl _ _ _) rfl ?_
              rw [HR1.out]
              exact ⟨fp', rfl, HD9.out, HFW.out, HNW.out⟩
            | true =>
              have HR1 := Lib.hid (HRR.out.trans (if_pos hp))
              rw [hp] at hE
              obtain rfl : E = 0 := hE
              have hnn : (putM m 0 (headB 1 0 1)).2.n = m.n := putM_n (by obtain ⟨_, _, _, _, _, _, ok⟩ := HD.out; exact ok) HDD.out (by rw [headB_length]; omega)
              have HNN := Lib.hid hnn
              clear hp D9 F9 N9 hsl9 hnn
              go_wp2_with fail
              refine bodyPost_ret (results_tmp2 rfl _ _ _) rfl ?_
              rw [HR1.out]
              refine ⟨rfl, s, fp', rfl, ⟨mb, by rw [HNN.out]; exact HF9.out.get (HF8.out.get HFs.out (by simp)) HSF.out, fun h => ?_, HD9.out, (HMX.out.fr0 HF8.out).fr HF9.out HN9.out⟩, HFW.out, HNW.out, HLB.out.2⟩
              rcases HN9.out s h with h1 | h1
              · exact HSF.out h1
              · have := HSL9.out; omega
          | true =>
            go_upto_region 28 with (fail)
            have hlk := HL1.out
            have hok := look_ok (HBY.out _) (by have := HSL.out; simp [blockOf]; omega) hlk
            have hRR : RR = readH m 1 (e1, c1, n1e) := HRO.out
            have HRR := Lib.hid hRR
            have HFV := Lib.hid HV7.out.fr
            have hnw : ∀ k ∈ [s], k < w.heap.size → k ∈ ([] : List Nat) := fun k hk hl => by
              have := HLB.out.2
              rw [List.mem_singleton] at hk
              omega
            have HNW := Lib.hid hnw
            refine named_world (A := fun X => X.blk s = some (.cells (stC d (m.n / 2) 1 e1 c1 n1e mb false) 75 (0, 0)) ∧ MapAt X mb [] fp ∧ DiskAt X d m fp ∧ Fr [] w X) (Q := fun X => Code.wp _ _ _ _ X) ⟨by rw [World.at_put_same _ _ _ ts]; congr 2; rw [HSC.out, ← HH.out]; rfl, HMAP.out.put fs (by rw [HSC.out]; intro u hu x e; subst e; simp at hu), (HD.out.fr0 HV7.out.fr).frs HSF.out ((Fr.refl [s] _).put s _ (fun _ => by simp)), HV7.out.fr.put s _ (fun hl => by have := HLB.out.2; omega)⟩ ?_
            rintro X ⟨fX, MX, DX, FX⟩
            have HFX := Lib.hid FX
            have HDX := Lib.hid DX
            have HMX := Lib.hid MX
            have HFs := Lib.hid fX
            clear hlk hRR hnw fX MX DX FX fs ts fx tx fh th
            go_wp2_with fail
            refine (read_f HFs.out HSF.out HDX.out hN1 HDD.out (by omega) hok.2.2.1 (by rw [← HH.out]; exact hok.2.2.2) HMX.out (fun k hk => Nat.lt_of_lt_of_le (HHL.out k hk) HFX.out.size) List.Pairwise.nil (by simp) HMB.out hok.2.1 hok.1).mono ?_
            rintro en W ⟨hread, FW⟩
            have hrd : RR = match readR e1 c1 0 (recsM m 1 n1e) [] with
              | some L => (0, some ⟨1, e1, c1, n1e, L, false⟩, m)
              | none => (160, none, m) := HRR.out
            have HF9 := Lib.hid (HFX.out.seq FW HNW.out)
            have HD9 := Lib.hid (HDX.out.frs HSF.out FW)
            cases hr : readR e1 c1 0 (recsM m 1 n1e) [] with
            | none =>
              rw [hr] at hread hrd
              have HR1 := Lib.hid hrd
              obtain rfl : en = .returned (.bool false) := hread
              clear hr hrd FW hok
              go_wp2_with fail
              refine bodyPost_ret (results_tmp2 rfl _ _ _) rfl ?_
              rw [HR1.out]
              exact ⟨fp, rfl, HD9.out, HF9.out.mono (by simp), HN0.out⟩
            | some L =>
              rw [hr] at hread hrd
              have HR1 := Lib.hid hrd
              obtain ⟨mb', rfl, f9, M9⟩ := hread
              have H9 := Lib.hid f9
              have HM9 := Lib.hid M9
              clear hr hrd f9 M9 FW hok
              go_wp2_with fail
              refine bodyPost_ret (results_tmp2 rfl _ _ _) rfl ?_
              rw [HR1.out]
              exact ⟨rfl, s, fp, rfl, ⟨mb', H9.out, HSF.out, HD9.out, HM9.out⟩, HF9.out.mono (by simp), HN0.out, HLB.out.2⟩
        | true =>
          cases is1 with
          | false =>
            go_upto_region 28 with (fail)
            have hlk := HL0.out
            have hok := look_ok (HBY.out _) (by have := HSL.out; simp [blockOf]; omega) hlk
            have hRR : RR = readH m 0 (e0, c0, n0) := HRO.out
            have HRR := Lib.hid hRR
            have HFV := Lib.hid HV7.out.fr
            have hnw : ∀ k ∈ [s], k < w.heap.size → k ∈ ([] : List Nat) := fun k hk hl => by
              have := HLB.out.2
              rw [List.mem_singleton] at hk
              omega
            have HNW := Lib.hid hnw
            refine named_world (A := fun X => X.blk s = some (.cells (stC d (m.n / 2) 0 e0 c0 n0 mb false) 75 (0, 0)) ∧ MapAt X mb [] fp ∧ DiskAt X d m fp ∧ Fr [] w X) (Q := fun X => Code.wp _ _ _ _ X) ⟨by rw [World.at_put_same _ _ _ ts]; congr 2; rw [HSC.out, ← HH.out]; rfl, HMAP.out.put fs (by rw [HSC.out]; intro u hu x e; subst e; simp at hu), (HD.out.fr0 HV7.out.fr).frs HSF.out ((Fr.refl [s] _).put s _ (fun _ => by simp)), HV7.out.fr.put s _ (fun hl => by have := HLB.out.2; omega)⟩ ?_
            rintro X ⟨fX, MX, DX, FX⟩
            have HFX := Lib.hid FX
            have HDX := Lib.hid DX
            have HMX := Lib.hid MX
            have HFs := Lib.hid fX
            clear hlk hRR hnw fX MX DX FX fs ts fx tx fh th
            go_wp2_with fail
            refine (read_f HFs.out HSF.out HDX.out hN1 HDD.out (by omega) hok.2.2.1 (by rw [← HH.out]; exact hok.2.2.2) HMX.out (fun k hk => Nat.lt_of_lt_of_le (HHL.out k hk) HFX.out.size) List.Pairwise.nil (by simp) HMB.out hok.2.1 hok.1).mono ?_
            rintro en W ⟨hread, FW⟩
            have hrd : RR = match readR e0 c0 0 (recsM m 0 n0) [] with
              | some L => (0, some ⟨0, e0, c0, n0, L, false⟩, m)
              | none => (160, none, m) := HRR.out
            have HF9 := Lib.hid (HFX.out.seq FW HNW.out)
            have HD9 := Lib.hid (HDX.out.frs HSF.out FW)
            cases hr : readR e0 c0 0 (recsM m 0 n0) [] with
            | none =>
              rw [hr] at hread hrd
              have HR1 := Lib.hid hrd
              obtain rfl : en = .returned (.bool false) := hread
              clear hr hrd FW hok
              go_wp2_with fail
              refine bodyPost_ret (results_tmp2 rfl _ _ _) rfl ?_
              rw [HR1.out]
              exact ⟨fp, rfl, HD9.out, HF9.out.mono (by simp), HN0.out⟩
            | some L =>
              rw [hr] at hread hrd
              have HR1 := Lib.hid hrd
              obtain ⟨mb', rfl, f9, M9⟩ := hread
              have H9 := Lib.hid f9
              have HM9 := Lib.hid M9
              clear hr hrd f9 M9 FW hok
              go_wp2_with fail
              refine bodyPost_ret (results_tmp2 rfl _ _ _) rfl ?_
              rw [HR1.out]
              exact ⟨rfl, s, fp, rfl, ⟨mb', H9.out, HSF.out, HD9.out, HM9.out⟩, HF9.out.mono (by simp), HN0.out, HLB.out.2⟩
          | true =>
            by_cases hee : e0 = e1
            · subst hee
              have HR1 := Lib.hid (HRO.out.trans (if_pos rfl))
              have HFV := Lib.hid HV7.out.fr
              have hqe : ((e0 : Int) == (e0 : Int)) = true := by simp
              go_wp2_with fail
              refine bodyPost_ret (results_tmp2 rfl _ _ _) rfl ?_
              rw [HR1.out]
              exact ⟨fp, rfl, HD.out.fr0 HFV.out, HFV.out.mono (by simp), HN0.out⟩
            have hqe : ((e0 : Int) == (e1 : Int)) = false := by rw [beq_eq_false_iff_ne]; omega
            by_cases hlt : e0 < e1
            · have dlt : decide ((e0 : Int) < (e1 : Int)) = true := by rw [decide_eq_true_eq]; omega
              go_upto_region 28 with (fail)
              have hlk := HL1.out
              have hok := look_ok (HBY.out _) (by have := HSL.out; simp [blockOf]; omega) hlk
              have hRR : RR = readH m 1 (e1, c1, n1e) := HRO.out.trans ((if_neg hee).trans (if_pos hlt))
              have HRR := Lib.hid hRR
              have HFV := Lib.hid HV7.out.fr
              have hnw : ∀ k ∈ [s], k < w.heap.size → k ∈ ([] : List Nat) := fun k hk hl => by
                have := HLB.out.2
                rw [List.mem_singleton] at hk
                omega
              have HNW := Lib.hid hnw
              refine named_world (A := fun X => X.blk s = some (.cells (stC d (m.n / 2) 1 e1 c1 n1e mb false) 75 (0, 0)) ∧ MapAt X mb [] fp ∧ DiskAt X d m fp ∧ Fr [] w X) (Q := fun X => Code.wp _ _ _ _ X) ⟨by rw [World.at_put_same _ _ _ ts]; congr 2; rw [HSC.out, ← HH.out]; rfl, HMAP.out.put fs (by rw [HSC.out]; intro u hu x e; subst e; simp at hu), (HD.out.fr0 HV7.out.fr).frs HSF.out ((Fr.refl [s] _).put s _ (fun _ => by simp)), HV7.out.fr.put s _ (fun hl => by have := HLB.out.2; omega)⟩ ?_
              rintro X ⟨fX, MX, DX, FX⟩
              have HFX := Lib.hid FX
              have HDX := Lib.hid DX
              have HMX := Lib.hid MX
              have HFs := Lib.hid fX
              clear hlk hRR hnw fX MX DX FX fs ts fx tx fh th
              go_wp2_with fail
              refine (read_f HFs.out HSF.out HDX.out hN1 HDD.out (by omega) hok.2.2.1 (by rw [← HH.out]; exact hok.2.2.2) HMX.out (fun k hk => Nat.lt_of_lt_of_le (HHL.out k hk) HFX.out.size) List.Pairwise.nil (by simp) HMB.out hok.2.1 hok.1).mono ?_
              rintro en W ⟨hread, FW⟩
              have hrd : RR = match readR e1 c1 0 (recsM m 1 n1e) [] with
                | some L => (0, some ⟨1, e1, c1, n1e, L, false⟩, m)
                | none => (160, none, m) := HRR.out
              have HF9 := Lib.hid (HFX.out.seq FW HNW.out)
              have HD9 := Lib.hid (HDX.out.frs HSF.out FW)
              cases hr : readR e1 c1 0 (recsM m 1 n1e) [] with
              | none =>
                rw [hr] at hread hrd
                have HR1 := Lib.hid hrd
                obtain rfl : en = .returned (.bool false) := hread
                clear hr hrd FW hok
                go_wp2_with fail
                refine bodyPost_ret (results_tmp2 rfl _ _ _) rfl ?_
                rw [HR1.out]
                exact ⟨fp, rfl, HD9.out, HF9.out.mono (by simp), HN0.out⟩
              | some L =>
                rw [hr] at hread hrd
                have HR1 := Lib.hid hrd
                obtain ⟨mb', rfl, f9, M9⟩ := hread
                have H9 := Lib.hid f9
                have HM9 := Lib.hid M9
                clear hr hrd f9 M9 FW hok
                go_wp2_with fail
                refine bodyPost_ret (results_tmp2 rfl _ _ _) rfl ?_
                rw [HR1.out]
                exact ⟨rfl, s, fp, rfl, ⟨mb', H9.out, HSF.out, HD9.out, HM9.out⟩, HF9.out.mono (by simp), HN0.out, HLB.out.2⟩
            · have dlt : decide ((e0 : Int) < (e1 : Int)) = false := by rw [decide_eq_false_iff_not]; omega
              go_upto_region 28 with (fail)
              have hlk := HL0.out
              have hok := look_ok (HBY.out _) (by have := HSL.out; simp [blockOf]; omega) hlk
              have hRR : RR = readH m 0 (e0, c0, n0) := HRO.out.trans ((if_neg hee).trans (if_neg hlt))
              have HRR := Lib.hid hRR
              have HFV := Lib.hid HV7.out.fr
              have hnw : ∀ k ∈ [s], k < w.heap.size → k ∈ ([] : List Nat) := fun k hk hl => by
                have := HLB.out.2
                rw [List.mem_singleton] at hk
                omega
              have HNW := Lib.hid hnw
              refine named_world (A := fun X => X.blk s = some (.cells (stC d (m.n / 2) 0 e0 c0 n0 mb false) 75 (0, 0)) ∧ MapAt X mb [] fp ∧ DiskAt X d m fp ∧ Fr [] w X) (Q := fun X => Code.wp _ _ _ _ X) ⟨by rw [World.at_put_same _ _ _ ts]; congr 2; rw [HSC.out, ← HH.out]; rfl, HMAP.out.put fs (by rw [HSC.out]; intro u hu x e; subst e; simp at hu), (HD.out.fr0 HV7.out.fr).frs HSF.out ((Fr.refl [s] _).put s _ (fun _ => by simp)), HV7.out.fr.put s _ (fun hl => by have := HLB.out.2; omega)⟩ ?_
              rintro X ⟨fX, MX, DX, FX⟩
              have HFX := Lib.hid FX
              have HDX := Lib.hid DX
              have HMX := Lib.hid MX
              have HFs := Lib.hid fX
              clear hlk hRR hnw fX MX DX FX fs ts fx tx fh th
              go_wp2_with fail
              refine (read_f HFs.out HSF.out HDX.out hN1 HDD.out (by omega) hok.2.2.1 (by rw [← HH.out]; exact hok.2.2.2) HMX.out (fun k hk => Nat.lt_of_lt_of_le (HHL.out k hk) HFX.out.size) List.Pairwise.nil (by simp) HMB.out hok.2.1 hok.1).mono ?_
              rintro en W ⟨hread, FW⟩
              have hrd : RR = match readR e0 c0 0 (recsM m 0 n0) [] with
                | some L => (0, some ⟨0, e0, c0, n0, L, false⟩, m)
                | none => (160, none, m) := HRR.out
              have HF9 := Lib.hid (HFX.out.seq FW HNW.out)
              have HD9 := Lib.hid (HDX.out.frs HSF.out FW)
              cases hr : readR e0 c0 0 (recsM m 0 n0) [] with
              | none =>
                rw [hr] at hread hrd
                have HR1 := Lib.hid hrd
                obtain rfl : en = .returned (.bool false) := hread
                clear hr hrd FW hok
                go_wp2_with fail
                refine bodyPost_ret (results_tmp2 rfl _ _ _) rfl ?_
                rw [HR1.out]
                exact ⟨fp, rfl, HD9.out, HF9.out.mono (by simp), HN0.out⟩
              | some L =>
                rw [hr] at hread hrd
                have HR1 := Lib.hid hrd
                obtain ⟨mb', rfl, f9, M9⟩ := hread
                have H9 := Lib.hid f9
                have HM9 := Lib.hid M9
                clear hr hrd f9 M9 FW hok
                go_wp2_with fail
                refine bodyPost_ret (results_tmp2 rfl _ _ _) rfl ?_
                rw [HR1.out]
                exact ⟨rfl, s, fp, rfl, ⟨mb', H9.out, HSF.out, HD9.out, HM9.out⟩, HF9.out.mono (by simp), HN0.out, HLB.out.2⟩
end
end Go.Proofs.Ytombhkekocbfoaa
