/- Rows of uint16; a bundle that is built; what stands between the batches. -/
import Derived.Test.YtbhnfohoclcjdaaKeM
import Derived.Test.YtbhnfohoclcjdaaKeR
set_option linter.unusedVariables false
set_option linter.unusedSimpArgs false
namespace Go.Proofs.Ytbhnfohoclcjdaa
open Go.RowKit Go.Dr Go.Kd
theorem info49 : (Try.prog.info? 49).map (fun i => (i.zero, i.size, i.bytes)) = some (some (.int .u16 0), 1, 2) := by kernel_rfl
theorem E63 : ElemT Try.prog 63 49 1 2 #[.int .u16 0] := ⟨Try.underlying63, by kernel_rfl, rfl⟩
@[go_sem] theorem one63 (w : World) (x : Int) : (buildOneK 63 #[(0, .int .u16 x)]).run Try.prog w = .ok (.slice (some ⟨w.heap.size, 0, none⟩) 1 1) (w.alloc (.cells #[.int .u16 x] 49)) :=
  E63.buildOne (by omega) (by omega) w (.int .u16 x) rfl
section
variable {w0 w : World} {L : List (Nat × Obj)} {p : Option Addr} {n cap : Nat} {vs : List Value} {ops : Array Oper} {rest : List Oper} {o : Oper} {a : Act} {Q : Exit → Act → World → Prop}
/-- []uint16: append of a slice. -/
theorem wpList_app63 (hgd : o.guard = none) (s x : Operand) (ho : o.op = .call { callee := .builtin .append, args := #[s, x], argTypes := #[63, 63] })
    (hs : a.eval s = .slice p n cap) (B : BldV w0 L 49 1 w p n cap vs) {q : Option Addr} {m c : Nat} {us : List Value} (hx : a.eval x = .slice q m c) (S : Sv 1 w q m c us) (h1 : ∀ u ∈ us, u.oneCell' = true) (hbig : n + m ≤ 1000000)
    (h : ∀ p' cap' w', BldV w0 L 49 1 w' p' (n + m) cap' (vs ++ us) → Fr (p.map (·.block)).toList w w' → wpList Try.prog ops Q rest (a.put o.dst (.slice p' (n + m) cap')) w') : wpList Try.prog ops Q (o :: rest) a w := by
  obtain ⟨i, hi, hz, hs1, hb1⟩ := info_parts info49
  exact wpList_apdV2 hgd s x 63 63 ho Try.underlying63 hi hz hs1 (by omega) hb1 rfl hs B hx (Apd.ofSrc Try.underlying63 hi hz (by rw [hs1]; exact S.src Try.underlying63 h1)) (by omega) (by omega) fun p' cap' w' B' _ F => h p' cap' w' B' F
/-- []api.Bundle: append of a slice, told with what it leaves alone. -/
theorem wpList_app60F (hgd : o.guard = none) (s x : Operand) (ho : o.op = .call { callee := .builtin .append, args := #[s, x], argTypes := #[60, 60] })
    (hs : a.eval s = .slice p n cap) (B : BldV w0 L 59 162 w p n cap vs) {q : Option Addr} {m c : Nat} {us : List Value} (hx : a.eval x = .slice q m c) (S : Sv 162 w q m c us) (h1 : ∀ u ∈ us, u.oneCell' = true) (hbig : n + m ≤ 1000000)
    (h : ∀ p' cap' w', BldV w0 L 59 162 w' p' (n + m) cap' (vs ++ us) → Fr (p.map (·.block)).toList w w' → wpList Try.prog ops Q rest (a.put o.dst (.slice p' (n + m) cap')) w') : wpList Try.prog ops Q (o :: rest) a w := by
  obtain ⟨i, z, hi, hz, hzs, hs1, hb1⟩ := info59_parts
  exact wpList_apdV2 hgd s x 60 60 ho Try.underlying60 hi hz hs1 (by omega) hb1 hzs hs B hx (Apd.ofSrc Try.underlying60 hi hz (by rw [hs1]; exact S.src Try.underlying60 h1)) (by omega) (by omega) fun p' cap' w' B' _ F => h p' cap' w' B' F
end
set_option maxRecDepth 100000 in
theorem bun_built2 {d : Nat} {a b c : List Int} {i : Int} (ha : a.length = 32) (hb : b.length = 32) (hc : c.length = 32) :
    spl ((spl (spl (Try.zeroCells59.setIfInBounds 0 (.int .u8 (d : Int))) 1 (a.map (Value.int .u8))) 33 (b.map (Value.int .u8))).setIfInBounds 65 (.int .u16 i)) 66 (c.map (Value.int .u8)) = bnC ⟨d, a, b, i, c, zs 64⟩ := by
  have hz : Try.zeroCells59 = (cBundle (.int .u8 0) (zs 32) (zs 32) (.int .u16 0) (zs 32) (zs 64)).toArray := by kernel_rfl
  have l0 : (zs 32).length = 32 := rfl
  have l6 : (zs 64).length = 64 := rfl
  rw [hz, cBundle_set_device _ _ _ _ _ _ _ l0 l0 l0 l6, cBundle_spl_agree _ _ _ _ _ _ _ l0 l0 l0 l6 ha, cBundle_spl_signer _ _ _ _ _ _ _ ha l0 l0 l6 hb, cBundle_set_id _ _ _ _ _ _ _ ha hb l0 l6, cBundle_spl_once _ _ _ _ _ _ _ ha hb l0 l6 hc]
theorem byt_zs (n : Nat) : isBytes (zs n) := fun v hv => by
  have := List.eq_of_mem_replicate hv
  omega
/-- Blocks of other types are written. -/
theorem Tab.writ {t : TTy} {lo tb : Nat} {w w' : World} {T : List Tm} (h : Tab t lo tb w T) {fp : List Nat} (F : Fr fp w w') (hfp : ∀ b ∈ fp, ∃ cs T' fr, w.blk b = some (.cells cs T' fr) ∧ T' ≠ t.bT ∧ T' ≠ t.sT ∧ T' ≠ t.tT ∧ T' ≠ t.lT) : Tab t lo tb w' T := by
  obtain ⟨w0, mb, p, cap, vs, es, clock, h0, B, k1, k2, k3, k4, k5, k6⟩ := h.ex
  have n1 : tb ∉ fp := fun hm => by
    obtain ⟨cs, T', fr, hb, _, _, h3, _⟩ := hfp tb hm
    have := B.own.nth 0 rfl
    rw [hb] at this
    simp only [Option.some.injEq, Obj.cells.injEq] at this
    exact h3 this.2.1
  have n2 : mb ∉ fp := fun hm => by
    obtain ⟨cs, T', fr, hb, _⟩ := hfp mb hm
    have := B.own.nth 1 rfl
    rw [hb] at this
    simp at this
  have n3 : ∀ g, p.map (·.block) = some g → g ∉ fp := fun g hg hm => by
    obtain ⟨cs, T', fr, hb, _, _, _, h4⟩ := hfp g hm
    obtain ⟨cs2, fr2, hb2⟩ := B.block hg
    rw [hb] at hb2
    simp only [Option.some.injEq, Obj.cells.injEq] at hb2
    exact h4 hb2.2.1
  have hstay : Stay t w w' := fun k cs T2 fr2 h3 h4 => F.get h3 fun hm => by
    obtain ⟨cs', T', fr', hb, h5, h6, _⟩ := hfp k hm
    rw [h3] at hb
    simp only [Option.some.injEq, Obj.cells.injEq] at hb
    rcases h4 with h4 | h4
    · exact h5 (hb.2.1.symm.trans h4)
    · exact h6 (hb.2.1.symm.trans h4)
  refine ⟨⟨w0, mb, p, cap, vs, es, clock, h0, ⟨⟨fun q hq => ?_, B.own.nd, B.own.lo, B.own.fr.seq F (fun b _ hlt => by omega)⟩, ?_, B.new⟩, k1, k2, k3, k4, k5, fun i u hu => ?_⟩, h.good, h.len⟩
  · refine F.get (B.own.has q hq) ?_
    simp only [List.mem_cons, List.not_mem_nil, or_false] at hq
    rcases hq with rfl | rfl
    · exact n1
    · exact n2
  · exact F.owns B.row (fun g hg hgb => n3 g (by cases p with | none => cases hg | some q => simpa [Value.ownBlock] using hg) hgb)
  · obtain ⟨a, q, m, c, q2, m2, c2, d, e, f⟩ := k6 i u hu
    exact ⟨a, q, m, c, q2, m2, c2, d, e, f.step hstay⟩
/-- A row of the caller's own grows. -/
theorem Tab.grown {lo tb : Nat} {w w' w0 : World} {T : List Tm} {L : List (Nat × Obj)} {e sz : Nat} {p : Option Addr} {n c : Nat} {vs : List Value} (h : TabP lo tb w T) (B : BldV w0 L e sz w p n c vs) (F : Fr (p.map (·.block)).toList w w') (he : e ≠ 5 ∧ e ≠ 47 ∧ e ≠ 116 ∧ e ≠ 126) : TabP lo tb w' T :=
  Tab.writ h F fun b hb => by
    obtain ⟨cs, fr, h1⟩ := B.block (Option.mem_toList.1 hb)
    exact ⟨cs, e, fr, h1, he⟩
/-- Cells written one by one. -/
def setsF : Array Value → Nat → List Value → Array Value
  | A, _, [] => A
  | A, o, v :: l => setsF (A.setIfInBounds o v) (o + 1) l
theorem spl_set {A : Array Value} {o : Nat} {v : Value} {l : List Value} (h : o + 1 + l.length ≤ A.size) : spl A o (v :: l) = spl (A.setIfInBounds o v) (o + 1) l := by
  apply Array.ext'
  simp only [spl, Array.toList_append, Array.toList_extract, Array.toList_setIfInBounds, List.extract_eq_take_drop, List.drop_zero, Nat.sub_zero, List.length_cons, Array.size_setIfInBounds]
  have hA : o < A.toList.length := by simp; omega
  rw [show o + (l.length + 1) = o + 1 + l.length by omega, List.set_eq_take_append_cons_drop, if_pos hA]
  have hlt : (A.toList.take o).length = o := by rw [List.length_take]; omega
  rw [List.take_append, hlt, List.drop_append, hlt, List.take_of_length_le (l := A.toList.take o) (by omega), show o + 1 - o = 1 by omega, show o + 1 + l.length - o = l.length + 1 by omega]
  have e : List.drop (o + 1 + l.length) (A.toList.take o) = [] := List.drop_eq_nil_of_le (by omega)
  rw [e, List.nil_append, List.drop_succ_cons, List.drop_drop]
  simp
theorem setsF_spl : ∀ (l : List Value) (A : Array Value) (o : Nat), o + l.length ≤ A.size → setsF A o l = spl A o l
  | [], A, o, _ => by
    apply Array.ext'
    simp only [setsF, spl, Array.toList_append, Array.toList_extract, List.extract_eq_take_drop, List.length_nil, Nat.add_zero, List.drop_zero, Nat.sub_zero, List.append_nil]
    rw [List.take_of_length_le (l := A.toList.drop o) (by simp), List.take_append_drop]
  | v :: l, A, o, h => by
    simp only [List.length_cons] at h
    rw [setsF, setsF_spl l _ _ (by simp; omega), spl_set (by omega)]
set_option maxRecDepth 100000 in
theorem bun_built3 {d : Nat} {a b : List Int} {i : Int} (ha : a.length = 32) (hb : b.length = 32) (k : Int) :
    setsF ((spl (spl (Try.zeroCells59.setIfInBounds 0 (.int .u8 (d : Int))) 1 (a.map (Value.int .u8))) 33 (b.map (Value.int .u8))).setIfInBounds 65 (.int .u16 i)) 66 ((key1 k).map (Value.int .u8)) = bnC ⟨d, a, b, i, key1 k, zs 64⟩ := by
  rw [setsF_spl, bun_built2 ha hb rfl]
  have hz : Try.zeroCells59 = (cBundle (.int .u8 0) (zs 32) (zs 32) (.int .u16 0) (zs 32) (zs 64)).toArray := by kernel_rfl
  have l0 : (zs 32).length = 32 := rfl
  have l6 : (zs 64).length = 64 := rfl
  rw [hz, cBundle_set_device _ _ _ _ _ _ _ l0 l0 l0 l6, cBundle_spl_agree _ _ _ _ _ _ _ l0 l0 l0 l6 ha, cBundle_spl_signer _ _ _ _ _ _ _ ha l0 l0 l6 hb, cBundle_set_id _ _ _ _ _ _ _ ha hb l0 l6, List.size_toArray, cBundle_length _ _ _ _ _ _ ha hb l0 l6]
  have : (List.map (Value.int .u8) (key1 k)).length = 32 := rfl
  omega
section
variable {w0 w X W : World} {L : List (Nat × Obj)} {e sz : Nat} {q : Option Addr} {n c : Nat} {vs : List Value}
/-- A row that a callee has made beside a table. -/
theorem bld_here (hO : OwB w0 L X) (hO' : OwB w0 L W) (B : BldV W.void [] e sz W q n c vs) (hn : ∀ g, q.map (·.block) = some g → X.heap.size ≤ g) : BldV w0 L e sz W q n c vs :=
  ⟨hO', B.row, fun g hg => ⟨Nat.le_trans hO.fr.size (hn g hg), fun hm => by
    obtain ⟨x, hx, rfl⟩ := List.mem_map.1 hm
    have h1 := World.at_lt (hO.has x hx)
    have h2 := hn x.1 hg
    omega⟩⟩
theorem Parked.kept {N : List (Nat × Obj)} (h : Parked N 59 162 q n c vs) : Kept q n c vs N := by
  rcases h with ⟨rfl, rfl, rfl, rfl, rfl⟩ | ⟨g, r, rfl, rfl, hl, hc, hn, hm⟩
  · exact Kept.nil
  · refine ⟨fun x hx => ?_, fun w2 hw2 => .inr ⟨_, rfl, hl, hn, .inr ⟨g, 0, _, 59, _, rfl, hw2.nth 0 rfl, ?_, ?_⟩, by simp, fun a ha => ⟨g, 0, by simpa using ha.symm⟩⟩⟩
    · simp only [List.mem_singleton] at hx
      subst hx
      exact ⟨_, _, rfl⟩
    · rw [size_rowV, ← hl]; omega
    · rw [Nat.zero_add, ← hl, rowV]
      simp
theorem BldV.newroom (h : BldV w0 L e sz w q n c vs) (o : Obj) : BldV w0 ((w.heap.size, o) :: L) e sz (w.alloc o) q n c vs :=
  h.add ((Fr.refl [] w).alloc _) (World.at_alloc_new _ _ _ rfl) (Nat.le_refl _)
end
section
variable {w0 w : World} {A B C D : List (Nat × Obj)} {b : Nat} {o : Obj}
theorem own_set4 (h : OwB w0 (A ++ (B ++ (C ++ ((b, o) :: D)))) w) (o' : Obj) : OwB w0 (A ++ (B ++ (C ++ ((b, o') :: D)))) (w.put b o') := by
  have h2 : OwB w0 ((A ++ (B ++ C)) ++ ((b, o) :: D)) w := by simpa [List.append_assoc] using h
  simpa [List.append_assoc] using h2.set_mid o'
theorem own_front (h : OwB w0 (A ++ (B ++ C)) w) : OwB w0 (B ++ (A ++ C)) w := h.perm (List.perm_append_comm_assoc A B C)
end
/-- What stands between the batches. -/
structure OnceS (w : World) (lo tb : Nat) (L4 : List (Nat × Obj)) (b9 : Nat) (X : World) (p10 : Option Addr) (n10 c10 : Nat) (p11 : Option Addr) (n11 c11 : Nat) (S C : List Int) (hs : Bool) (fall : List Value) (p : Option Addr) (m cap : Nat) (last : Int) (ls : List Bn) (Ns Nc M : List (Nat × Obj)) (T : List Tm) : Prop where
  own : OwB w (M ++ (Ns ++ (Nc ++ ((b9, .cells (cShelf (.bool hs) fall (.slice p m cap) (.int .u16 last)).toArray 62) :: L4)))) X
  ks : Parked Ns 49 1 p10 n10 c10 (S.map (Value.int .u16))
  kc : Parked Nc 49 1 p11 n11 c11 (C.map (Value.int .u16))
  kl : Kept p m cap (bnsL ls) M
  tab : TabP lo tb X T
  inv : InvK S C ls last
  ml : ls.length = m
  sl : S.length = n10
  cl : C.length = n11
  fl : fall.length = 162
  fo : ∀ v ∈ fall, v.oneCell' = true
  f0 : hs = true → fall[65]? = some (.int .u16 0)
def OnceE (w : World) (lo tb : Nat) (L4 : List (Nat × Obj)) (b9 i : Nat) (X : World) (p10 : Option Addr) (n10 c10 : Nat) (p11 : Option Addr) (n11 c11 : Nat) : Prop :=
  ∃ S C hs fall p m cap last ls Ns Nc M T, S.length ≤ 10 * i ∧ OnceS w lo tb L4 b9 X p10 n10 c10 p11 n11 c11 S C hs fall p m cap last ls Ns Nc M T
theorem OnceS.oth {w X : World} {lo tb : Nat} {L4 : List (Nat × Obj)} {b9 : Nat} {p10 : Option Addr} {n10 c10 : Nat} {p11 : Option Addr} {n11 c11 : Nat} {S C : List Int} {hs : Bool} {fall : List Value} {p : Option Addr} {m cap : Nat} {last : Int} {ls : List Bn} {Ns Nc M : List (Nat × Obj)} {T : List Tm}
    (h : OnceS w lo tb L4 b9 X p10 n10 c10 p11 n11 c11 S C hs fall p m cap last ls Ns Nc M T) (h4 : ∀ q ∈ L4, other TT q.2) : ∀ q ∈ M ++ (Ns ++ (Nc ++ ((b9, .cells (cShelf (.bool hs) fall (.slice p m cap) (.int .u16 last)).toArray 62) :: L4))), q.1 < lo ∨ other TT q.2 := fun q hq => by
  rcases List.mem_append.1 hq with hq | hq
  · obtain ⟨cs, fr, e⟩ := h.kl.1 q hq
    rw [e]
    exact .inr ⟨by decide, by decide⟩
  rcases List.mem_append.1 hq with hq | hq
  · exact .inr (Parked.other h.ks ⟨by decide, by decide⟩ q hq)
  rcases List.mem_append.1 hq with hq | hq
  · exact .inr (Parked.other h.kc ⟨by decide, by decide⟩ q hq)
  rcases List.mem_cons.1 hq with rfl | hq
  · exact .inr ⟨by decide, by decide⟩
  · exact .inr (h4 q hq)
theorem bnsL_snoc (x y : Bn) (l : List Bn) : bnsL (x :: (l ++ [y])) = bnsL (x :: l) ++ (bnC y).toList := by
  rw [← List.cons_append, bnsL_append]
  congr 1
  simp [bnsL]
/-- A batch that grows. -/
def BatchE (w : World) (lo tb : Nat) (LL : List (Nat × Obj)) (X : World) (q : Option Addr) (n c : Nat) : Prop :=
  ∃ x l T, BldV w LL 59 162 X q n c (bnsL (x :: l)) ∧ BnOk x ∧ x.id = 0 ∧ (∀ y ∈ l, BnOk y) ∧ l.length + 1 = n ∧ TabP lo tb X T
end Go.Proofs.Ytbhnfohoclcjdaa
