/- Joined: PkS, KeN, PkT. -/
import Derived.Test.YtbhnfohoclcjdaaGreatZt
import Derived.Test.YtbhnfohoclcjdaaGreatZp
import Derived.Test.YtbhnfohoclcjdaaGreatZm
import Derived.Test.YtbhnfohoclcjdaaGreatZk
set_option linter.unusedVariables false
set_option linter.unusedSimpArgs false
namespace Go.Proofs.YtbhnfohoclcjdaaGreat
open Go.RowKit Go.Dr Go.Kd
section
variable {w : World}
set_option maxRecDepth 100000 in
set_option maxHeartbeats 2000000 in
theorem dpack_no {hs : Bool} {f : Bn} {p : Option Addr} {n c : Nat} {last : Int} (hf : BnOk f) (hno : ¬ (n ≤ 8 ∧ (hs = false → f = zBn))) :
    Calls Tryz.prog 34 #[.agg (shC hs f p n c last)] w fun e w' => e = .returned (.tuple #[.slice none 0 0, .bool false]) ∧ Fr [] w w' := by
  obtain ⟨xs, hxs⟩ : ∃ xs, xs = shC hs f p n c last := ⟨_, rfl⟩
  obtain ⟨F, hF⟩ : ∃ F, F = bnC f := ⟨_, rfl⟩
  have X : ShF xs hs F p n c last := by rw [hxs, hF]; exact shF hf
  have szF : F.size = 162 := by rw [hF]; exact bnC_size hf
  have z65 : Tryz.zeroCells65.size = 162 := by kernel_rfl
  obtain ⟨e, he⟩ : ∃ e, e = (decide (f.device = zBn.device) && (decide (f.agree = zBn.agree) && (decide (f.signer = zBn.signer) && (decide (f.id = zBn.id) && (decide (f.once = zBn.once) && (decide (f.sig = zBn.sig) && true)))))) := ⟨_, rfl⟩
  have eqF : ∀ W : World, (Op.equalIn 10000 65 (.agg F) (.agg Tryz.zeroCells65)).run Tryz.prog W = .ok e W := fun W => by rw [hF, zBn_c, he]; exact eq65_both hf zBn_ok W
  have hez : e = true → f = zBn := fun h => by
    rw [he] at h
    simp only [Bool.and_eq_true, decide_eq_true_eq, and_true] at h
    obtain ⟨a, b, c, d, g, k⟩ := h
    cases f
    simp only at a b c d g k
    rw [a, b, c, d, g, k]
  have HEZ := Lib.hid hez
  have HNO := Lib.hid hno
  rw [← hxs]
  clear hxs hF hf he hez hno
  obtain ⟨sx, ⟨x0, x0'⟩, x1, ⟨x2, x2'⟩, ⟨x3, x3'⟩, _, _⟩ := X
  go_enter Tryz.func34, Tryz.ntmps34
  go_upto_region 1 with (fail)
  refine named_world (A := fun X => OwB w [(w.heap.size, .cells xs 68)] X) (Q := fun X => Code.wp _ _ _ _ X) ((OwB.start w).allocN _ w.heap.size rfl) ?_
  intro V hV
  generalize w.heap.size = b2 at hV ⊢
  have f2 := hV.nth 0 rfl
  have t2 := World.at_lt f2
  have HV := Lib.hid hV
  clear hV
  by_cases h8 : n ≤ 8
  · have d1 : decide ((n : Int) > 8) = false := by rw [decide_eq_false_iff_not]; omega
    have hh : hs = false := by
      cases hs with
      | false => rfl
      | true => exact absurd ⟨h8, fun h => absurd h (by decide)⟩ HNO.out
    have hee : e = false := by
      cases e with
      | false => rfl
      | true => exact absurd ⟨h8, fun _ => HEZ.out rfl⟩ HNO.out
    subst hh
    subst hee
    go_wp2_with fail
    exact bodyPost_ret (results_tmp2 rfl _ _ _) rfl ⟨rfl, HV.out.fr⟩
  · have d1 : decide ((n : Int) > 8) = true := by rw [decide_eq_true_eq]; omega
    go_wp2_with fail
    exact bodyPost_ret (results_tmp2 rfl _ _ _) rfl ⟨rfl, HV.out.fr⟩
set_option maxRecDepth 100000 in
set_option maxHeartbeats 2000000 in
theorem kpack_no {hs : Bool} {f : Bn} {p : Option Addr} {n c : Nat} {last : Int} (hf : BnOk f) (hno : ¬ (n ≤ 8 ∧ (hs = false → f = zBn))) :
    Calls Tryz.prog 33 #[.agg (shC hs f p n c last)] w fun e w' => e = .returned (.tuple #[.slice none 0 0, .bool false]) ∧ Fr [] w w' := by
  obtain ⟨xs, hxs⟩ : ∃ xs, xs = shC hs f p n c last := ⟨_, rfl⟩
  obtain ⟨F, hF⟩ : ∃ F, F = bnC f := ⟨_, rfl⟩
  have X : ShF xs hs F p n c last := by rw [hxs, hF]; exact shF hf
  have szF : F.size = 162 := by rw [hF]; exact bnC_size hf
  have z65 : Tryz.zeroCells65.size = 162 := by kernel_rfl
  obtain ⟨e, he⟩ : ∃ e, e = (decide (f.device = zBn.device) && (decide (f.agree = zBn.agree) && (decide (f.signer = zBn.signer) && (decide (f.id = zBn.id) && (decide (f.once = zBn.once) && (decide (f.sig = zBn.sig) && true)))))) := ⟨_, rfl⟩
  have eqF : ∀ W : World, (Op.equalIn 10000 65 (.agg F) (.agg Tryz.zeroCells65)).run Tryz.prog W = .ok e W := fun W => by rw [hF, zBn_c, he]; exact eq65_both hf zBn_ok W
  have hez : e = true → f = zBn := fun h => by
    rw [he] at h
    simp only [Bool.and_eq_true, decide_eq_true_eq, and_true] at h
    obtain ⟨a, b, c, d, g, k⟩ := h
    cases f
    simp only at a b c d g k
    rw [a, b, c, d, g, k]
  have HEZ := Lib.hid hez
  have HNO := Lib.hid hno
  rw [← hxs]
  clear hxs hF hf he hez hno
  obtain ⟨sx, ⟨x0, x0'⟩, x1, ⟨x2, x2'⟩, ⟨x3, x3'⟩, _, _⟩ := X
  go_enter Tryz.func33, Tryz.ntmps33
  go_upto_region 1 with (fail)
  refine named_world (A := fun X => OwB w [(w.heap.size, .cells xs 68)] X) (Q := fun X => Code.wp _ _ _ _ X) ((OwB.start w).allocN _ w.heap.size rfl) ?_
  intro V hV
  generalize w.heap.size = b2 at hV ⊢
  have f2 := hV.nth 0 rfl
  have t2 := World.at_lt f2
  have HV := Lib.hid hV
  clear hV
  by_cases h8 : n ≤ 8
  · have d1 : decide ((n : Int) > 8) = false := by rw [decide_eq_false_iff_not]; omega
    have hh : hs = false := by
      cases hs with
      | false => rfl
      | true => exact absurd ⟨h8, fun h => absurd h (by decide)⟩ HNO.out
    have hee : e = false := by
      cases e with
      | false => rfl
      | true => exact absurd ⟨h8, fun _ => HEZ.out rfl⟩ HNO.out
    subst hh
    subst hee
    go_wp2_with fail
    exact bodyPost_ret (results_tmp2 rfl _ _ _) rfl ⟨rfl, HV.out.fr⟩
  · have d1 : decide ((n : Int) > 8) = true := by rw [decide_eq_true_eq]; omega
    go_wp2_with fail
    exact bodyPost_ret (results_tmp2 rfl _ _ _) rfl ⟨rfl, HV.out.fr⟩
end
end Go.Proofs.YtbhnfohoclcjdaaGreat
namespace Go.Proofs.YtbhnfohoclcjdaaGreat
open Go.RowKit Go.Dr Go.Kd
theorem info49 : (Tryz.prog.info? 63).map (fun i => (i.zero, i.size, i.bytes)) = some (some (.int .u16 0), 1, 2) := by kernel_rfl
section
variable {w0 w : World} {L : List (Nat × Obj)} {p : Option Addr} {n cap : Nat} {vs : List Value} {ops : Array Oper} {rest : List Oper} {o : Oper} {a : Act} {Q : Exit → Act → World → Prop}
/-- []api.Bundle: append of a slice, told with what it leaves alone. -/
theorem wpList_app60F (hgd : o.guard = none) (s x : Operand) (ho : o.op = .call { callee := .builtin .append, args := #[s, x], argTypes := #[66, 66] })
    (hs : a.eval s = .slice p n cap) (B : BldV w0 L 65 162 w p n cap vs) {q : Option Addr} {m c : Nat} {us : List Value} (hx : a.eval x = .slice q m c) (S : Sv 162 w q m c us) (h1 : ∀ u ∈ us, u.oneCell' = true) (hbig : n + m ≤ 1000000)
    (h : ∀ p' cap' w', BldV w0 L 65 162 w' p' (n + m) cap' (vs ++ us) → Fr (p.map (·.block)).toList w w' → wpList Tryz.prog ops Q rest (a.put o.dst (.slice p' (n + m) cap')) w') : wpList Tryz.prog ops Q (o :: rest) a w := by
  obtain ⟨i, z, hi, hz, hzs, hs1, hb1⟩ := info59_parts
  exact wpList_apdV2 hgd s x 66 66 ho Tryz.underlying66 hi hz hs1 (by omega) hb1 hzs hs B hx (Apd.ofSrc Tryz.underlying66 hi hz (by rw [hs1]; exact S.src Tryz.underlying66 h1)) (by omega) (by omega) fun p' cap' w' B' _ F => h p' cap' w' B' F
end
set_option maxRecDepth 100000 in
theorem bun_built2 {d : Nat} {a b c : List Int} {i : Int} (ha : a.length = 32) (hb : b.length = 32) (hc : c.length = 32) :
    spl ((spl (spl (Tryz.zeroCells65.setIfInBounds 0 (.int .u8 (d : Int))) 1 (a.map (Value.int .u8))) 33 (b.map (Value.int .u8))).setIfInBounds 65 (.int .u16 i)) 66 (c.map (Value.int .u8)) = bnC ⟨d, a, b, i, c, zs 64⟩ := by
  have hz : Tryz.zeroCells65 = (cBundle (.int .u8 0) (zs 32) (zs 32) (.int .u16 0) (zs 32) (zs 64)).toArray := by kernel_rfl
  have l0 : (zs 32).length = 32 := rfl
  have l6 : (zs 64).length = 64 := rfl
  rw [hz, cBundle_set_device _ _ _ _ _ _ _ l0 l0 l0 l6, cBundle_spl_agree _ _ _ _ _ _ _ l0 l0 l0 l6 ha, cBundle_spl_signer _ _ _ _ _ _ _ ha l0 l0 l6 hb, cBundle_set_id _ _ _ _ _ _ _ ha hb l0 l6, cBundle_spl_once _ _ _ _ _ _ _ ha hb l0 l6 hc]
theorem byt_zs (n : Nat) : isBytes (zs n) := fun v hv => by
  have := List.eq_of_mem_replicate hv
  omega
/-- Blocks of other types are written. -/
theorem Tab.writ {t : TTy} {lo tb : Nat} {w w' : World} {T : List Tm} (h : Tab t lo tb w T) {fp : List Nat} (F : Fr fp w w') (hfp : ∀ b ∈ fp, ∃ cs T' fr, w.blk b = some (.cells cs T' fr) ∧ T' ≠ t.bT ∧ T' ≠ t.sT ∧ T' ≠ t.tT ∧ T' ≠ t.lT) : Tab t lo tb w' T := by
  obtain ⟨w0, mb, p, cap, vs, es, clock, h0, B, k1, k2, k3, k4, k5, k6⟩ := h.ex
  have n1 : tb ∉ fp := fun hm => by
    obtain ⟨cs, T', fr, hb, _, _, h3, _⟩ := hfp tb hm
    have := B.own.nth 0 rfl
    rw [hb] at this
    simp only [Option.some.injEq, Obj.cells.injEq] at this
    exact h3 this.2.1
  have n2 : mb ∉ fp := fun hm => by
    obtain ⟨cs, T', fr, hb, _⟩ := hfp mb hm
    have := B.own.nth 1 rfl
    rw [hb] at this
    simp at this
  have n3 : ∀ g, p.map (·.block) = some g → g ∉ fp := fun g hg hm => by
    obtain ⟨cs, T', fr, hb, _, _, _, h4⟩ := hfp g hm
    obtain ⟨cs2, fr2, hb2⟩ := B.block hg
    rw [hb] at hb2
    simp only [Option.some.injEq, Obj.cells.injEq] at hb2
    exact h4 hb2.2.1
  have hstay : Stay t w w' := fun k cs T2 fr2 h3 h4 => F.get h3 fun hm => by
    obtain ⟨cs', T', fr', hb, h5, h6, _⟩ := hfp k hm
    rw [h3] at hb
    simp only [Option.some.injEq, Obj.cells.injEq] at hb
    rcases h4 with h4 | h4
    · exact h5 (hb.2.1.symm.trans h4)
    · exact h6 (hb.2.1.symm.trans h4)
  refine ⟨⟨w0, mb, p, cap, vs, es, clock, h0, ⟨⟨fun q hq => ?_, B.own.nd, B.own.lo, B.own.fr.seq F (fun b _ hlt => by omega)⟩, ?_, B.new⟩, k1, k2, k3, k4, k5, fun i u hu => ?_⟩, h.good, h.len⟩
  · refine F.get (B.own.has q hq) ?_
    simp only [List.mem_cons, List.not_mem_nil, or_false] at hq
    rcases hq with rfl | rfl
    · exact n1
    · exact n2
  · exact F.owns B.row (fun g hg hgb => n3 g (by cases p with | none => cases hg | some q => simpa [Value.ownBlock] using hg) hgb)
  · obtain ⟨a, q, m, c, q2, m2, c2, d, e, f⟩ := k6 i u hu
    exact ⟨a, q, m, c, q2, m2, c2, d, e, f.step hstay⟩
/-- A row of the caller's own grows. -/
theorem Tab.grown {lo tb : Nat} {w w' w0 : World} {T : List Tm} {L : List (Nat × Obj)} {e sz : Nat} {p : Option Addr} {n c : Nat} {vs : List Value} (h : TabP lo tb w T) (B : BldV w0 L e sz w p n c vs) (F : Fr (p.map (·.block)).toList w w') (he : e ≠ 5 ∧ e ≠ 49 ∧ e ≠ 138 ∧ e ≠ 200) : TabP lo tb w' T :=
  Tab.writ h F fun b hb => by
    obtain ⟨cs, fr, h1⟩ := B.block (Option.mem_toList.1 hb)
    exact ⟨cs, e, fr, h1, he⟩
/-- Cells written one by one. -/
def setsF : Array Value → Nat → List Value → Array Value
  | A, _, [] => A
  | A, o, v :: l => setsF (A.setIfInBounds o v) (o + 1) l
theorem spl_set {A : Array Value} {o : Nat} {v : Value} {l : List Value} (h : o + 1 + l.length ≤ A.size) : spl A o (v :: l) = spl (A.setIfInBounds o v) (o + 1) l := by
  apply Array.ext'
  simp only [spl, Array.toList_append, Array.toList_extract, Array.toList_setIfInBounds, List.extract_eq_take_drop, List.drop_zero, Nat.sub_zero, List.length_cons, Array.size_setIfInBounds]
  have hA : o < A.toList.length := by simp; omega
  rw [show o + (l.length + 1) = o + 1 + l.length by omega, List.set_eq_take_append_cons_drop, if_pos hA]
  have hlt : (A.toList.take o).length = o := by rw [List.length_take]; omega
  rw [List.take_append, hlt, List.drop_append, hlt, List.take_of_length_le (l := A.toList.take o) (by omega), show o + 1 - o = 1 by omega, show o + 1 + l.length - o = l.length + 1 by omega]
  have e : List.drop (o + 1 + l.length) (A.toList.take o) = [] := List.drop_eq_nil_of_le (by omega)
  rw [e, List.nil_append, List.drop_succ_cons, List.drop_drop]
  simp
theorem setsF_spl : ∀ (l : List Value) (A : Array Value) (o : Nat), o + l.length ≤ A.size → setsF A o l = spl A o l
  | [], A, o, _ => by
    apply Array.ext'
    simp only [setsF, spl, Array.toList_append, Array.toList_extract, List.extract_eq_take_drop, List.length_nil, Nat.add_zero, List.drop_zero, Nat.sub_zero, List.append_nil]
    rw [List.take_of_length_le (l := A.toList.drop o) (by simp), List.take_append_drop]
  | v :: l, A, o, h => by
    simp only [List.length_cons] at h
    rw [setsF, setsF_spl l _ _ (by simp; omega), spl_set (by omega)]
set_option maxRecDepth 100000 in
theorem bun_built3 {d : Nat} {a b : List Int} {i : Int} (ha : a.length = 32) (hb : b.length = 32) (k : Int) :
    setsF ((spl (spl (Tryz.zeroCells65.setIfInBounds 0 (.int .u8 (d : Int))) 1 (a.map (Value.int .u8))) 33 (b.map (Value.int .u8))).setIfInBounds 65 (.int .u16 i)) 66 ((key1 k).map (Value.int .u8)) = bnC ⟨d, a, b, i, key1 k, zs 64⟩ := by
  rw [setsF_spl, bun_built2 ha hb rfl]
  have hz : Tryz.zeroCells65 = (cBundle (.int .u8 0) (zs 32) (zs 32) (.int .u16 0) (zs 32) (zs 64)).toArray := by kernel_rfl
  have l0 : (zs 32).length = 32 := rfl
  have l6 : (zs 64).length = 64 := rfl
  rw [hz, cBundle_set_device _ _ _ _ _ _ _ l0 l0 l0 l6, cBundle_spl_agree _ _ _ _ _ _ _ l0 l0 l0 l6 ha, cBundle_spl_signer _ _ _ _ _ _ _ ha l0 l0 l6 hb, cBundle_set_id _ _ _ _ _ _ _ ha hb l0 l6, List.size_toArray, cBundle_length _ _ _ _ _ _ ha hb l0 l6]
  have : (List.map (Value.int .u8) (key1 k)).length = 32 := rfl
  omega
section
variable {w0 w X W : World} {L : List (Nat × Obj)} {e sz : Nat} {q : Option Addr} {n c : Nat} {vs : List Value}
/-- A row that a callee has made beside a table. -/
theorem bld_here (hO : OwB w0 L X) (hO' : OwB w0 L W) (B : BldV W.void [] e sz W q n c vs) (hn : ∀ g, q.map (·.block) = some g → X.heap.size ≤ g) : BldV w0 L e sz W q n c vs :=
  ⟨hO', B.row, fun g hg => ⟨Nat.le_trans hO.fr.size (hn g hg), fun hm => by
    obtain ⟨x, hx, rfl⟩ := List.mem_map.1 hm
    have h1 := World.at_lt (hO.has x hx)
    have h2 := hn x.1 hg
    omega⟩⟩
theorem Parked.kept {N : List (Nat × Obj)} (h : Parked N 65 162 q n c vs) : Kept q n c vs N := by
  rcases h with ⟨rfl, rfl, rfl, rfl, rfl⟩ | ⟨g, r, rfl, rfl, hl, hc, hn, hm⟩
  · exact Kept.nil
  · refine ⟨fun x hx => ?_, fun w2 hw2 => .inr ⟨_, rfl, hl, hn, .inr ⟨g, 0, _, 65, _, rfl, hw2.nth 0 rfl, ?_, ?_⟩, by simp, fun a ha => ⟨g, 0, by simpa using ha.symm⟩⟩⟩
    · simp only [List.mem_singleton] at hx
      subst hx
      exact ⟨_, _, rfl⟩
    · rw [size_rowV, ← hl]; omega
    · rw [Nat.zero_add, ← hl, rowV]
      simp
theorem BldV.newroom (h : BldV w0 L e sz w q n c vs) (o : Obj) : BldV w0 ((w.heap.size, o) :: L) e sz (w.alloc o) q n c vs :=
  h.add ((Fr.refl [] w).alloc _) (World.at_alloc_new _ _ _ rfl) (Nat.le_refl _)
end
section
variable {w0 w : World} {A B C D : List (Nat × Obj)} {b : Nat} {o : Obj}
theorem own_set4 (h : OwB w0 (A ++ (B ++ (C ++ ((b, o) :: D)))) w) (o' : Obj) : OwB w0 (A ++ (B ++ (C ++ ((b, o') :: D)))) (w.put b o') := by
  have h2 : OwB w0 ((A ++ (B ++ C)) ++ ((b, o) :: D)) w := by simpa [List.append_assoc] using h
  simpa [List.append_assoc] using h2.set_mid o'
theorem own_front (h : OwB w0 (A ++ (B ++ C)) w) : OwB w0 (B ++ (A ++ C)) w := h.perm (List.perm_append_comm_assoc A B C)
end
/-- What stands between the batches. -/
structure OnceS (w : World) (lo tb : Nat) (L4 : List (Nat × Obj)) (b9 : Nat) (X : World) (p10 : Option Addr) (n10 c10 : Nat) (p11 : Option Addr) (n11 c11 : Nat) (S C : List Int) (hs : Bool) (fall : List Value) (p : Option Addr) (m cap : Nat) (last : Int) (ls : List Bn) (Ns Nc M : List (Nat × Obj)) (T : List Tm) : Prop where
  own : OwB w (M ++ (Ns ++ (Nc ++ ((b9, .cells (cShelf (.bool hs) fall (.slice p m cap) (.int .u16 last)).toArray 68) :: L4)))) X
  ks : Parked Ns 63 1 p10 n10 c10 (S.map (Value.int .u16))
  kc : Parked Nc 63 1 p11 n11 c11 (C.map (Value.int .u16))
  kl : Kept p m cap (bnsL ls) M
  tab : TabP lo tb X T
  inv : InvK S C ls last
  ml : ls.length = m
  sl : S.length = n10
  cl : C.length = n11
  fl : fall.length = 162
  fo : ∀ v ∈ fall, v.oneCell' = true
  f0 : hs = true → fall[65]? = some (.int .u16 0)
def OnceE (w : World) (lo tb : Nat) (L4 : List (Nat × Obj)) (b9 i : Nat) (X : World) (p10 : Option Addr) (n10 c10 : Nat) (p11 : Option Addr) (n11 c11 : Nat) : Prop :=
  ∃ S C hs fall p m cap last ls Ns Nc M T, S.length ≤ 10 * i ∧ OnceS w lo tb L4 b9 X p10 n10 c10 p11 n11 c11 S C hs fall p m cap last ls Ns Nc M T
theorem OnceS.oth {w X : World} {lo tb : Nat} {L4 : List (Nat × Obj)} {b9 : Nat} {p10 : Option Addr} {n10 c10 : Nat} {p11 : Option Addr} {n11 c11 : Nat} {S C : List Int} {hs : Bool} {fall : List Value} {p : Option Addr} {m cap : Nat} {last : Int} {ls : List Bn} {Ns Nc M : List (Nat × Obj)} {T : List Tm}
    (h : OnceS w lo tb L4 b9 X p10 n10 c10 p11 n11 c11 S C hs fall p m cap last ls Ns Nc M T) (h4 : ∀ q ∈ L4, other TT q.2) : ∀ q ∈ M ++ (Ns ++ (Nc ++ ((b9, .cells (cShelf (.bool hs) fall (.slice p m cap) (.int .u16 last)).toArray 68) :: L4))), q.1 < lo ∨ other TT q.2 := fun q hq => by
  rcases List.mem_append.1 hq with hq | hq
  · obtain ⟨cs, fr, e⟩ := h.kl.1 q hq
    rw [e]
    exact .inr ⟨by decide, by decide⟩
  rcases List.mem_append.1 hq with hq | hq
  · exact .inr (Parked.other h.ks ⟨by decide, by decide⟩ q hq)
  rcases List.mem_append.1 hq with hq | hq
  · exact .inr (Parked.other h.kc ⟨by decide, by decide⟩ q hq)
  rcases List.mem_cons.1 hq with rfl | hq
  · exact .inr ⟨by decide, by decide⟩
  · exact .inr (h4 q hq)
theorem bnsL_snoc (x y : Bn) (l : List Bn) : bnsL (x :: (l ++ [y])) = bnsL (x :: l) ++ (bnC y).toList := by
  rw [← List.cons_append, bnsL_append]
  congr 1
  simp [bnsL]
/-- A batch that grows. -/
def BatchE (w : World) (lo tb : Nat) (LL : List (Nat × Obj)) (X : World) (q : Option Addr) (n c : Nat) : Prop :=
  ∃ x l T, BldV w LL 65 162 X q n c (bnsL (x :: l)) ∧ BnOk x ∧ x.id = 0 ∧ (∀ y ∈ l, BnOk y) ∧ l.length + 1 = n ∧ TabP lo tb X T
end Go.Proofs.YtbhnfohoclcjdaaGreat
namespace Go.Proofs.YtbhnfohoclcjdaaGreat
open Go.RowKit Go.Dr Go.Kd
/-- A growing row of pieces. -/
structure Gw (w0 : World) (X : List (Nat × Obj)) (w : World) (q : Option Addr) (k c : Nat) (ls : List Bs) : Prop where
  ex : ∃ (us : List Value) (M : List (Nat × Obj)), BldV w0 (M ++ X) 49 1 w q k c us ∧ ∀ W, Has M W → Sls W us ls
/-- As that, with a piece more that is not in it. -/
structure Gwp (w0 : World) (X : List (Nat × Obj)) (w : World) (q : Option Addr) (k c : Nat) (ls : List Bs) (p : Option Addr) (m d : Nat) (l : Bs) : Prop where
  ex : ∃ (us : List Value) (M : List (Nat × Obj)), BldV w0 (M ++ X) 49 1 w q k c us ∧ ∀ W, Has M W → Sls W us ls ∧ Sl .u8 W p m d l
section
variable {w0 w w' : World} {X : List (Nat × Obj)} {q p : Option Addr} {k c m d : Nat} {ls : List Bs} {l : Bs}
theorem _root_.Go.BldV.perm' {L L' : List (Nat × Obj)} {e sz : Nat} {vs : List Value} (h : BldV w0 L e sz w q k c vs) (hp : L.Perm L') : BldV w0 L' e sz w q k c vs :=
  ⟨h.own.perm hp, h.row, fun g hg => ⟨(h.new g hg).1, fun hm => (h.new g hg).2 ((hp.map Prod.fst).mem_iff.2 hm)⟩⟩
theorem Gw.call (h : Gw w0 X w q k c ls) (F : Fr [] w w') : Gw w0 X w' q k c ls := by
  obtain ⟨us, M, B, S⟩ := h.ex
  exact ⟨us, M, B.call F, S⟩
theorem Gwp.call (h : Gwp w0 X w q k c ls p m d l) (F : Fr [] w w') : Gwp w0 X w' q k c ls p m d l := by
  obtain ⟨us, M, B, S⟩ := h.ex
  exact ⟨us, M, B.call F, S⟩
theorem Gw.own (h : Gw w0 X w q k c ls) : OwB w0 X w := by
  obtain ⟨us, M, B, S⟩ := h.ex
  exact B.own.sub (List.sublist_append_right _ _)
theorem Gwp.own (h : Gwp w0 X w q k c ls p m d l) : OwB w0 X w := by
  obtain ⟨us, M, B, S⟩ := h.ex
  exact B.own.sub (List.sublist_append_right _ _)
theorem Gw.sll (h : Gw w0 X w q k c ls) : Sll w q k c ls := by
  obtain ⟨us, M, B, S⟩ := h.ex
  exact Sll.of B.sv (S w B.own.has.of_append.1)
theorem Gw.piece (h : Gw w0 X w q k c ls) (B : Bld w [] .u8 5 w' p m d l) : Gwp w0 X w' q k c ls p m d l := by
  obtain ⟨us, M, B1, S⟩ := h.ex
  obtain ⟨M2, B2, _, S2⟩ := B1.join B
  refine ⟨us, M2 ++ M, by rw [List.append_assoc]; exact B2, fun W hW => ⟨S W hW.of_append.2, S2 W hW.of_append.1⟩⟩
theorem Gw.alloc (h : Gw w0 X w q k c ls) (o : Obj) (b : Nat) (hb : b = w.heap.size) : Gw w0 ((b, o) :: X) (w.alloc o) q k c ls := by
  obtain ⟨us, M, B, S⟩ := h.ex
  subst hb
  exact ⟨us, M, (BldV.newroom B o).perm' List.perm_middle.symm, S⟩
theorem Gw.pop {b : Nat} {o : Obj} (h : Gw w0 ((b, o) :: X) w q k c ls) : Gw w0 X w q k c ls := by
  obtain ⟨us, M, B, S⟩ := h.ex
  exact ⟨us, M, B.sub (List.Sublist.append (List.Sublist.refl _) (List.sublist_cons_self _ _)), S⟩
theorem Gw.none (h : Gw w0 X w q k c ls) : Gwp w0 X w q k c ls none 0 0 [] := by
  obtain ⟨us, M, B, S⟩ := h.ex
  exact ⟨us, M, B, fun W hW => ⟨S W hW, ⟨rfl, Nat.le_refl 0, .inl rfl, fun _ => rfl, by simp⟩⟩⟩
theorem Gw.made {M : List (Nat × Obj)} {b : Nat} {us : List Value} (h : OwB w0 ((b, .cells us.toArray 49 (0, 0)) :: (M ++ X)) w) (hl : us.length = k) (hk : k ≤ 1000000) (S : ∀ W, Has M W → Sls W us ls) : Gw w0 X w (some ⟨b, 0, .none⟩) k k ls := by
  refine ⟨us, M, BldV.of (r := #[]) (by simpa [rowV] using h) (by omega) (by simp; omega) (Nat.le_refl _) (Nat.le_trans hk (by decide)), S⟩
variable {ops : Array Oper} {rest : List Oper} {o : Oper} {a : Act} {Q : Exit → Act → World → Prop}
theorem wpList_gw (hgd : o.guard = none) (s x : Operand) (ho : o.op = .call { callee := .builtin .append, args := #[s, x], argTypes := #[102, 102] })
    (hs : a.eval s = .slice q k c) {b : Nat} (hx : a.eval x = .slice (some ⟨b, 0, none⟩) 1 1) {fr : Nat × Nat} (G : Gwp w0 X w q k c ls p m d l) (hb : w.blk b = some (.cells #[.slice p m d] 49 fr)) (hbig : k + 1 ≤ 1000000)
    (h : ∀ q' c' w', Gw w0 X w' q' (k + 1) c' (ls ++ [l]) → wpList Tryz.prog ops Q rest (a.put o.dst (.slice q' (k + 1) c')) w') : wpList Tryz.prog ops Q (o :: rest) a w := by
  obtain ⟨us, M, B, S⟩ := G.ex
  refine wpList_app86 hgd s x ho hs B hx (Sv.one hb) (by simp [Value.oneCell']) hbig fun q' c' w' B' => h q' c' w' ⟨us ++ [.slice p m d], M, B', fun W hW => ?_⟩
  exact (S W hW).1.append (.cons (S W hW).2 .nil)
end
end Go.Proofs.YtbhnfohoclcjdaaGreat
