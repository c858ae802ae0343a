/- Joined: DdB, DcX, DcXa, DcY, DcZ, DdD. -/
import Derived.Test.YtbhnfohoclcjdaaGreatZt
set_option linter.unusedVariables false
set_option linter.unusedSimpArgs false
namespace Go
def insI (ks : List Int) (k : Int) : List Int := if k ∈ ks then ks else ks ++ [k]
/-- A map's keys are numbers; one more is set. -/
theorem mapI_up {P : Program} {w : World} {b : Nat} {ks : List Int} {t kt et : TypeId} {es : Array MapEntry} {clock : Nat} (hb : w.blk b = some (.map es clock)) (he : es.toList.map (·.key) = ks.map (Value.int .u8)) (ht : P.underlying t = some (.map kt et)) (hk : P.underlying kt = some (.int .u8)) (k : Int) (v : Value) :
    ∃ es' clock', (Instr.mapUpdate t (.map (some b)) (.int .u8 k) v).run P w = .ok () (w.put b (.map es' clock')) ∧ es'.toList.map (·.key) = (insI ks k).map (Value.int .u8) := by
  have hks : ∀ x ∈ es.toList, MapKept.IsKey (.int .u8) x.key := fun x hx => by
    have : x.key ∈ es.toList.map (·.key) := List.mem_map_of_mem hx
    rw [he] at this
    obtain ⟨y, _, hy⟩ := List.mem_map.1 this
    rw [← hy]
    rfl
  have hkk : MapKept.IsKey (.int .u8) (.int .u8 k) := rfl
  have hc : ∀ em, (Instr.checkKey em 10000 kt (.int .u8 k)).run P w = .ok () w := fun em => MapKept.run_checkKey hk hkk em 9999
  rcases MapKept.findNow_spec hkk es.toList 0 hks with ⟨h1, h2⟩ | ⟨j, e, h1, h2, h3⟩
  · have hn : k ∉ ks := fun hm => by
      have : Value.int .u8 k ∈ es.toList.map (·.key) := by rw [he]; exact List.mem_map_of_mem hm
      obtain ⟨x, hx, e⟩ := List.mem_map.1 this
      exact h2 x hx e
    refine ⟨es.push { key := .int .u8 k, val := v, born := clock }, clock + 1, ?_, ?_⟩
    · simp [Instr.mapUpdate, run_underlying ht, MapKept.run_getObj_map hb, hc, MapKept.run_findKey hk h1, MapKept.run_setObj_map _ hb, Result.andThen, World.put]
    · rw [insI, if_neg hn, Array.toList_push, List.map_append, he, List.map_append]
      rfl
  · have hj : es[j]? = some e := by simpa using h2
    have hm : k ∈ ks := by
      have : e.key ∈ es.toList.map (·.key) := List.mem_map_of_mem (Array.mem_toList_iff.2 (Array.mem_of_getElem? hj))
      rw [he] at this
      obtain ⟨y, hy, hy2⟩ := List.mem_map.1 this
      rw [h3] at hy2
      simp only [Value.int.injEq, true_and] at hy2
      exact hy2 ▸ hy
    have hkey : ∀ e', es[j]? = some e' → ({ e' with key := .int .u8 k, val := v } : MapEntry).key = e'.key := fun e' he' => by rw [hj] at he'; cases he'; exact h3.symm
    refine ⟨es.modify j fun e => { e with key := .int .u8 k, val := v }, clock, ?_, ?_⟩
    · simp [Instr.mapUpdate, run_underlying ht, MapKept.run_getObj_map hb, hc, MapKept.run_findKey hk h1, hj, h3, MapKept.run_keyThatStays hkk, MapKept.run_setObj_map _ hb, Result.andThen, World.put]
    · rw [MapKept.modify_keys j _ hkey, he, insI, if_pos hm]
end Go
namespace Go.Proofs.YtbhnfohoclcjdaaGreat
open Go.RowKit Go.Dr Go.Kd
/-- Does this vouch count? -/
def vOk (T : List Tm) (first : List Bs) (x : Ob) (v : Int × Bs) : Bool := decide (v.1 < 4) && decide (v.1 ≠ x.server) && decide (first.getD v.1.toNat [] ≠ Kd.zeros 32) && verifyF T (first.getD v.1.toNat []) (vouchText x v.1) v.2
theorem vouchers_eq (T : List Tm) (first : List Bs) (x : Ob) : vouchers T first x = ((x.vs.filter (vOk T first x)).map Prod.fst).eraseDups := rfl
def keysU (T : List Tm) (first : List Bs) (x : Ob) (i : Nat) : List Int := (((x.vs.take i).filter (vOk T first x)).map Prod.fst).eraseDups
theorem keysU_zero (T : List Tm) (first : List Bs) (x : Ob) : keysU T first x 0 = [] := rfl
theorem keysU_all (T : List Tm) (first : List Bs) (x : Ob) : keysU T first x x.vs.length = vouchers T first x := by rw [keysU, List.take_length, vouchers_eq]
theorem dups_snoc (l : List Int) (k : Int) : (l ++ [k]).eraseDups = insI l.eraseDups k := by
  rw [List.eraseDups_append, insI]
  by_cases h : k ∈ l
  · rw [if_pos (List.mem_eraseDups.2 h)]
    simp [List.removeAll, h]
  · rw [if_neg (fun hm => h (List.mem_eraseDups.1 hm))]
    simp [List.removeAll, h]
    rfl
theorem keysU_succ {T : List Tm} {first : List Bs} {x : Ob} {i : Nat} {v : Int × Bs} (h : x.vs[i]? = some v) : keysU T first x (i + 1) = if vOk T first x v = true then insI (keysU T first x i) v.1 else keysU T first x i := by
  unfold keysU
  have e : x.vs.take (i + 1) = x.vs.take i ++ [v] := by rw [List.take_add_one, h]; rfl
  rw [e, List.filter_append, List.map_append]
  by_cases hv : vOk T first x v = true
  · rw [if_pos hv, ← dups_snoc]
    simp [hv]
  · rw [if_neg hv]
    simp [hv]
theorem firstC_at {C : List Int} {m : Nat} (h : m < 4) : (firstC C).getD m [] = List.drop (m * 32) (List.take (m * 32 + 32) C) := by
  rw [List.drop_take, Nat.add_sub_cancel_left]
  rcases (show m = 0 ∨ m = 1 ∨ m = 2 ∨ m = 3 by omega) with rfl | rfl | rfl | rfl <;> rfl
/-- What a vouch's cells are. -/
structure VcF (vc : Array Value) (v : Int × Bs) : Prop where
  sz : vc.size = 65
  g0 : ∃ h : 0 < vc.size, vc[0] = .int .u8 v.1
  g1 : vc.extract 1 65 = ints .u8 v.2
  al : vc.extract 0 65 = vc
  on : ones vc.toList = true
theorem vcF {v : Int × Bs} (h : VcOk v) : VcF (vcC v).toArray v := ⟨vcC_size h, Array.getElem?_eq_some_iff.1 (vcC_zero v), vcC_sig h.sl, by rw [← vcC_size h]; exact Array.extract_size, List.all_eq_true.2 (vcC_one v)⟩
end Go.Proofs.YtbhnfohoclcjdaaGreat
namespace Go
open Go.Dr
section
variable {w : World} {e sz : Nat} {p : Option Addr} {n : Nat} {vs : List Value}
theorem wpList_grow {P : Program} {ops : Array Oper} {rest : List Oper} {o : Oper} {a : Act} {Q : Exit → Act → World → Prop} (hgd : o.guard = none) (s x : Operand) (t tx : TypeId)
    (ho : o.op = .call { callee := .builtin .append, args := #[s, x], argTypes := #[t, tx] }) {i : TypeInfo} {z : Value} {bytes : Nat}
    (ht : P.underlying t = some (.slice e)) (hi : P.info? e = some i) (hz : i.zero = some z) (hsz : i.size = sz) (h0 : 0 < sz) (hby : i.bytes = bytes) (hzs : z.cells.size = sz)
    (hs : a.eval s = .slice p n n) (B : Src P sz t (.slice p n n) n vs w) {v : Value} (hx : a.eval x = v) {m : Nat} {l2 : List Value} (S : Apd P t tx e i z v m l2 w) (hm : 0 < m)
    (hbig : (n + m) * bytes ≤ 140737488355328) (h63 : n + m ≤ 4611686018427387904)
    (h : ∀ p' cap' w', BldV w [] e sz w' p' (n + m) cap' (vs ++ l2) → wpList P ops Q rest (a.put o.dst (.slice p' (n + m) cap')) w') : wpList P ops Q (o :: rest) a w := by
  refine wpList_plain hgd fun K hK => ?_
  subst hsz hby
  have h63' : n + m ≤ maxLen := by unfold maxLen; omega
  have hmb : (m : Int) * i.bytes ≤ 281474976710656 := by
    have h1 : m * i.bytes ≤ (n + m) * i.bytes := Nat.mul_le_mul_right _ (Nat.le_add_left _ _)
    have h2 : ((m * i.bytes : Nat) : Int) ≤ 140737488355328 := by omega
    rw [Int.natCast_mul] at h2
    omega
  have hr := S.grow o.type p n n vs B.cellsD (by omega) (by omega) (growslice_fits (by omega) hbig) hmb
  have hge := grownCap_ge w (n + m) n e
  have hcm : grownCap w (n + m) n e ≤ maxLen := grownCap_le_maxLen w (n + m) n e h63'
  have hlen : (vs ++ l2).length = (n + m) * i.size := by rw [List.length_append, B.newsLen, S.len, Nat.add_mul]
  unfold Oper.wp execOp
  simp only [ho, resolve, invoke, builtin, Sem.run_bind, Sem.run_pure, Result.andThen_ok, List.map_toArray, List.map_cons, List.map_nil, hs, hx, hr]
  refine hK _ _ (h _ _ _ ⟨(OwB.start w).call ((Fr.refl [] w).drew.alloc _), ⟨hlen, .inr ⟨w.heap.size, _, _, rfl, Nat.zero_le _, heap_alloc_new w.drew _, hge, hcm, ?_, ?_⟩⟩, fun g hg => ⟨by simp at hg; omega, by simp⟩⟩)
  · simp only [Array.size_append, List.size_toArray, size_zeroCells, hzs, hlen, ← Nat.add_mul]
    congr 1
    omega
  · simp only [Array.toList_append]
    rw [← hlen]
    exact List.take_left
end
end Go
namespace Go.Proofs.YtbhnfohoclcjdaaGreat
open Go.RowKit Go.Dr Go.Kd
theorem vc_built {n : Int} {s : List Int} (h : s.length = 64) : spl (Tryz.zeroCells105.setIfInBounds 0 (.int .u8 n)) 1 (s.map (Value.int .u8)) = (vcC (n, s)).toArray := by
  have hz : Tryz.zeroCells105 = (Value.int .u8 0 :: (zs 64).map (Value.int .u8)).toArray := by kernel_rfl
  have l1 : (s.map (Value.int .u8)).length = 64 := by rw [List.length_map, h]
  rw [hz]
  simp only [List.setIfInBounds_toArray, List.set_cons_zero, spl, vcC]
  simp [List.take, l1, h, zs]
end Go.Proofs.YtbhnfohoclcjdaaGreat
namespace Go.Proofs.YtbhnfohoclcjdaaGreat
open Go.RowKit Go.Dr Go.Kd
def D16 (i : Nat) : Nat := [0, 0, 0, 0, 0, 15, 16, 17, 9].getD i 0
def pick2 (b : Bool) (x y : List Tm) : List Tm := cond b x y
theorem e5 : D16 5 = 15 := rfl
theorem e6 : D16 6 = 16 := rfl
theorem e7 : D16 7 = 17 := rfl
theorem e8 : D16 8 = 9 := rfl
theorem E46 : ElemT Tryz.prog 46 105 65 65 Tryz.zeroCells105 := ⟨Tryz.underlying46, by kernel_rfl, by kernel_rfl⟩
@[go_sem] theorem one46 (w : World) (Y : Array Value) (h : Y.size = 65) : (buildOneK 46 #[(0, .agg Y)]).run Tryz.prog w = .ok (.slice (some ⟨w.heap.size, 0, none⟩) 1 1) (w.alloc (.cells Y 105)) :=
  E46.buildOne (by omega) (by omega) w (.agg Y) h
theorem _root_.Go.Sv.tight {sz : Nat} {w : World} {p : Option Addr} {n c : Nat} {vs : List Value} (h : Sv sz w p n c vs) : Sv sz w p n n vs := ⟨h.len, Nat.le_refl _, h.row, fun e => by have := h.nil e; have := h.cap_; omega, h.mid⟩
theorem _root_.Go.Sv.ofOne {sz : Nat} {w : World} {g : Nat} {Y : Array Value} {T : TypeId} {fr : Nat × Nat} (hg : w.blk g = some (.cells Y T fr)) (hY : Y.size = sz) : Sv sz w (some ⟨g, 0, none⟩) 1 1 Y.toList :=
  ⟨by simpa using hY, Nat.le_refl 1, .inr ⟨g, 0, Y, T, fr, rfl, hg, by omega, by rw [Nat.zero_add, Nat.one_mul, ← hY, Array.extract_size]⟩, by simp, fun a ha => ⟨g, 0, by simpa using ha.symm⟩⟩
/-- []api.Vouch: append to a full row. -/
theorem wpList_grow46 {w : World} {p : Option Addr} {n : Nat} {vs : List Value} {ops : Array Oper} {rest : List Oper} {o : Oper} {a : Act} {Q : Exit → Act → World → Prop} (hgd : o.guard = none) (s x : Operand) (ho : o.op = .call { callee := .builtin .append, args := #[s, x], argTypes := #[46, 46] })
    (hs : a.eval s = .slice p n n) (B : Sv 65 w p n n vs) (B1 : ∀ u ∈ vs, u.oneCell' = true) {q : Option Addr} {m c : Nat} {us : List Value} (hx : a.eval x = .slice q m c) (S : Sv 65 w q m c us) (h1 : ∀ u ∈ us, u.oneCell' = true) (hm : 0 < m) (hbig : n + m ≤ 1000000)
    (h : ∀ p' cap' w', BldV w [] 105 65 w' p' (n + m) cap' (vs ++ us) → wpList Tryz.prog ops Q rest (a.put o.dst (.slice p' (n + m) cap')) w') : wpList Tryz.prog ops Q (o :: rest) a w := by
  obtain ⟨i, z, hi, hz, hzs, hs1, hb1⟩ := info105_parts
  exact wpList_grow hgd s x 46 46 ho Tryz.underlying46 hi hz hs1 (by omega) hb1 hzs hs (B.src Tryz.underlying46 B1) hx (Apd.ofSrc Tryz.underlying46 hi hz (by rw [hs1]; exact S.src Tryz.underlying46 h1)) hm (by omega) (by omega) h
theorem isBytes_vouch {x : Ob} {n : Int} (h : ObK x) (n0 : 0 ≤ n) (n1 : n < 256) : isBytes (vouchText x n) := by
  refine isBytes_join (fits_vouch n h.kl) ?_
  intro l hl
  simp only [List.mem_cons, List.not_mem_nil, or_false] at hl
  rcases hl with rfl | rfl | rfl
  · intro y hy; simp only [List.mem_cons, List.not_mem_nil, or_false] at hy; omega
  · intro y hy; simp only [List.mem_cons, List.not_mem_nil, or_false] at hy; omega
  · exact isBytes_objK h
section
variable {w : World}
/-- What each of the four gives. -/
def R16 (w : World) (T : List Tm) (k : List Int) (t : List Int) (n : Int) (i : Nat) (v : Value) (W : World) : Prop := match i with
  | 5 => ∃ q m c, v = .slice q m c ∧ After TT W fun X => Sl .u8 X q m c t
  | 6 => v = .agg (ints .u8 (signF T k t).2)
  | 7 => v = .agg (spl (Tryz.zeroCells105.setIfInBounds 0 (.int .u8 n)) 1 ((signF T k t).2.map (Value.int .u8)))
  | 8 => ∃ b, v = .pointer (some ⟨b, 0, none⟩) ∧ W.blk b = some (.cells Tryz.zeroCells105 105) ∧ w.heap.size ≤ b
  | _ => True
set_option maxRecDepth 100000 in
set_option maxHeartbeats 4000000 in
theorem kvouch_v {lo tb : Nat} {T : List Tm} {k : List Int} {x : Ob} {p : Option Addr} {n cap : Nat} {nt : Int} (h : TabP lo tb w T) (hk : k.length = 32) (hb : isBytes k) (hx : ObK x) (hv : Vr w p n cap (vsL x.vs)) (hn : n ≤ 10000) (n0 : 0 ≤ nt) (n1 : nt < 256) :
    Calls Tryz.prog 16 #[SU tb, .agg (ints .u8 k), .agg (oC x (.slice p n cap)), .int .u8 nt] w fun e w' => ∃ q c, e = .returned (.agg (oC x (.slice q (n + 1) c))) ∧ Vr w' q (n + 1) c (vsL (x.vs ++ [(nt, (signF T k (vouchText x nt)).2)])) ∧ TabP lo tb w' (signF T k (vouchText x nt)).1 ∧ FrP lo w w' := by
  have H := Lib.hid h
  have HB := Lib.hid hb
  obtain ⟨xs, hxs⟩ : ∃ xs, xs = oC x (.slice p n cap) := ⟨_, rfl⟩
  have hsz : xs.size = 101 := by rw [hxs, List.size_toArray, cObject_length _ _ _ _ _ _ _ hx.kl hx.sl]
  have xall : xs.extract 0 101 = xs := by rw [← hsz]; exact Array.extract_size
  rw [← hxs]
  have c1 : ∀ W : World, Calls Tryz.prog 46 #[.agg xs, .int .u8 nt] W fun e w' => ∃ q m c, e = .returned (.slice q m c) ∧ Bld W [] .u8 5 w' q m c (vouchText x nt) := fun W => by rw [hxs]; exact vtext_v hx rfl
  have C1 := Lib.hid c1
  have HX := Lib.hid hxs
  have HO := Lib.hid hx
  have HV := Lib.hid hv
  have HBT := Lib.hid (isBytes_vouch hx n0 n1)
  clear h hb hxs hx hv c1
  generalize vouchText x nt = tx at C1 HBT ⊢
  go_enter Tryz.func16, Tryz.ntmps16
  have hz : Tryz.zeroCells48.size = 101 := by kernel_rfl
  go_upto_region 1 with (fail)
  refine named_world (A := fun X => OwB w [(w.heap.size + 1 + 1 + 1, .cells Tryz.zeroCells48 48), (w.heap.size + 1 + 1, .cells xs 48), (w.heap.size + 1, .cells (ints .u8 k) 34), (w.heap.size, .cells #[.pointer (some ⟨tb, 0, none⟩)] 27)] X) (Q := fun X => Code.wp _ _ _ _ X) (((((OwB.start w).allocN _ w.heap.size rfl).allocN _ (w.heap.size + 1) (by simp)).allocN _ (w.heap.size + 1 + 1) (by simp)).allocN _ (w.heap.size + 1 + 1 + 1) (by simp)) ?_
  intro U hU
  generalize hb8 : w.heap.size + 1 + 1 + 1 = b8 at hU ⊢
  generalize hb6 : w.heap.size + 1 + 1 = b6 at hU ⊢
  generalize hb5 : w.heap.size + 1 = b5 at hU ⊢
  generalize hb4 : w.heap.size = b4 at hU ⊢
  clear hb8 hb6 hb5 hb4
  have f6 := hU.nth 1 rfl
  have f5 := hU.nth 2 rfl
  have f4 := hU.nth 3 rfl
  have t6 := World.at_lt f6
  have t5 := World.at_lt f5
  have t4 := World.at_lt f4
  have HU := Lib.hid hU
  clear hU
  refine drawn_begin 9 (fun w' => w'.blk b4 = some (.cells #[.pointer (some ⟨tb, 0, none⟩)] 27) ∧ w'.blk b5 = some (.cells (ints .u8 k) 34) ∧ w'.blk b6 = some (.cells xs 48)) (by kernel_rfl) ?_
  refine drawn_reads (fuel := 5) [0, 1, 2, 3, 4] rfl (by kernel_rfl) ⟨f4, f5, f6⟩ ?_
  repeat (first | (refine rowK_step2 rfl rfl (fun K hK => ?_); go_wp2) | (refine rowK_step rfl (fun K hK => ?_); go_simp; refine hK _ ?_; clear hK K))
  refine rowK_nil ⟨fun w' e1 => ?_, ?_⟩
  · obtain ⟨e1, e2, e3⟩ := e1
    clear f4 f5 f6
    repeat (first | (refine rowWp_step2 rfl rfl (fun K hK => ?_); go_wp2) | (refine rowWp_step rfl (fun K hK => ?_); go_simp; refine hK _ ?_; clear hK K))
    exact rowWp_nil rfl
  refine drawn_jumble2 (fuel := 1) (D := D16) [5, 6, 7, 8] (R16 w T k tx nt) (fun W W' => FrP lo W W') (fun p W => TabP lo tb W (pick2 (p 6) (signF T k tx).1 T) ∧ FrP lo w W ∧ Has [(b8, .cells Tryz.zeroCells48 48), (b6, .cells xs 48), (b5, .cells (ints .u8 k) 34), (b4, .cells #[.pointer (some ⟨tb, 0, none⟩)] 27)] W) (by kernel_rfl) ?_ ?_ ?_ ?_
  · intro i v W W' hR hF
    unfold R16 at *
    split at hR
    · obtain ⟨q, m, c, rfl, h2⟩ := hR
      exact ⟨q, m, c, rfl, h2.step hF.stay⟩
    · exact hR
    · exact hR
    · obtain ⟨b, rfl, h2, h3⟩ := hR
      exact ⟨b, rfl, hF.get h2 (.inr ⟨by decide, by decide⟩), h3⟩
    · trivial
  · exact ⟨H.out.fr0 HU.out.drew.fr, FrT.of HU.out.drew.fr, HU.out.drew.has⟩
  · have hS : ∀ X : World, Has [(b8, .cells Tryz.zeroCells48 48), (b6, .cells xs 48), (b5, .cells (ints .u8 k) 34), (b4, .cells #[.pointer (some ⟨tb, 0, none⟩)] 27)] X → X.blk b4 = some (.cells #[.pointer (some ⟨tb, 0, none⟩)] 27) ∧ X.blk b5 = some (.cells (ints .u8 k) 34) ∧ X.blk b6 = some (.cells xs 48) := fun X hX => ⟨hX (b4, _) (by simp), hX (b5, _) (by simp), hX (b6, _) (by simp)⟩
    have hG : ∀ X X' : World, Has [(b8, .cells Tryz.zeroCells48 48), (b6, .cells xs 48), (b5, .cells (ints .u8 k) 34), (b4, .cells #[.pointer (some ⟨tb, 0, none⟩)] 27)] X → FrP lo X X' → Has [(b8, .cells Tryz.zeroCells48 48), (b6, .cells xs 48), (b5, .cells (ints .u8 k) 34), (b4, .cells #[.pointer (some ⟨tb, 0, none⟩)] 27)] X' := fun X X' hX F q hq => by
      simp only [List.mem_cons, List.not_mem_nil, or_false] at hq
      rcases hq with rfl | rfl | rfl | rfl
      · exact F.get (hX (b8, _) (by simp)) (.inr ⟨by decide, by decide⟩)
      · exact F.get (hX (b6, _) (by simp)) (.inr ⟨by decide, by decide⟩)
      · exact F.get (hX (b5, _) (by simp)) (.inr ⟨by decide, by decide⟩)
      · exact F.get (hX (b4, _) (by simp)) (.inr ⟨by decide, by decide⟩)
    have HS := Lib.hid hS
    have HG := Lib.hid hG
    clear hS hG f4 f5 f6 t4 t5 t6
    intro i hi p' y W hp hJ hP hR
    obtain ⟨hT, hF, hH⟩ := hJ
    have HT := Lib.hid hT
    have HF := Lib.hid hF
    have HH := Lib.hid hH
    have HR := Lib.hid hR
    clear hT hF hH hP hR
    simp only [List.mem_cons, List.not_mem_nil, or_false] at hi
    rcases hi with rfl | rfl | rfl | rfl
    · refine wpOp_ofList rfl fun K hK => ?_
      simp only [fillA, fillT, e5, e6, e7, e8]
      go_wp2_with fail
      refine (C1.out W).mono ?_
      rintro e W2 ⟨q, m, c, rfl, B⟩
      have HB5 := Lib.hid B
      clear B
      go_wp2_with fail
      have F5 : FrP lo W W2 := .of HB5.out.own.fr
      exact ⟨_, by (simp only [fillA, fillT, e5, e6, e7, e8]; first | rfl | exact ⟨rfl, trivial⟩), ⟨q, m, c, rfl, fun X hX => Bld.slStay (t := TT) HB5.out (.inl rfl) hX⟩, F5, ⟨by simpa using HT.out.fr0 HB5.out.own.fr, HF.out.trans F5, HG.out _ _ HH.out F5⟩, .inr (HS.out _ (HG.out _ _ HH.out F5))⟩
    · obtain ⟨q, m, c, hy, hA⟩ := HR.out 5 (by simp) (by kernel_rfl)
      have hT := HT.out
      rw [hp] at hT
      replace hT : TabP lo tb W T := hT
      refine wpOp_ofList rfl fun K hK => ?_
      simp only [fillA, fillT, e5, e6, e7, e8]
      rw [hy]
      have HA := Lib.hid hA
      have HT2 := Lib.hid hT
      clear hA hT
      go_wp2_with fail
      refine (sign_f HT2.out hk HB.out HA.out.now HBT.out).mono ?_
      rintro e W2 ⟨rfl, hT, F6⟩
      have HT3 := Lib.hid hT
      have HF6 := Lib.hid F6
      clear hT F6
      go_wp2_with fail
      exact ⟨_, by (simp only [fillA, fillT, e5, e6, e7, e8]; rw [hy]; first | rfl | exact ⟨rfl, trivial⟩), rfl, HF6.out, ⟨by simpa [pick2] using HT3.out, HF.out.trans HF6.out, HG.out _ _ HH.out HF6.out⟩, .inr (HS.out _ (HG.out _ _ HH.out HF6.out))⟩
    · have hy : y 6 = .agg (ints .u8 (signF T k tx).2) := HR.out 6 (by simp) (by kernel_rfl)
      have hsl := signF_len T k tx
      refine wpOp_ofList rfl fun K hK => ?_
      simp only [fillA, fillT, e5, e6, e7, e8]
      rw [hy]
      go_wp2_with fail
      exact ⟨_, by (simp only [fillA, fillT, e5, e6, e7, e8]; rw [hy]; first | rfl | exact ⟨rfl, trivial⟩), rfl, FrT.refl _, ⟨by simpa using HT.out, HF.out, HH.out⟩, HS.out _ HH.out⟩
    · have lw := HF.out.size
      refine wpOp_ofList rfl fun K hK => ?_
      simp only [fillA, fillT, e5, e6, e7, e8]
      go_wp2_with fail
      have F8 : FrP lo W (W.alloc (.cells Tryz.zeroCells105 105)) := .of ((Fr.refl [] _).alloc _)
      exact ⟨_, by (simp only [fillA, fillT, e5, e6, e7, e8]; first | rfl | exact ⟨rfl, trivial⟩), ⟨W.heap.size, rfl, World.at_alloc_new _ _ _ rfl, lw⟩, F8, ⟨by simpa using HT.out.fr0 ((Fr.refl [] _).alloc _), HF.out.trans F8, HG.out _ _ HH.out F8⟩, HS.out _ (HG.out _ _ HH.out F8)⟩
  · intro p' y W hp hJ hR
    obtain ⟨hT, hF, hH⟩ := hJ
    rw [hp 6 (by simp)] at hT
    replace hT : TabP lo tb W (signF T k tx).1 := hT
    have y7 : y 7 = _ := hR 7 (by simp)
    rw [vc_built (signF_len T k tx)] at y7
    obtain ⟨b9, y8, g9, l9⟩ := hR 8 (by simp)
    simp only [fillA, fillT, e5, e6, e7, e8]
    rw [y7, y8]
    obtain ⟨vc, hvc⟩ : ∃ vc, vc = (vcC (nt, (signF T k tx).2)).toArray := ⟨_, rfl⟩
    rw [← hvc]
    have sz : vc.size = 65 := by rw [hvc, List.size_toArray, List.length_cons, List.length_map, signF_len]
    have o1 : ones vc.toList = true := by rw [hvc]; exact List.all_eq_true.2 (vcC_one _)
    have vall : vc.extract 0 65 = vc := by rw [← sz]; exact Array.extract_size
    have z9 : Tryz.zeroCells105.size = 65 := by kernel_rfl
    have HT := Lib.hid hT
    have HF := Lib.hid hF
    have HH := Lib.hid hH
    have HVC := Lib.hid hvc
    have t9 := World.at_lt g9
    clear f4 f5 f6 t4 t5 t6 hT hF hH hR hp y7 y8 hvc
    refine drawn_end rfl (by kernel_rfl) ?_
    intro K hK
    go_wp2_with fail
    have hVW : Vr (W.put b9 (.cells vc 105)) p n cap (vsL x.vs) := HV.out.keep fun g cs fr e => by
      have := World.at_lt e
      rw [World.at_put_other _ _ _ _ (by omega)]
      exact HF.out.get e (.inr ⟨by decide, by decide⟩)
    have g6 : W.blk b6 = some (.cells xs 48) := HH.out (b6, _) (by simp)
    have g8 : W.blk b8 = some (.cells Tryz.zeroCells48 48) := HH.out (b8, _) (by simp)
    have n96 : b9 ≠ b6 := fun e => by rw [← e, g9] at g6; cases g6
    have n98 : b9 ≠ b8 := fun e => by rw [← e, g9] at g8; cases g8
    have n86 : b8 ≠ b6 := HU.out.ne 0 1 rfl rfl (by decide)
    have l6 := HU.out.low 1 rfl
    have l8 := HU.out.low 0 rfl
    refine named_world (A := fun X => (X.blk b6 = some (.cells xs 48) ∧ X.blk b8 = some (.cells Tryz.zeroCells48 48) ∧ X.blk b9 = some (.cells vc 105)) ∧ Vr X p n cap (vsL x.vs) ∧ TabP lo tb X (signF T k tx).1 ∧ FrP lo w X) (Q := fun X => Code.wp _ _ _ _ X) ⟨⟨by rw [World.at_put_other _ _ _ _ n96]; exact g6, by rw [World.at_put_other _ _ _ _ n98]; exact g8, World.at_put_same _ _ _ t9⟩, hVW, HT.out.put g9 (by decide) _, HF.out.put _ l9⟩ ?_
    clear g9 l9 t9 z9 g6 g8 n96 n98 hVW HT HF HH HU
    rintro Z ⟨⟨g6, g8, g9⟩, hV, hT, hF⟩
    have HVz := Lib.hid hV
    have HTz := Lib.hid hT
    have HFz := Lib.hid hF
    have x6 : xs[100]? = some (.slice p n cap) := by rw [HX.out]; exact cObject_get_vs _ _ _ _ _ _ _ HO.out.kl HO.out.sl
    replace x6 := (Array.getElem?_eq_some_iff.1 x6).2
    have xset : ∀ v : Value, xs.setIfInBounds 100 v = oC x v := fun v => by rw [HX.out]; exact cObject_set_vs _ _ _ _ _ _ _ _ HO.out.kl HO.out.sl
    have Xset := Lib.hid xset
    have t6 := World.at_lt g6
    have t8 := World.at_lt g8
    have t9 := World.at_lt g9
    have ncap : n ≤ cap := hV.lg.sv.cap_
    clear hV hT hF xset
    refine drawn_begin 12 (fun w' => w'.blk b6 = some (.cells xs 48) ∧ w'.blk b9 = some (.cells vc 105)) (by kernel_rfl) ?_
    refine drawn_reads (fuel := 4) [0, 1, 2, 3, 4, 5, 6, 7, 8, 9] rfl (by kernel_rfl) ⟨g6, g9⟩ ?_
    repeat (first | (refine rowK_step2 rfl rfl (fun K hK => ?_); go_wp2) | (refine rowK_step rfl (fun K hK => ?_); go_simp; refine hK _ ?_; clear hK K))
    refine rowK_nil ⟨fun w' e1 => ?_, ?_⟩
    · obtain ⟨e1, e2⟩ := e1
      clear g6 g8 g9 t6 t8 t9
      repeat (first | (refine rowWp_step2 rfl rfl (fun K hK => ?_); go_wp2) | (refine rowWp_step rfl (fun K hK => ?_); go_simp; refine hK _ ?_; clear hK K))
      exact rowWp_nil rfl
    refine drawn_next 10 (fuel := 3) rfl (by kernel_rfl) ?_
    intro K hK
    go_wp2_with fail
    refine ⟨⟨by go_simp, by go_simp⟩, ?_⟩
    have F0 : Fr [] Z (Z.alloc (.cells vc 105)).drew := ((Fr.refl [] Z).alloc _).drew
    refine named_world (A := fun X => (X.blk b6 = some (.cells xs 48) ∧ X.blk b8 = some (.cells Tryz.zeroCells48 48) ∧ X.blk Z.heap.size = some (.cells vc 105) ∧ X.blk b9 = some (.cells vc 105)) ∧ Vr X p n cap (vsL x.vs) ∧ TabP lo tb X (signF T k tx).1 ∧ FrP lo w X) (Q := fun X => Go.Dr.wpAnyS Tryz.prog .any _ _ _ _ _ _ _ X) ⟨⟨F0.get g6 (by simp), F0.get g8 (by simp), World.at_alloc_new _ _ _ rfl, F0.get g9 (by simp)⟩, HVz.out.fr0 F0, HTz.out.fr0 F0, HFz.out.trans (.of F0)⟩ ?_
    clear F0 g6 g8 g9 t6 t8 t9 HVz HTz HFz
    generalize Z.heap.size = bn
    rintro Y ⟨⟨g6, g8, gn, g9⟩, hV, hT, hF⟩
    have HVz := Lib.hid hV
    have HTz := Lib.hid hT
    have HFz := Lib.hid hF
    have O1 := Lib.hid (List.all_eq_true.1 o1)
    clear hV hT hF o1
    refine drawn_next 11 (fuel := 2) rfl (by kernel_rfl) ?_
    intro K hK
    go_wp2_with (refine wpList_grow46 rfl _ _ rfl rfl HVz.out.lg.sv.tight (vsL_one _) rfl (Sv.ofOne gn sz) O1.out (by omega) (by omega) ?_)
    intro q c V hB
    have F1 := hB.own.fr
    have h6 := F1.get g6 (by simp)
    have h8 := F1.get g8 (by simp)
    have h9 := F1.get g9 (by simp)
    have HTv := Lib.hid (HTz.out.fr0 F1)
    have HFv := Lib.hid (HFz.out.trans (.of F1))
    have HR := Lib.hid (Vr.ofBld hB)
    clear g6 g8 gn g9 F1 hB HVz HTz HFz
    have t6 := World.at_lt h6
    have t8 := World.at_lt h8
    have n68 := n86.symm
    have hvl : vsL (x.vs ++ [(nt, (signF T k tx).2)]) = vsL x.vs ++ vc.toList := by rw [vsL_append, HVC.out]; simp [vsL]
    have HVL := Lib.hid hvl
    obtain ⟨ys, hys⟩ : ∃ ys, ys = oC x (.slice q (n + 1) c) := ⟨_, rfl⟩
    have Xs2 : xs.setIfInBounds 100 (.slice q (n + 1) c) = ys := by rw [hys]; exact Xset.out _
    have hszy : ys.size = 101 := by rw [hys, List.size_toArray, cObject_length _ _ _ _ _ _ _ HO.out.kl HO.out.sl]
    have yall : ys.extract 0 101 = ys := by rw [← hszy]; exact Array.extract_size
    have yones : ones ys.toList = true := by rw [hys]; exact List.all_eq_true.2 (cObject_one _ _ _ _ _ _ _ rfl rfl rfl rfl rfl)
    have HY := Lib.hid hys
    clear hvl hys
    go_wp2_with fail
    refine ⟨by go_simp, ?_⟩
    refine drawn_end rfl (by kernel_rfl) ?_
    intro K hK
    go_wp2_with fail
    refine ret_cell rfl rfl rfl ?_
    go_simp
    have h8' : (V.put b6 (.cells ys 48)).blk b8 = some (.cells Tryz.zeroCells48 48) := by rw [World.at_put_other _ _ _ _ n68]; exact h8
    exact ⟨by kernel_rfl, q, c, by rw [HY.out], by rw [HVL.out]; exact ((HR.out.put h6 (by decide) _).put h8' (by decide) _), (HTv.out.put h6 (by decide) _).put h8' (by decide) _, (HFv.out.put _ l6).put _ l8⟩
end
end Go.Proofs.YtbhnfohoclcjdaaGreat
namespace Go
section
variable {t : TTy} {lo : Nat} {w w1 w' : World} {L : List (Nat × Obj)} {e sz : Nat} {p : Option Addr} {n cap : Nat} {vs : List Value}
/-- Only what is new was written. -/
theorem FrT.newW (h : FrT t lo w w1) {fp : List Nat} (F : Fr fp w1 w') (hn : ∀ b ∈ fp, w.heap.size ≤ b) : FrT t lo w w' :=
  ⟨F.os.trans h.os, F.tape.trans h.tape, F.output.trans h.output, Nat.le_trans h.size F.size, fun k o ho hc => F.get (h.at_ k o ho hc) fun hm => by
    have := hn k hm
    have := World.at_lt ho
    omega⟩
theorem BldV.weak {w0 : World} (h : BldV w0 L e sz w p n cap vs) (h1 : Fr [] w1 w) (hs : w1.heap.size ≤ w0.heap.size) : BldV w1 L e sz w p n cap vs :=
  ⟨h.own.weak h1 hs, h.row, fun g hg => ⟨Nat.le_trans hs (h.new g hg).1, (h.new g hg).2⟩⟩
theorem fr_drew_any (F : Fr [] w.drew w1) : Fr [] w w1 := (OwB.start w).drew.call F |>.fr
end
end Go
namespace Go.Proofs.YtbhnfohoclcjdaaGreat
open Go.RowKit Go.Dr Go.Kd
section
variable {w : World}
set_option maxRecDepth 100000 in
set_option maxHeartbeats 4000000 in
theorem dvouch_v {lo tb : Nat} {T : List Tm} {k : List Int} {x : Ob} {p : Option Addr} {n cap : Nat} {nt : Int} (h : DTabP lo tb w T) (hk : k.length = 32) (hb : isBytes k) (hx : ObK x) (hv : Lw 65 w p n cap (vsL x.vs)) (hn : n ≤ 10000) (n0 : 0 ≤ nt) (n1 : nt < 256) :
    Calls Tryz.prog 17 #[SU tb, .agg (ints .u8 k), .agg (oC x (.slice p n cap)), .int .u8 nt] w fun e w' => ∃ q c, e = .returned (.agg (oC x (.slice q (n + 1) c))) ∧ Vr w' q (n + 1) c (vsL (x.vs ++ [(nt, (signF T k (vouchText x nt)).2)])) ∧ DTabP lo tb w' (signF T k (vouchText x nt)).1 ∧ FrD lo w w' := by
  have H := Lib.hid h
  have HB := Lib.hid hb
  obtain ⟨xs, hxs⟩ : ∃ xs, xs = oC x (.slice p n cap) := ⟨_, rfl⟩
  have hsz : xs.size = 101 := by rw [hxs, List.size_toArray, cObject_length _ _ _ _ _ _ _ hx.kl hx.sl]
  have xall : xs.extract 0 101 = xs := by rw [← hsz]; exact Array.extract_size
  have x6 : xs[100]? = some (.slice p n cap) := by rw [hxs]; exact cObject_get_vs _ _ _ _ _ _ _ hx.kl hx.sl
  replace x6 := (Array.getElem?_eq_some_iff.1 x6).2
  have xset : ∀ v : Value, xs.setIfInBounds 100 v = oC x v := fun v => by rw [hxs]; exact cObject_set_vs _ _ _ _ _ _ _ _ hx.kl hx.sl
  rw [← hxs]
  have c1 : ∀ W : World, Calls Tryz.prog 47 #[.agg xs, .int .u8 nt] W fun e w' => ∃ q m c, e = .returned (.slice q m c) ∧ Bld W [] .u8 5 w' q m c (vouchText x nt) := fun W => by rw [hxs]; exact rvtext_v hx rfl
  have C1 := Lib.hid c1
  have HX := Lib.hid hxs
  have HO := Lib.hid hx
  have HV := Lib.hid hv
  have HBT := Lib.hid (isBytes_vouch hx n0 n1)
  have Xset := Lib.hid xset
  clear h hb hxs hx hv c1 xset
  generalize vouchText x nt = tx at C1 HBT ⊢
  go_enter Tryz.func17, Tryz.ntmps17
  have hz : Tryz.zeroCells48.size = 101 := by kernel_rfl
  have hz105 : Tryz.zeroCells105.size = 65 := by kernel_rfl
  go_upto_region 2 with (fail)
  refine named_world (A := fun X => OwB w [(w.heap.size + 1 + 1 + 1, .cells Tryz.zeroCells48 48), (w.heap.size + 1 + 1, .cells xs 48), (w.heap.size + 1, .cells (ints .u8 k) 33), (w.heap.size, .cells #[.pointer (some ⟨tb, 0, none⟩)] 31)] X) (Q := fun X => Code.wp _ _ _ _ X) (((((OwB.start w).allocN _ w.heap.size rfl).allocN _ (w.heap.size + 1) (by simp)).allocN _ (w.heap.size + 1 + 1) (by simp)).allocN _ (w.heap.size + 1 + 1 + 1) (by simp)) ?_
  intro U hU
  generalize w.heap.size + 1 + 1 + 1 = b8 at hU ⊢
  generalize w.heap.size + 1 + 1 = b6 at hU ⊢
  generalize w.heap.size + 1 = b5 at hU ⊢
  generalize w.heap.size = b4 at hU ⊢
  have f6 := hU.nth 1 rfl
  have t6 := World.at_lt f6
  have HU := Lib.hid hU
  clear hU
  generalize hnil : (Value.slice none 0 0) = vn
  have HNil := Lib.hid hnil
  clear hnil
  go_wp2_with (refine wpList_app46w rfl _ _ rfl HNil.out.symm (BldV.nil HU.out) rfl (HV.out.fr0 HU.out.fr) (vsL_one _) (by omega) ?_)
  intro q9 c9 V hB _
  clear f6 t6
  have FV : FrD lo w V := .of hB.own.fr
  have hBv := hB.weak ((OwB.hold w).call hB.own.fr).fr (Nat.zero_le _)
  have new9 : ∀ g, q9.map (·.block) = some g → w.heap.size ≤ g := fun g hg => (hB.new g hg).1
  have l8 := hB.own.low 0 rfl
  have l6 := hB.own.low 1 rfl
  have n86 := hB.own.ne 0 1 rfl rfl (by decide)
  have HT0 := Lib.hid (H.out.fr0 hB.own.fr)
  have HB9 := Lib.hid hBv
  have HF := Lib.hid FV
  have New9 := Lib.hid new9
  clear hB hBv FV new9 HU
  have f6 := HB9.out.own.nth 1 rfl
  have f5 := HB9.out.own.nth 2 rfl
  have f4 := HB9.out.own.nth 3 rfl
  have t6 := World.at_lt f6
  have t5 := World.at_lt f5
  have t4 := World.at_lt f4
  go_upto_region 3 with (fail)
  refine drawn_begin 11 (fun w' => w'.blk b4 = some (.cells #[.pointer (some ⟨tb, 0, none⟩)] 31) ∧ w'.blk b5 = some (.cells (ints .u8 k) 33) ∧ w'.blk b6 = some (.cells xs 48)) (by kernel_rfl) ?_
  refine drawn_reads (fuel := 7) [0, 1, 2, 3, 4, 5] rfl (by kernel_rfl) ⟨f4, f5, f6⟩ ?_
  repeat (first | (refine rowK_step2 rfl rfl (fun K hK => ?_); go_wp2) | (refine rowK_step rfl (fun K hK => ?_); go_simp; refine hK _ ?_; clear hK K))
  refine rowK_nil ⟨fun w' e1 => ?_, ?_⟩
  · obtain ⟨e1, e2, e3⟩ := e1
    clear f4 f5 f6
    repeat (first | (refine rowWp_step2 rfl rfl (fun K hK => ?_); go_wp2) | (refine rowWp_step rfl (fun K hK => ?_); go_simp; refine hK _ ?_; clear hK K))
    exact rowWp_nil rfl
  refine drawn_next 6 (fuel := 6) rfl (by kernel_rfl) ?_
  intro K hK
  go_wp2_with fail
  refine (C1.out _).mono ?_
  rintro e V1 ⟨q, m, c, rfl, hB⟩
  have HB1 := Lib.hid (HB9.out.call (fr_drew_any hB.own.fr))
  have HF1 := Lib.hid (HF.out.trans (.of (fr_drew_any hB.own.fr)))
  have HT1 := Lib.hid (HT0.out.fr0 (fr_drew_any hB.own.fr))
  have HBt := Lib.hid hB
  clear f4 f5 f6 t4 t5 t6 hB HB9 HF HT0
  have f6 := HB1.out.own.nth 1 rfl
  have f5 := HB1.out.own.nth 2 rfl
  have f4 := HB1.out.own.nth 3 rfl
  have t6 := World.at_lt f6
  have t5 := World.at_lt f5
  have t4 := World.at_lt f4
  go_wp2_with fail
  refine ⟨⟨f4, f5, f6⟩, ?_⟩
  refine drawn_next 7 (fuel := 5) rfl (by kernel_rfl) ?_
  intro K hK
  go_wp2_with fail
  refine (dsign_f HT1.out hk HB.out HBt.out.sl HBT.out (fun X hF => Bld.slStay (t := DT) HBt.out (.inl rfl) hF.stay)).mono ?_
  rintro e V2 ⟨rfl, hT, F⟩
  have hB2 := HB1.out.callA F (by simp [other, DT]) (by decide) (Nat.zero_le _)
  have HB2 := Lib.hid hB2
  have HF2 := Lib.hid (HF1.out.trans F)
  have HT2 := Lib.hid hT
  clear f4 f5 f6 t4 t5 t6 hB2 F hT HB1 HF1 HT1 HBt
  have f6 := HB2.out.own.nth 1 rfl
  have f5 := HB2.out.own.nth 2 rfl
  have f4 := HB2.out.own.nth 3 rfl
  have t6 := World.at_lt f6
  have t5 := World.at_lt f5
  have t4 := World.at_lt f4
  have hsl := signF_len T k tx
  obtain ⟨vc, hvc⟩ : ∃ vc, vc = (vcC (nt, (signF T k tx).2)).toArray := ⟨_, rfl⟩
  have sz : vc.size = 65 := by rw [hvc, List.size_toArray, List.length_cons, List.length_map, signF_len]
  have o1 : ∀ u ∈ vc.toList, u.oneCell' = true := by rw [hvc]; exact vcC_one _
  have bu : spl (Tryz.zeroCells105.setIfInBounds 0 (.int .u8 nt)) 1 ((signF T k tx).2.map (Value.int .u8)) = vc := by rw [hvc]; exact vc_built hsl
  have vl : vsL (x.vs ++ [(nt, (signF T k tx).2)]) = vsL x.vs ++ vc.toList := by rw [vsL_append, hvc]; simp [vsL]
  have Vl := Lib.hid vl
  have HVC := Lib.hid hvc
  have O1 := Lib.hid o1
  have Bu := Lib.hid bu
  clear hvc o1 bu vl
  go_wp2_with fail
  refine ⟨⟨f4, f5, f6⟩, ?_⟩
  refine drawn_next 8 (fuel := 4) rfl (by kernel_rfl) ?_
  intro K hK
  go_wp2_with fail
  rw [Bu.out]
  refine ⟨⟨f4, f5, f6⟩, ?_⟩
  refine drawn_next 9 (fuel := 3) rfl (by kernel_rfl) ?_
  intro K hK
  go_wp2_with fail
  refine ⟨by go_simp, ?_⟩
  have F0 : Fr [] V2 (V2.alloc (.cells vc 105)) := (Fr.refl [] V2).alloc _
  refine named_world (A := fun X => BldV w.void [(V2.heap.size, .cells vc 105), (b8, .cells Tryz.zeroCells48 48), (b6, .cells xs 48), (b5, .cells (ints .u8 k) 33), (b4, .cells #[.pointer (some ⟨tb, 0, none⟩)] 31)] 105 65 X q9 n c9 (vsL x.vs) ∧ DTabP lo tb X (signF T k tx).1 ∧ FrD lo w X) (Q := fun X => Go.Dr.wpAnyS Tryz.prog .any _ _ _ _ _ _ _ X) ⟨HB2.out.add F0 (World.at_alloc_new _ _ _ rfl) (Nat.le_refl _), HT2.out.fr0 F0, HF2.out.trans (.of F0)⟩ ?_
  clear F0 f4 f5 f6 t4 t5 t6 HB2 HT2 HF2
  generalize V2.heap.size = bn
  rintro Y ⟨hB, hT, hF⟩
  have HB3 := Lib.hid hB
  have HT3 := Lib.hid hT
  have HF3 := Lib.hid hF
  have gn := HB3.out.own.nth 0 rfl
  clear hB hT hF
  refine drawn_next 10 (fuel := 2) rfl (by kernel_rfl) ?_
  intro K hK
  go_wp2_with (refine wpList_app46 rfl _ _ rfl rfl HB3.out rfl (Sv.ofOne gn sz) O1.out (by omega) ?_)
  intro q c V hB F1
  have HF4 := Lib.hid (HF3.out.newW F1 (fun b hb => New9.out b (by simpa using hb)))
  have HT4 := Lib.hid (HT3.out.grown HB3.out F1 (by decide))
  have HR := Lib.hid (Vr.ofBld hB)
  have h6 := hB.own.nth 2 rfl
  have h8 := hB.own.nth 1 rfl
  have h4 := hB.own.nth 4 rfl
  have h5 := hB.own.nth 3 rfl
  clear gn F1 hB HB3 HT3 HF3
  have t6 := World.at_lt h6
  have t8 := World.at_lt h8
  have n68 := n86.symm
  obtain ⟨ys, hys⟩ : ∃ ys, ys = oC x (.slice q (n + 1) c) := ⟨_, rfl⟩
  have Xs2 : xs.setIfInBounds 100 (.slice q (n + 1) c) = ys := by rw [hys]; exact Xset.out _
  have hszy : ys.size = 101 := by rw [hys, List.size_toArray, cObject_length _ _ _ _ _ _ _ HO.out.kl HO.out.sl]
  have yall : ys.extract 0 101 = ys := by rw [← hszy]; exact Array.extract_size
  have yones : ones ys.toList = true := by rw [hys]; exact List.all_eq_true.2 (cObject_one _ _ _ _ _ _ _ rfl rfl rfl rfl rfl)
  have HY := Lib.hid hys
  clear hys
  go_wp2_with fail
  refine ⟨by go_simp, ?_⟩
  refine drawn_end rfl (by kernel_rfl) ?_
  intro K hK
  go_wp2_with fail
  refine ret_cell rfl rfl rfl ?_
  go_simp
  have h8' : (V.put b6 (.cells ys 48)).blk b8 = some (.cells Tryz.zeroCells48 48) := by rw [World.at_put_other _ _ _ _ n68]; exact h8
  exact ⟨by kernel_rfl, q, c, by rw [HY.out], by rw [Vl.out]; exact ((HR.out.put h6 (by decide) _).put h8' (by decide) _), (HT4.out.put h6 (by decide) _).put h8' (by decide) _, (HF4.out.put _ l6).put _ l8⟩
end
end Go.Proofs.YtbhnfohoclcjdaaGreat
namespace Go.Proofs.YtbhnfohoclcjdaaGreat
open Go.RowKit Go.Dr Go.Kd
/-- Has one of the first i vouches this notary's, and counts? -/
def isU (T : List Tm) (first : List Bs) (x : Ob) (who i : Nat) : Bool := (x.vs.take i).any fun v => vOk T first x v && decide (v.1 = (who : Int))
def cntU (T : List Tm) (first : List Bs) (x : Ob) (who : Nat) : Nat := ((List.range who).filter fun k => isU T first x k x.vs.length).length
theorem cntU_succ (T : List Tm) (first : List Bs) (x : Ob) (who : Nat) : cntU T first x (who + 1) = cntU T first x who + (if isU T first x who x.vs.length = true then 1 else 0) := by
  unfold cntU
  rw [List.range_succ, List.filter_append, List.length_append]
  cases h : isU T first x who x.vs.length <;> simp [h]
theorem isU_succ {T : List Tm} {first : List Bs} {x : Ob} {who i : Nat} {v : Int × Bs} (h : x.vs[i]? = some v) : isU T first x who (i + 1) = (isU T first x who i || (vOk T first x v && decide (v.1 = (who : Int)))) := by
  unfold isU
  have e : x.vs.take (i + 1) = x.vs.take i ++ [v] := by rw [List.take_add_one, h]; rfl
  rw [e, List.any_append]
  simp
theorem nodup_le : ∀ (A B : List Int), A.Nodup → (∀ a ∈ A, a ∈ B) → A.length ≤ B.length := by
  intro A
  induction A with
  | nil => intro B _ _; exact Nat.zero_le _
  | cons a A ih =>
    intro B hn hs
    have ha := hs a (by simp)
    have h1 := ih (B.erase a) (List.nodup_cons.1 hn).2 (fun b hb => (List.mem_erase_of_ne (fun e => by subst e; exact (List.nodup_cons.1 hn).1 hb)).2 (hs b (by simp [hb])))
    rw [List.length_erase_of_mem ha] at h1
    have := List.length_pos_of_mem ha
    rw [List.length_cons]
    omega
theorem nodup_dups (l : List Int) : l.eraseDups.Nodup := by
  have key : ∀ n, (l.take n).eraseDups.Nodup := by
    intro n
    induction n with
    | zero => exact List.nodup_nil
    | succ n ih =>
      rw [List.take_add_one]
      cases h : l[n]? with
      | none => simpa using ih
      | some k =>
        rw [show (some k).toList = [k] from rfl, dups_snoc, insI]
        split
        · exact ih
        · rename_i h
          exact List.nodup_append.2 ⟨ih, by simp, fun a ha b hb => by simp at hb; subst hb; exact fun e => h (e ▸ ha)⟩
  have := key l.length
  rwa [List.take_length] at this
theorem vouchers_count (T : List Tm) (first : List Bs) (x : Ob) (hvs : ∀ v ∈ x.vs, VcOk v) : cntU T first x 4 = (vouchers T first x).length := by
  have hm : ∀ a : Int, a ∈ vouchers T first x ↔ ∃ v ∈ x.vs, vOk T first x v = true ∧ v.1 = a := fun a => by
    rw [vouchers_eq, List.mem_eraseDups, List.mem_map]
    constructor
    · rintro ⟨v, hv, rfl⟩
      exact ⟨v, (List.mem_filter.1 hv).1, (List.mem_filter.1 hv).2, rfl⟩
    · rintro ⟨v, h1, h2, rfl⟩
      exact ⟨v, List.mem_filter.2 ⟨h1, h2⟩, rfl⟩
  have hi : ∀ k : Nat, isU T first x k x.vs.length = true ↔ ∃ v ∈ x.vs, vOk T first x v = true ∧ v.1 = (k : Int) := fun k => by
    unfold isU
    rw [List.take_length, List.any_eq_true]
    simp only [Bool.and_eq_true, decide_eq_true_eq]
  have e : cntU T first x 4 = (((List.range 4).filter fun k => isU T first x k x.vs.length).map fun k : Nat => (k : Int)).length := by rw [List.length_map]; rfl
  rw [e]
  apply Nat.le_antisymm
  · refine nodup_le _ _ ?_ ?_
    · refine List.Pairwise.map _ (fun a b h => ?_) ((List.nodup_range).filter _)
      intro e
      exact h (by omega)
    · intro a ha
      obtain ⟨k, hk, rfl⟩ := List.mem_map.1 ha
      exact (hm _).2 ((hi k).1 (List.mem_filter.1 hk).2)
  · refine nodup_le _ _ (nodup_dups _) ?_
    intro a ha
    obtain ⟨v, h1, h2, rfl⟩ := (hm a).1 ha
    have n0 := (hvs v h1).n0
    have n4 : v.1 < 4 := by
      simp only [vOk, Bool.and_eq_true, decide_eq_true_eq] at h2
      exact h2.1.1.1
    refine List.mem_map.2 ⟨v.1.toNat, List.mem_filter.2 ⟨List.mem_range.2 (by omega), (hi _).2 ⟨v, h1, h2, by omega⟩⟩, by omega⟩
section
variable {w : World}
set_option maxRecDepth 100000 in
set_option maxHeartbeats 4000000 in
theorem dvouched_v {lo tb : Nat} {T : List Tm} {C : List Int} {x : Ob} {p : Option Addr} {n cap : Nat} (h : DTabP lo tb w T) (hC : C.length = 133) (hCb : isBytes C) (hx : ObK x) (hv : Lw 65 w p n cap (vsL x.vs)) (hvs : ∀ v ∈ x.vs, VcOk v) (hl : x.vs.length = n) (hn : n ≤ 100000) :
    Calls Tryz.prog 51 #[SU tb, .agg (ints .u8 C), .agg (oC x (.slice p n cap))] w fun e w' => e = .returned (.int .i64 (vouchers T (firstC C) x).length) ∧ Fr [] w w' := by
  rw [← vouchers_count T (firstC C) x hvs]
  have H := Lib.hid h
  have HCB := Lib.hid hCb
  obtain ⟨xs, hxs⟩ : ∃ xs, xs = oC x (.slice p n cap) := ⟨_, rfl⟩
  have X : ObF xs x (.slice p n cap) := by rw [hxs]; exact obF hx
  rw [← hxs]
  have c1 : ∀ (m : Int) (W : World), Calls Tryz.prog 47 #[.agg xs, .int .u8 m] W fun e w' => ∃ q m' c, e = .returned (.slice q m' c) ∧ Bld W [] .u8 5 w' q m' c (vouchText x m) := fun m W => by rw [hxs]; exact rvtext_v hx rfl
  have C1 := Lib.hid c1
  have HX := Lib.hid hxs
  have HO := Lib.hid hx
  have HV := Lib.hid hv
  have HVS := Lib.hid hvs
  have HL := Lib.hid hl
  clear h hCb hxs hx hv hvs hl c1
  obtain ⟨sx, ⟨x0, x0'⟩, -, -, -, -, -, ⟨x6, x6'⟩, xal, -⟩ := X
  have z105 : Tryz.zeroCells105.size = 65 := by kernel_rfl
  go_enter Tryz.func51, Tryz.ntmps51
  go_upto_region 1 with (fail)
  refine named_world (A := fun X => OwB w [(w.heap.size + 1 + 1, .cells xs 48), (w.heap.size + 1, .cells (ints .u8 C) 38), (w.heap.size, .cells #[.pointer (some ⟨tb, 0, none⟩)] 31)] X) (Q := fun X => Code.wp _ _ _ _ X) ((((OwB.start w).allocN _ w.heap.size rfl).allocN _ (w.heap.size + 1) (by simp)).allocN _ (w.heap.size + 1 + 1) (by simp)) ?_
  intro V hV
  generalize w.heap.size + 1 + 1 = b5 at hV ⊢
  generalize w.heap.size + 1 = b4 at hV ⊢
  generalize w.heap.size = b3 at hV ⊢
  have HU := Lib.hid hV
  clear hV
  go_wp2_with fail
  go_loopw [7, 8] (fun nv kv wy => ∃ who : Nat, who ≤ 4 ∧ kv = .int .i64 (who : Int) ∧ nv = .int .i64 (cntU T (firstC C) x who) ∧ Hid (OwB w [(b5, .cells xs 48), (b4, .cells (ints .u8 C) 38), (b3, .cells #[.pointer (some ⟨tb, 0, none⟩)] 31)] wy)) (fun _ kv _ => (4 - intOf kv).toNat)
  case atStart => exact ⟨0, by omega, rfl, rfl, HU⟩
  case round =>
    clear HU
    obtain ⟨who, hw4, rfl, rfl, hO⟩ := hrel
    by_cases hw : who < 4
    · have hdw : decide ((who : Int) < 4) = true := by rw [decide_eq_true_eq]; omega
      have f5 := hO.out.nth 0 rfl
      have t5 := World.at_lt f5
      go_wp2_with fail
      obtain ⟨cw, hcw⟩ : ∃ cw, cw = cntU T (firstC C) x who := ⟨_, rfl⟩
      rw [← hcw]
      have HCW := Lib.hid hcw
      clear hcw
      go_loopw [9, 10] (fun bv iv wy => ∃ i : Nat, i ≤ n ∧ iv = .int .i64 (i : Int) ∧ bv = .bool (isU T (firstC C) x who i) ∧ Hid (OwB w [(b5, .cells xs 48), (b4, .cells (ints .u8 C) 38), (b3, .cells #[.pointer (some ⟨tb, 0, none⟩)] 31)] wy)) (fun _ iv _ => (n - intOf iv).toNat)
      case atStart => exact ⟨0, by omega, rfl, rfl, hO⟩
      case round =>
        clear f5 t5 hO
        obtain ⟨i, hi9, rfl, rfl, hO⟩ := hrel
        obtain ⟨iu, hiu⟩ : ∃ iu, iu = isU T (firstC C) x who i := ⟨_, rfl⟩
        rw [← hiu]
        have HIU := Lib.hid hiu
        clear hiu
        have f5 := hO.out.nth 0 rfl
        have t5 := World.at_lt f5
        by_cases hlt : i < n
        · have hd : decide ((i : Int) < (n : Int)) = true := by rw [decide_eq_true_eq]; omega
          obtain ⟨v, b, off, cs, TT, fr, hvi, rfl, fc0, hs1, hs2, hext⟩ := HV.out.elem HVS.out HL.out hlt
          have okv := HVS.out v (List.mem_of_getElem? hvi)
          have fc := hO.out.fr.get fc0 (by simp)
          obtain ⟨vc, hvc⟩ : ∃ vc, vc = (vcC v).toArray := ⟨_, rfl⟩
          have VF : VcF vc v := by rw [hvc]; exact vcF okv
          rw [← hvc] at hext
          obtain ⟨sv, ⟨v0, v0'⟩, vsig, val, von⟩ := VF
          have HVI := Lib.hid hvi
          have HOK := Lib.hid okv
          have tc := World.at_lt fc
          clear hvc hvi okv fc0
          go_upto_region 10 with (fail)
          refine named_world (A := fun Y => OwB w [(wr.heap.size, .cells vc 105), (b5, .cells xs 48), (b4, .cells (ints .u8 C) 38), (b3, .cells #[.pointer (some ⟨tb, 0, none⟩)] 31)] Y) (Q := fun Y => Code.wp _ _ _ _ Y) (hO.out.allocN _ wr.heap.size rfl) ?_
          intro U1 hU1
          clear fc tc hext hs1 hs2 f5 t5
          generalize wr.heap.size = b11 at hU1 ⊢
          have HU1 := Lib.hid hU1
          obtain ⟨good, hgood⟩ : ∃ good, good = (iu || (vOk T (firstC C) x v && decide (v.1 = (who : Int)))) := ⟨_, rfl⟩
          have HG := Lib.hid hgood
          clear hgood hU1
          obtain ⟨m, hm⟩ : ∃ m : Nat, v.1 = (m : Int) := ⟨v.1.toNat, by have := HOK.out.n0; omega⟩
          have m256 : m < 256 := by have := HOK.out.n1; omega
          have wm : IntKind.i64.wrap (m : Int) = (m : Int) := by rw [IntKind.wrap_i64]; omega
          rw [hm] at v0'
          have HM := Lib.hid hm
          clear hm
          have wi : IntKind.i64.wrap ((i : Int) + 1) = ((i + 1 : Nat) : Int) := by rw [IntKind.wrap_i64]; omega
          have e2 : good = isU T (firstC C) x who (i + 1) := by rw [HG.out, HIU.out, isU_succ HVI.out]
          have HE2 := Lib.hid e2
          clear e2
          have f11 := HU1.out.nth 0 rfl
          have f5 := HU1.out.nth 1 rfl
          have f4 := HU1.out.nth 2 rfl
          have f3 := HU1.out.nth 3 rfl
          have t11 := World.at_lt f11
          have t5 := World.at_lt f5
          have t4 := World.at_lt f4
          have t3 := World.at_lt f3
          have hne : Nonempty Unit := ⟨()⟩
          cases iu with
          | true =>
            have hb : good = true := by rw [HG.out]; rfl
            have HB := Lib.hid hb
            clear hb
            refine wp_region_quiet_all (C := fun w' => ∃ _ : Unit, w' = U1.drew) (by kernel_rfl) (by kernel_rfl) ⟨(), rfl⟩ ?_
            repeat (go_big_quiet_step (fail))
            refine wpQuiet_nil ?_
            intro _ hw'
            obtain ⟨_, rfl⟩ := hw'
            go_wp2_with fail
            go_roundw
            case rel => exact ⟨i + 1, by omega, by first | rfl | simp, by rw [← HE2.out, HB.out], Lib.hid HU1.out.drew.take⟩
            case measure => simp [intOf]; omega
            | false =>
            by_cases hA : m = who
            · have dA : ((m : Int) == (who : Int)) = true := by simp [hA]
              have dA4 : (m : Int) < 4 := by omega
              have dw4 : (who : Int) < 4 := by omega
              by_cases hB : (m : Int) = x.server
              · have dB : ((m : Int) != x.server) = false := by simp [hB]
                have hb : good = false := by rw [HG.out, vOk, HM.out]; simp [hB]
                have HB := Lib.hid hb
                clear hb hA hB
                refine wp_region_quiet_all (C := fun w' => ∃ _ : Unit, w' = U1.drew) (by kernel_rfl) (by kernel_rfl) ⟨(), rfl⟩ ?_
                repeat (go_big_quiet_step (fail))
                refine wpQuiet_nil ?_
                intro _ hw'
                obtain ⟨_, rfl⟩ := hw'
                go_wp2_with fail
                go_roundw
                case rel => exact ⟨i + 1, by omega, by first | rfl | simp, by rw [← HE2.out, HB.out], Lib.hid HU1.out.drew.take⟩
                case measure => simp [intOf]; omega
              · have dB : ((m : Int) != x.server) = true := by simp [hB]
                obtain ⟨k0, hk0⟩ : ∃ k0, k0 = List.drop (who * 32) (List.take (who * 32 + 32) C) := ⟨_, rfl⟩
                have e13 : List.drop (who * 32) (List.take (who * 32 + 32) C) = k0 := hk0.symm
                have m101 : who * 32 ≤ 101 := by omega
                have lk0 : k0.length = 32 := by rw [hk0, List.length_drop, List.length_take]; omega
                have bk0 : isBytes k0 := fun y hy => HCB.out y (by rw [hk0] at hy; exact List.mem_of_mem_take (List.mem_of_mem_drop hy))
                have hg : good = (decide (k0 ≠ Kd.zeros 32) && verifyF T k0 (vouchText x m) v.2) := by
                  rw [HG.out, vOk, HM.out, Int.toNat_natCast, firstC_at (by omega), hA, ← hk0]
                  rw [hA] at hB
                  simp [hB, hw, dw4]
                have HB := Lib.hid hB
                have HA := Lib.hid hA
                have HBK := Lib.hid bk0
                have HG2 := Lib.hid hg
                clear hk0 bk0 hB hg hA
                by_cases hZ : k0 = Kd.zeros 32
                · have dZ : (k0 == [0, 0, 0, 0, 0, 0, 0, 0, 0, 0, 0, 0, 0, 0, 0, 0, 0, 0, 0, 0, 0, 0, 0, 0, 0, 0, 0, 0, 0, 0, 0, 0]) = true := by rw [hZ]; rfl
                  have hb : good = false := by rw [HG2.out]; simp [hZ]
                  have HB := Lib.hid hb
                  have HZ := Lib.hid hZ
                  clear hZ hb
                  refine wp_region_quiet_all (C := fun w' => ∃ _ : Unit, w' = U1.drew) (by kernel_rfl) (by kernel_rfl) ⟨(), rfl⟩ ?_
                  repeat (go_big_quiet_step (fail))
                  refine wpQuiet_nil ?_
                  intro _ hw'
                  obtain ⟨_, rfl⟩ := hw'
                  go_wp2_with fail
                  go_roundw
                  case rel => exact ⟨i + 1, by omega, by first | rfl | simp, by rw [← HE2.out, HB.out], Lib.hid HU1.out.drew.take⟩
                  case measure => simp [intOf]; omega
                · have dZ : (k0 == [0, 0, 0, 0, 0, 0, 0, 0, 0, 0, 0, 0, 0, 0, 0, 0, 0, 0, 0, 0, 0, 0, 0, 0, 0, 0, 0, 0, 0, 0, 0, 0]) = false := by rw [show ([0, 0, 0, 0, 0, 0, 0, 0, 0, 0, 0, 0, 0, 0, 0, 0, 0, 0, 0, 0, 0, 0, 0, 0, 0, 0, 0, 0, 0, 0, 0, 0] : List Int) = Kd.zeros 32 from rfl]; simp [hZ]
                  have hb : good = verifyF T k0 (vouchText x m) v.2 := by rw [HG2.out]; simp [hZ]
                  have HB3 := Lib.hid hb
                  clear hZ hb
                  refine drawn_begin 37 (fun w' => w'.blk b11 = some (.cells vc 105) ∧ w'.blk b5 = some (.cells xs 48) ∧ w'.blk b4 = some (.cells (ints .u8 C) 38) ∧ w'.blk b3 = some (.cells #[.pointer (some ⟨tb, 0, none⟩)] 31)) (by kernel_rfl) ?_
                  refine drawn_reads (fuel := 5) [0, 1, 2, 3, 4, 5, 6, 7, 8, 9, 10, 11, 12, 13, 14, 15, 16, 17, 18, 19, 20, 21, 22, 23, 24, 25, 26, 27, 28, 29, 30, 32, 33] rfl (by kernel_rfl) ⟨f11, f5, f4, f3⟩ ?_
                  repeat (first | (refine rowK_step2 rfl rfl (fun K hK => ?_); go_wp2) | (refine rowK_step rfl (fun K hK => ?_); go_simp; refine hK _ ?_; clear hK K))
                  refine rowK_nil ⟨fun w' e1 => ?_, ?_⟩
                  · first | obtain ⟨e1, e2, e3, e4⟩ := e1 | intro e2 e3 e4
                    clear f11 f5 f4 f3
                    repeat (first | (refine rowWp_step2 rfl rfl (fun K hK => ?_); go_wp2) | (refine rowWp_step rfl (fun K hK => ?_); go_simp; refine hK _ ?_; clear hK K))
                    exact rowWp_nil rfl
                  refine drawn_next 31 (fuel := 4) rfl (by kernel_rfl) ?_
                  intro K hK
                  go_wp2_with fail
                  refine (C1.out m _).mono ?_
                  rintro e U2 ⟨q, m', c, rfl, hB⟩
                  have hU2 := HU1.out.drew.call hB.own.fr
                  clear f11 f5 f4 f3 t11 t5 t4 t3
                  have f11 := hU2.nth 0 rfl
                  have f5 := hU2.nth 1 rfl
                  have f4 := hU2.nth 2 rfl
                  have f3 := hU2.nth 3 rfl
                  have HU2 := Lib.hid hU2
                  have HBt := Lib.hid hB
                  clear hU2 hB
                  go_wp2_with fail
                  refine ⟨⟨f11, f5, f4, f3⟩, ?_⟩
                  refine drawn_next 34 (fuel := 3) rfl (by kernel_rfl) ?_
                  intro K hK
                  go_wp2_with fail
                  refine (dverify_s (H.out.fr0 HU2.out.fr) lk0 HBK.out HBt.out.sl (isBytes_vouch HO.out (by omega) (by omega)) HOK.out.sl HOK.out.sb).mono ?_
                  rintro e U3 ⟨rfl, F3⟩
                  have hU3 := HU2.out.call F3
                  clear f11 f5 f4 f3
                  have f11 := hU3.nth 0 rfl
                  have f5 := hU3.nth 1 rfl
                  have f4 := hU3.nth 2 rfl
                  have f3 := hU3.nth 3 rfl
                  have HU3 := Lib.hid hU3
                  clear hU3
                  rw [← HB3.out]
                  go_wp2_with fail
                  refine ⟨⟨f11, f5, f4, f3⟩, ?_⟩
                  refine drawn_reads (fuel := 1) [35, 36] rfl (by kernel_rfl) ⟨f11, f5, f4, f3⟩ ?_
                  repeat (first | (refine rowK_step2 rfl rfl (fun K hK => ?_); go_wp2) | (refine rowK_step rfl (fun K hK => ?_); go_simp; refine hK _ ?_; clear hK K))
                  refine rowK_nil ⟨fun w' e1 => ?_, ?_⟩
                  · repeat (first | (refine rowWp_step2 rfl rfl (fun K hK => ?_); go_wp2) | (refine rowWp_step rfl (fun K hK => ?_); go_simp; refine hK _ ?_; clear hK K))
                    exact rowWp_nil rfl
                  refine drawn_end rfl (by kernel_rfl) ?_
                  intro K hK
                  go_wp2_with fail
                  go_roundw
                  case rel => exact ⟨i + 1, by omega, by first | rfl | simp, by rw [← HE2.out], Lib.hid HU3.out.take⟩
                  case measure => simp [intOf]; omega
            · have dA : ((m : Int) == (who : Int)) = false := by
                rw [beq_eq_false_iff_ne]; omega
              have hb : good = false := by rw [HG.out, HM.out, show decide ((m : Int) = (who : Int)) = false from by rw [decide_eq_false_iff_not]; omega]; simp
              have HB := Lib.hid hb
              clear hA hb
              refine wp_region_quiet_all (C := fun w' => ∃ _ : Unit, w' = U1.drew) (by kernel_rfl) (by kernel_rfl) ⟨(), rfl⟩ ?_
              repeat (go_big_quiet_step (fail))
              refine wpQuiet_nil ?_
              intro _ hw'
              obtain ⟨_, rfl⟩ := hw'
              go_wp2_with fail
              go_roundw
              case rel => exact ⟨i + 1, by omega, by first | rfl | simp, by rw [← HE2.out, HB.out], Lib.hid HU1.out.drew.take⟩
              case measure => simp [intOf]; omega
        · obtain rfl : i = n := by omega
          have hd : decide ((i : Int) < (i : Int)) = false := by simp
          have e2 : cntU T (firstC C) x (who + 1) = cw + (if iu = true then 1 else 0) := by rw [cntU_succ, HCW.out, HIU.out, HL.out]
          have HE2 := Lib.hid e2
          have ww : IntKind.i64.wrap ((who : Int) + 1) = ((who + 1 : Nat) : Int) := by rw [IntKind.wrap_i64]; omega
          have hcl : cw ≤ 4 := by
            rw [HCW.out]
            refine Nat.le_trans (List.length_filter_le _ _) ?_
            rw [List.length_range]
            omega
          have wc : IntKind.i64.wrap ((cw : Int) + 1) = ((cw + 1 : Nat) : Int) := by rw [IntKind.wrap_i64]; omega
          clear e2
          cases iu with
          | true =>
            go_wp2_with fail
            go_roundw
            case rel => exact ⟨who + 1, by omega, by first | rfl | simp, by rw [HE2.out]; rfl, hO⟩
            case measure => simp [intOf]; omega
          | false =>
            go_wp2_with fail
            go_roundw
            case rel => exact ⟨who + 1, by omega, by first | rfl | simp, by rw [HE2.out]; rfl, hO⟩
            case measure => simp [intOf]; omega
    · obtain rfl : who = 4 := by omega
      go_wp2_with fail
      exact bodyPost_ret (results_tmp rfl _ _ _) rfl ⟨rfl, hO.out.fr⟩
end
end Go.Proofs.YtbhnfohoclcjdaaGreat
