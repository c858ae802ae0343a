/- Joined: DdA, GnJ, DcT, DcU, DcV, DcW. -/
import Derived.Test.YtbhnfohoclcjdaaGreatZr
import Derived.Test.YtbhnfohoclcjdaaGreatZs
import Derived.Test.YtbhnfohoclcjdaaGreatZa
set_option linter.unusedVariables false
set_option linter.unusedSimpArgs false
namespace Go.Proofs.YtbhnfohoclcjdaaGreat
open Go.RowKit Go.Dr Go.Kd
theorem Lw.elem {w : World} {p : Option Addr} {n c : Nat} {vs : List (Int × Bs)} (h : Lw 65 w p n c (vsL vs)) (hb : ∀ v ∈ vs, VcOk v) (hl : vs.length = n) {j : Nat} (hj : j < n) :
    ∃ y b off cs T fr, vs[j]? = some y ∧ p = some ⟨b, off, none⟩ ∧ w.blk b = some (.cells cs T fr) ∧ off + n * 65 ≤ cs.size ∧ off + j * 65 + 65 ≤ cs.size ∧ cs.extract (off + j * 65) (off + j * 65 + 65) = (vcC y).toArray := by
  obtain ⟨b, off, cs, T, fr, hp, hb2, h1, h2, h3⟩ := (h.sv (by omega)).elem hj
  have hlt : j < vs.length := by omega
  refine ⟨vs[j], b, off, cs, T, fr, List.getElem?_eq_getElem hlt, hp, hb2, h1, h2, ?_⟩
  rw [h3, vsL, flatMap_part vcC 65 vs j vs[j] (fun v hv => vcC_len (hb v hv)) (List.getElem?_eq_getElem hlt)]
/-- What an object's cells are. -/
structure ObF (xs : Array Value) (x : Ob) (v : Value) : Prop where
  sz : xs.size = 101
  g0 : ∃ h : 0 < xs.size, xs[0] = .int .u8 x.server
  g1 : ∃ h : 1 < xs.size, xs[1] = .int .u8 x.n
  g2 : xs.extract 2 34 = ints .u8 x.key
  g3 : ∃ h : 34 < xs.size, xs[34] = .int .u32 x.frm
  g4 : ∃ h : 35 < xs.size, xs[35] = .int .u32 x.til
  g5 : xs.extract 36 100 = ints .u8 x.sig
  g6 : ∃ h : 100 < xs.size, xs[100] = v
  al : xs.extract 0 101 = xs
  on : v.oneCell' = true → ones xs.toList = true
theorem obF {x : Ob} {v : Value} (h : ObK x) : ObF (oC x v) x v := by
  have hz : (oC x v).size = 101 := by rw [List.size_toArray, cObject_length _ _ _ _ _ _ _ h.kl h.sl]
  exact ⟨hz, Array.getElem?_eq_some_iff.1 (cObject_get_server _ _ _ _ _ _ _ h.kl h.sl), Array.getElem?_eq_some_iff.1 (cObject_get_n _ _ _ _ _ _ _ h.kl h.sl), cObject_ext_key _ _ _ _ _ _ _ h.kl h.sl,
    Array.getElem?_eq_some_iff.1 (cObject_get_frm _ _ _ _ _ _ _ h.kl h.sl), Array.getElem?_eq_some_iff.1 (cObject_get_til _ _ _ _ _ _ _ h.kl h.sl), cObject_ext_sig _ _ _ _ _ _ _ h.kl h.sl,
    Array.getElem?_eq_some_iff.1 (cObject_get_vs _ _ _ _ _ _ _ h.kl h.sl), by rw [← hz]; exact Array.extract_size, fun hv => List.all_eq_true.2 (cObject_one _ _ _ _ _ _ _ rfl rfl rfl rfl hv)⟩
theorem fields105 : (Tryz.prog.fieldsOf 105).toList.map (fun f => (f.name == "_", f.type, f.offset)) = [(false, 5, 0), (false, 45, 1)] := by kernel_rfl
theorem und105 : Tryz.prog.underlying 105 = some (.struct (Tryz.prog.fieldsOf 105)) := by kernel_rfl
theorem stood105 : Tryz.prog.stoodInHeld 105 = false := by kernel_rfl
theorem vcC_zero (v : Int × Bs) : (vcC v).toArray[0]? = some (.int .u8 v.1) := by simp [vcC]
theorem vcC_sig {v : Int × Bs} (h : v.2.length = 64) : (vcC v).toArray.extract 1 65 = ints .u8 v.2 := by
  simp [vcC, ints, List.extract, List.take_of_length_le, h]
theorem vcC_size {v : Int × Bs} (h : VcOk v) : (vcC v).toArray.size = 65 := by rw [List.size_toArray, vcC_len h]
theorem eq105 {v : Int × Bs} (hv : VcOk v) (w : World) : (Op.equalIn 10000 105 (.agg (vcC v).toArray) (.agg (vcC v).toArray)).run Tryz.prog w = .ok true w := by
  rw [run_equalIn_agg (w := w) (P := Tryz.prog) 9999 105 _ _ und105 stood105]
  obtain ⟨fs, hfs⟩ : ∃ fs, fs = (Tryz.prog.fieldsOf 105).toList := ⟨_, rfl⟩
  have hf := fields105
  rw [← hfs] at hf ⊢
  clear hfs
  obtain ⟨xs, hxs⟩ : ∃ xs, xs = (vcC v).toArray := ⟨_, rfl⟩
  have hsz : xs.size = 65 := by rw [hxs]; exact vcC_size hv
  have g0 : xs[0]? = some (.int .u8 v.1) := by rw [hxs]; exact vcC_zero v
  have g1 : xs.extract 1 65 = ints .u8 v.2 := by rw [hxs]; exact vcC_sig hv.sl
  rw [← hxs]
  rcases fs with _ | ⟨f0, _ | ⟨f1, _ | ⟨f2, fs⟩⟩⟩ <;> simp only [List.map_nil, List.map_cons, List.cons.injEq, Prod.mk.injEq, reduceCtorEq, and_true, and_false, List.nil_eq] at hf
  obtain ⟨⟨n0, t0, o0⟩, n1, t1, o1⟩ := hf
  refine eqFields_pass n0 (by rw [t0, o0]; exact part_u8 g0) (by rw [t0, o0]; exact part_u8 g0) (by rw [t0]; rw [run_equalIn_int w 9998 5 .u8 .u8 _ _ Tryz.underlying5]; simp) ?_
  refine eqFields_pass n1 (by rw [t1, o1]; exact part_sig g1 (by omega)) (by rw [t1, o1]; exact part_sig g1 (by omega)) (by rw [t1, eq45 _ _ hv.sl hv.sl w 9997]; simp) ?_
  simp [Op.eqFields]
section
variable {w : World}
set_option maxRecDepth 100000 in
set_option maxHeartbeats 2000000 in
theorem sameobj_t {x : Ob} {p q : Option Addr} {n c d : Nat} (hx : ObK x) (S : Lw 65 w p n c (vsL x.vs)) (R : Lw 65 w q n d (vsL x.vs)) (hls : ∀ v ∈ x.vs, VcOk v) (hl : x.vs.length = n) (hn : n ≤ 1000000) :
    Calls Tryz.prog 18 #[.agg (oC x (.slice p n c)), .agg (oC x (.slice q n d))] w fun e w' => e = .returned (.bool true) ∧ Fr [] w w' := by
  obtain ⟨xs, hxs⟩ : ∃ xs, xs = oC x (.slice p n c) := ⟨_, rfl⟩
  obtain ⟨ys, hys⟩ : ∃ ys, ys = oC x (.slice q n d) := ⟨_, rfl⟩
  have X : ObF xs x (.slice p n c) := by rw [hxs]; exact obF hx
  have Y : ObF ys x (.slice q n d) := by rw [hys]; exact obF hx
  rw [← hxs, ← hys]
  have kl := hx.kl
  have sl := hx.sl
  have HS := Lib.hid S
  have HR := Lib.hid R
  have HLS := Lib.hid hls
  have HL := Lib.hid hl
  clear hxs hys S R hls hl hx
  obtain ⟨sx, ⟨x0, x0'⟩, ⟨x1, x1'⟩, x2, ⟨x3, x3'⟩, ⟨x4, x4'⟩, x5, ⟨x6, x6'⟩, _, _⟩ := X
  obtain ⟨sy, ⟨y0, y0'⟩, ⟨y1, y1'⟩, y2, ⟨y3, y3'⟩, ⟨y4, y4'⟩, y5, ⟨y6, y6'⟩, _, _⟩ := Y
  go_enter Tryz.func18, Tryz.ntmps18
  go_upto_region 1 with (fail)
  refine named_world (A := fun X => OwB w [(w.heap.size + 1, .cells ys 48), (w.heap.size, .cells xs 48)] X) (Q := fun X => Code.wp _ _ _ _ X) (((OwB.start w).allocN _ w.heap.size rfl).allocN _ (w.heap.size + 1) (by simp)) ?_
  intro V hV
  generalize w.heap.size + 1 = b3 at hV ⊢
  generalize w.heap.size = b2 at hV ⊢
  have f3 := hV.nth 0 rfl
  have f2 := hV.nth 1 rfl
  have t3 := World.at_lt f3
  have t2 := World.at_lt f2
  have HV := Lib.hid hV
  clear hV
  have dn : ((n : Int) != (n : Int)) = false := by simp
  have dk : (x.key == x.key) = true := by simp
  have e45 : ∀ W : World, (Op.equalIn 10000 45 (.agg (ints .u8 x.sig)) (.agg (ints .u8 x.sig))).run Tryz.prog W = .ok true W := fun W => by rw [eq45 _ _ sl sl W 9998]; simp
  go_wp2_with fail
  go_loopw [5] (fun iv wy => ∃ i : Nat, i ≤ n ∧ iv = .int .i64 (i : Int) ∧ Hid (OwB w [(b3, .cells ys 48), (b2, .cells xs 48)] wy)) (fun iv _ => (n - intOf iv).toNat)
  case atStart => exact ⟨0, by omega, rfl, HV⟩
  case round =>
    clear f3 f2 t3 t2 HV
    obtain ⟨i, hi9, rfl, hO⟩ := hrel
    have f3 := hO.out.nth 0 rfl
    have f2 := hO.out.nth 1 rfl
    have t3 := World.at_lt f3
    have t2 := World.at_lt f2
    by_cases hlt : i < n
    · have hd : decide ((i : Int) < (n : Int)) = true := by rw [decide_eq_true_eq]; omega
      obtain ⟨y, b, o, cs, TT, fr, hy, rfl, g1, hs1, hs2, hx⟩ := (HS.out.fr0 hO.out.fr).elem HLS.out HL.out hlt
      obtain ⟨y', b', o', cs', TT', fr', hy', rfl, g1', hs1', hs2', hx'⟩ := (HR.out.fr0 hO.out.fr).elem HLS.out HL.out hlt
      rw [hy] at hy'
      simp only [Option.some.injEq] at hy'
      subst hy'
      have oky := HLS.out y (List.mem_of_getElem? hy)
      obtain ⟨B, hB⟩ : ∃ B, B = (vcC y).toArray := ⟨_, rfl⟩
      rw [← hB] at hx hx'
      have eqB : ∀ W : World, (Op.equalIn 10000 105 (.agg B) (.agg B)).run Tryz.prog W = .ok true W := fun W => by rw [hB]; exact eq105 oky W
      have szB : B.size = 65 := by rw [hB]; exact vcC_size oky
      have u1 := World.at_lt g1
      have u1' := World.at_lt g1'
      have wi : IntKind.i64.wrap ((i : Int) + 1) = ((i + 1 : Nat) : Int) := by rw [IntKind.wrap_i64]; omega
      clear hB hy oky
      go_upto_region 6 with (fail)
      refine wp_region_quiet_all (C := fun w' => ∃ _ : Unit, w' = wr.drew) (by kernel_rfl) (by kernel_rfl) ⟨(), rfl⟩ ?_
      repeat (go_big_quiet_step (fail))
      refine wpQuiet_nil ?_
      intro _ hw'
      obtain ⟨_, rfl⟩ := hw'
      have HO1 := Lib.hid hO.out.drew
      clear f3 f2 t3 t2 g1 g1' u1 u1' hx hx'
      go_wp2_with fail
      go_roundw
      case rel => exact ⟨i + 1, by omega, by first | rfl | simp, HO1⟩
      case measure => simp [intOf]; omega
    · obtain rfl : i = n := by omega
      have hd : decide ((i : Int) < (i : Int)) = false := by simp
      go_wp2_with fail
      exact bodyPost_ret (results_tmp rfl _ _ _) rfl ⟨rfl, hO.out.fr⟩
end
end Go.Proofs.YtbhnfohoclcjdaaGreat
namespace Go.Dr
/-- The state, the slots of l filled. -/
def fillT (D : Nat → Nat) (x : Nat → Value) : List Nat → Array Value → Array Value
  | [], t => t
  | i :: l, t => fillT D x l (t.setIfInBounds (D i) (x i))
def fillA (D : Nat → Nat) (x : Nat → Value) (l : List Nat) (a : Act) : Act := { a with tmps := fillT D x l a.tmps }
def upd (x : Nat → Value) (i : Nat) (v : Value) : Nat → Value := fun j => if j = i then v else x j
theorem fillT_congr {D : Nat → Nat} {x y : Nat → Value} : ∀ {l : List Nat} {t : Array Value}, (∀ j ∈ l, x j = y j) → fillT D x l t = fillT D y l t
  | [], t, _ => rfl
  | i :: l, t, h => by
    show fillT D x l _ = fillT D y l _
    rw [h i (by simp), fillT_congr fun j hj => h j (by simp [hj])]
theorem fillT_out {D : Nat → Nat} {x : Nat → Value} {d : Nat} {v : Value} : ∀ {l : List Nat} {t : Array Value}, (∀ j ∈ l, D j ≠ d) → (fillT D x l t).setIfInBounds d v = fillT D x l (t.setIfInBounds d v)
  | [], t, _ => rfl
  | i :: l, t, h => by
    show (fillT D x l _).setIfInBounds d v = fillT D x l _
    rw [fillT_out fun j hj => h j (by simp [hj]), Array.setIfInBounds_comm _ _ (h i (by simp))]
theorem fillT_put {D : Nat → Nat} {x : Nat → Value} {v : Value} {i : Nat} : ∀ {l : List Nat} {t : Array Value}, i ∈ l → (l.map D).Nodup → (fillT D x l t).setIfInBounds (D i) v = fillT D (upd x i v) l t
  | [], t, h, _ => by cases h
  | j :: l, t, h, hn => by
    show (fillT D x l _).setIfInBounds (D i) v = fillT D _ l _
    rw [List.map_cons, List.nodup_cons] at hn
    by_cases hij : i = j
    · subst hij
      have hni : ∀ k ∈ l, D k ≠ D i := fun k hk e => hn.1 (by rw [← e]; exact List.mem_map_of_mem hk)
      rw [fillT_out hni, Array.setIfInBounds_setIfInBounds, show upd x i v i = v from by simp [upd]]
      exact fillT_congr fun k hk => by
        have : k ≠ i := fun e => hni k hk (by rw [e])
        simp [upd, this]
    · have hm : i ∈ l := by
        rcases List.mem_cons.1 h with h | h
        · exact absurd h hij
        · exact h
      rw [fillT_put hm hn.2, show upd x i v j = x j from by simp [upd, Ne.symm hij]]
theorem fillT_self {D : Nat → Nat} {t : Array Value} {z : Value} : ∀ {l : List Nat}, fillT D (fun i => t.getD (D i) z) l t = t
  | [] => rfl
  | i :: l => by
    show fillT D _ l (t.setIfInBounds (D i) (t.getD (D i) z)) = t
    have : t.setIfInBounds (D i) (t.getD (D i) z) = t := by
      apply Array.ext_getElem?
      intro k
      rw [Array.getElem?_setIfInBounds]
      split
      · rename_i hk
        subst hk
        split
        · rename_i hlt
          simp [hlt]
        · rename_i hlt
          simp [Array.getElem?_eq_none (Nat.le_of_not_lt hlt)]
      · rfl
    rw [this]
    exact fillT_self
theorem markAll_get {k : Nat} : ∀ {l : List Nat} {s : Array Bool}, (markAll s l)[k]? = if k ∈ l ∧ k < s.size then some true else s[k]?
  | [], s => by simp [markAll]
  | i :: l, s => by
    show (markAll (s.setIfInBounds i true) l)[k]? = _
    rw [markAll_get, Array.size_setIfInBounds, Array.getElem?_setIfInBounds]
    by_cases h1 : k ∈ l
    · by_cases h2 : k < s.size
      · simp [h1, h2]
      · rw [if_neg (fun h : k ∈ l ∧ k < s.size => h2 h.2), if_neg (fun h : k ∈ i :: l ∧ k < s.size => h2 h.2), Array.getElem?_eq_none (Nat.le_of_not_lt h2)]
        split
        · exact if_neg (by omega)
        · rfl
    · by_cases h3 : i = k
      · subst h3
        by_cases h2 : i < s.size
        · simp [h1, h2]
        · simp [h1, h2, Array.getElem?_eq_none (Nat.le_of_not_lt h2)]
      · simp [h1, h3, Ne.symm h3]
theorem markAll_set {s : Array Bool} {l m : List Nat} {i : Nat} (h : ∀ k, k ∈ m ↔ k = i ∨ k ∈ l) : (markAll s l).setIfInBounds i true = markAll s m := by
  apply Array.ext_getElem?
  intro k
  have hs : (markAll s l).size = s.size := by
    unfold markAll
    induction l generalizing s m with
    | nil => rfl
    | cons j l ih => rw [List.foldl_cons, ih (m := i :: l) (fun k => by simp), Array.size_setIfInBounds]
  rw [Array.getElem?_setIfInBounds, markAll_get, markAll_get, hs]
  by_cases hk : i = k
  · subst hk
    by_cases h2 : i < s.size
    · simp [h2, (h i).2 (.inl rfl)]
    · simp [h2, Array.getElem?_eq_none (Nat.le_of_not_lt h2)]
  · have : (k ∈ m) ↔ (k ∈ l) := by rw [h k]; exact ⟨fun e => e.resolve_left (Ne.symm hk), .inr⟩
    simp only [hk, if_false, this]
/-- All parts of a list. -/
def parts : List Nat → List (List Nat)
  | [] => [[]]
  | i :: l => parts l ++ (parts l).map (i :: ·)
theorem filter_parts (p : Nat → Bool) : ∀ (l : List Nat), l.filter p ∈ parts l
  | [] => by simp [parts]
  | i :: l => by
    rw [List.filter_cons]
    split
    · exact List.mem_append_right _ (List.mem_map_of_mem (filter_parts p l))
    · exact List.mem_append_left _ (filter_parts p l)
section
variable {P : Program} {ops : Array Oper} {Q : Exit → Act → World → Prop} {S : World → Prop} {N : Nat}
/-- While not all of l are listed, some of l can come up, and nothing else. -/
def jumbleB (ops : Array Oper) (listed : Array Bool) (D : Nat → Nat) (l : List Nat) : Bool :=
  ((parts l).all fun d => d.length == l.length || !closedB .any ops (markAll listed d) || (!(Region.ready .any ops (markAll listed d)).isEmpty && (Region.ready .any ops (markAll listed d)).all fun i => l.contains i)) &&
  closedB .any ops listed && decide (l.map D).Nodup && (l.all fun i => decide (i < listed.size) && !listed.getD i false) && l.all fun i => (ops[i]?).any fun o => o.dst == some (D i)
theorem closedB_of {listed : Array Bool} (h : closedL .any ops listed) : closedB .any ops listed = true := by
  refine List.all_eq_true.2 fun j hj => ?_
  cases hl : listed.getD j false with
  | false => rfl
  | true =>
    cases ho : ops[j]? with
    | none => rfl
    | some o =>
      simp only [Bool.not_true, Bool.false_or]
      refine Array.all_eq_true_iff_forall_mem.2 fun e he => ?_
      cases hb : Region.binds .any e with
      | false => rfl
      | true => simpa using h j o ho hl e he hb
/-- One operation's step, as a walk. -/
theorem wpOp_ofList {i : Nat} {o : Oper} {a : Act} {w : World} {G : Act → World → Prop} (ho : ops[i]? = some o)
    (h : ∀ K : Act → World → Prop, (∀ a' w', G a' w' → K a' w') → wpList P ops (Exit.then K fun e a w => e = .outgrown ∧ Q e a w) [o] a w) : wpOp P ops (NoP Q) i G a w := by
  have h1 : wpList P ops (Exit.then G (NoP Q)) [o] a w :=
    wpList_imp (fun e a w h => by
      cases e <;> first | exact h | exact h.2 | (exact absurd h.1 (by simp))) _ _ _ (h G (fun _ _ h => h))
  clear h
  unfold wpOp
  simp only [ho]
  unfold wpList at h1
  split
  · rename_i hw
    rw [if_pos hw] at h1
    rcases h1 with h1 | ⟨ha, a', w', hl⟩
    · left
      revert h1
      unfold Oper.wp
      generalize (execOp a.eval o).run P w = r
      intro h
      cases r with
      | ok n w' =>
        cases n <;> simp only [Oper.upon] at h ⊢
        case value v => exact h
        case skip => exact h
        case defer d => exact h
        case enter f args =>
          refine Calls.mono h (fun e w'' he => ?_)
          cases e with
          | returned v => exact he
          | panicked c => exact he
          | outgrown => exact he
        case row row args => exact Rows.mono h (fun v w'' he => he)
      | halt x w' => cases x <;> simp only [Oper.upon] at h ⊢ <;> exact h
    · exact .inr ⟨ha, a', w', hl⟩
  · rename_i hw
    rw [if_neg hw] at h1
    exact h1
theorem drawn_jumble {D : Nat → Nat} (l : List Nat) (R : Nat → Value → World → Prop) (E : World → World → Prop) (J : World → Prop) {fuel : Nat} {listed : Array Bool} {a : Act} {w : World}
    (hB : jumbleB ops listed D l = true) (hE : ∀ i v w w', R i v w → E w w' → R i v w') (hJ : J w)
    (H : ∀ i ∈ l, ∀ x w', J w' → (∀ j ∈ l, waitsB .any ops i j = true → R j (x j) w') →
      wpOp P ops (NoP Q) i (fun a' w'' => ∃ v, a' = (fillA D x l a).put (some (D i)) v ∧ R i v w'' ∧ E w' w'' ∧ J w'' ∧ (N ≤ i ∨ S w'')) (fillA D x l a) w')
    (h : ∀ x w', J w' → (∀ j ∈ l, R j (x j) w') → wpAnyS P .any ops (NoP Q) S N fuel (markAll listed l) (fillA D x l a) w') :
    wpAnyS P .any ops (NoP Q) S N (fuel + l.length) listed a w := by
  simp only [jumbleB, Bool.and_eq_true, decide_eq_true_eq] at hB
  obtain ⟨⟨⟨⟨b1, b0⟩, b2⟩, b3⟩, b4⟩ := hB
  have hl : l.Nodup := List.Pairwise.of_map D (fun a b h e => h (by rw [e])) b2
  have key : ∀ (n : Nat) (p : Nat → Bool) (x : Nat → Value) (w' : World), (l.filter fun i => !p i).length = n → closedL .any ops (markAll listed (l.filter p)) → J w' → (∀ j ∈ l, p j = true → R j (x j) w') →
      wpAnyS P .any ops (NoP Q) S N (fuel + n) (markAll listed (l.filter p)) (fillA D x l a) w' := by
    intro n
    induction n with
    | zero =>
      intro p x w' hn hcl hJ' hR
      have hall : ∀ i ∈ l, p i = true := fun i hi => by
        have h0 := List.eq_nil_of_length_eq_zero hn
        cases hp : p i with
        | true => rfl
        | false =>
          have : i ∈ l.filter fun i => !p i := List.mem_filter.2 ⟨hi, by simp [hp]⟩
          rw [h0] at this
          cases this
      rw [List.filter_eq_self.2 hall]
      exact h x w' hJ' fun j hj => hR j hj (hall j hj)
    | succ n ih =>
      intro p x w' hn hcl hJ' hR
      have hlen : (l.filter p).length ≠ l.length := fun e => by
        have h2 : l.filter p = l := List.filter_sublist.eq_of_length e
        have h3 : (l.filter fun i => !p i) = [] := List.filter_eq_nil_iff.2 fun i hi => by
          have := List.filter_eq_self.1 h2 i hi
          simp [this]
        rw [h3] at hn
        cases hn
      have hb := List.all_eq_true.1 b1 _ (filter_parts p l)
      simp only [Bool.or_eq_true, beq_iff_eq, hlen, closedB_of hcl, Bool.not_true, Bool.false_eq_true, false_or, Bool.and_eq_true, Bool.not_eq_true', List.isEmpty_eq_false_iff] at hb
      refine ⟨fun e => absurd e hb.1, fun i hi => ?_⟩
      have hil : i ∈ l := by simpa using List.all_eq_true.1 hb.2 i hi
      obtain ⟨hun, o, ho, hall⟩ := mem_ready.1 hi
      have hsz : ∀ j ∈ l, j < listed.size ∧ listed.getD j false = false := fun j hj => by
        have := List.all_eq_true.1 b3 j hj
        simpa using this
      have hpi : p i = false := by
        cases hp : p i with
        | false => rfl
        | true =>
          have h9 := markAll_get (k := i) (l := l.filter p) (s := listed)
          rw [if_pos ⟨List.mem_filter.2 ⟨hil, hp⟩, (hsz i hil).1⟩] at h9
          rw [Array.getD_eq_getD_getElem?, h9] at hun
          cases hun
      refine wpOp_mono ?_ (H i hil x w' hJ' fun j hj hwt => hR j hj ?_)
      · rintro a' w'' ⟨v, rfl, hv, hEw, hJ2, hS⟩
        refine ⟨hS, ?_⟩
        have hd : (fillA D x l a).put (some (D i)) v = fillA D (upd x i v) l a := by
          show ({ (fillA D x l a) with tmps := (fillA D x l a).tmps.setIfInBounds (D i) v } : Act) = _
          simp only [fillA]
          rw [fillT_put hil b2]
        have hm : (markAll listed (l.filter p)).setIfInBounds i true = markAll listed (l.filter fun k => p k || k == i) := markAll_set fun k => by
          simp only [List.mem_filter, Bool.or_eq_true, beq_iff_eq]
          constructor
          · rintro ⟨hk, hk2 | hk2⟩
            · exact .inr ⟨hk, hk2⟩
            · exact .inl hk2
          · rintro (rfl | ⟨hk, hk2⟩)
            · exact ⟨hil, .inr rfl⟩
            · exact ⟨hk, .inl hk2⟩
        rw [hd, hm]
        refine ih (fun k => p k || k == i) (upd x i v) w'' ?_ (hm ▸ closedL_set hcl hi) hJ2 ?_
        · have e : (l.filter fun k => !(p k || k == i)) = (l.filter fun k => !p k).erase i := by
            rw [List.Nodup.erase_eq_filter (hl.sublist List.filter_sublist), List.filter_filter]
            congr 1
            funext k
            cases p k <;> simp [bne]
          have hmem : i ∈ l.filter fun k => !p k := List.mem_filter.2 ⟨hil, by simp [hpi]⟩
          rw [e, List.length_erase_of_mem hmem, hn]
          rfl
        · intro j hj hp
          simp only [Bool.or_eq_true, beq_iff_eq] at hp
          by_cases hji : j = i
          · subst hji
            simpa [upd] using hv
          · simp only [upd, hji, if_false]
            exact hE _ _ _ _ (hR j hj (hp.resolve_right hji)) hEw
      · obtain ⟨o', ho', e, he, hbd, hon⟩ := waitsB_spec hwt
        obtain rfl : o' = o := Option.some.inj (ho'.symm.trans ho)
        have h9 := hall e he hbd
        rw [hon] at h9
        cases hp : p j with
        | true => rfl
        | false =>
          have h8 := markAll_get (k := j) (l := l.filter p) (s := listed)
          rw [if_neg (fun hh => by have := (List.mem_filter.1 hh.1).2; rw [hp] at this; cases this)] at h8
          rw [Array.getD_eq_getD_getElem?, h8, ← Array.getD_eq_getD_getElem?, (hsz j hj).2] at h9
          cases h9
  have k0 := key l.length (fun _ => false) (fun i => a.tmps.getD (D i) undef) w (by simp) (by rw [List.filter_eq_nil_iff.2 (by simp)]; exact closedB_spec b0) hJ (fun j hj hp => by cases hp)
  rw [List.filter_eq_nil_iff.2 (by simp)] at k0
  have e0 : fillA D (fun i => a.tmps.getD (D i) undef) l a = a := by
    unfold fillA
    rw [fillT_self]
  rw [e0] at k0
  exact k0
/-- The same; the invariant may know what is done. -/
theorem drawn_jumble2 {D : Nat → Nat} (l : List Nat) (R : Nat → Value → World → Prop) (E : World → World → Prop) (J : (Nat → Bool) → World → Prop) {fuel : Nat} {listed : Array Bool} {a : Act} {w : World}
    (hB : jumbleB ops listed D l = true) (hE : ∀ i v w w', R i v w → E w w' → R i v w') (hJ : J (fun _ => false) w)
    (H : ∀ i ∈ l, ∀ p x w', p i = false → J p w' → (∀ j ∈ l, waitsB .any ops i j = true → p j = true) → (∀ j ∈ l, waitsB .any ops i j = true → R j (x j) w') →
      wpOp P ops (NoP Q) i (fun a' w'' => ∃ v, a' = (fillA D x l a).put (some (D i)) v ∧ R i v w'' ∧ E w' w'' ∧ J (fun k => p k || k == i) w'' ∧ (N ≤ i ∨ S w'')) (fillA D x l a) w')
    (h : ∀ p x w', (∀ j ∈ l, p j = true) → J p w' → (∀ j ∈ l, R j (x j) w') → wpAnyS P .any ops (NoP Q) S N fuel (markAll listed l) (fillA D x l a) w') :
    wpAnyS P .any ops (NoP Q) S N (fuel + l.length) listed a w := by
  simp only [jumbleB, Bool.and_eq_true, decide_eq_true_eq] at hB
  obtain ⟨⟨⟨⟨b1, b0⟩, b2⟩, b3⟩, b4⟩ := hB
  have hl : l.Nodup := List.Pairwise.of_map D (fun a b h e => h (by rw [e])) b2
  have key : ∀ (n : Nat) (p : Nat → Bool) (x : Nat → Value) (w' : World), (l.filter fun i => !p i).length = n → closedL .any ops (markAll listed (l.filter p)) → J p w' → (∀ j ∈ l, p j = true → R j (x j) w') →
      wpAnyS P .any ops (NoP Q) S N (fuel + n) (markAll listed (l.filter p)) (fillA D x l a) w' := by
    intro n
    induction n with
    | zero =>
      intro p x w' hn hcl hJ' hR
      have hall : ∀ i ∈ l, p i = true := fun i hi => by
        have h0 := List.eq_nil_of_length_eq_zero hn
        cases hp : p i with
        | true => rfl
        | false =>
          have : i ∈ l.filter fun i => !p i := List.mem_filter.2 ⟨hi, by simp [hp]⟩
          rw [h0] at this
          cases this
      rw [List.filter_eq_self.2 hall]
      exact h p x w' hall hJ' fun j hj => hR j hj (hall j hj)
    | succ n ih =>
      intro p x w' hn hcl hJ' hR
      have hlen : (l.filter p).length ≠ l.length := fun e => by
        have h2 : l.filter p = l := List.filter_sublist.eq_of_length e
        have h3 : (l.filter fun i => !p i) = [] := List.filter_eq_nil_iff.2 fun i hi => by
          have := List.filter_eq_self.1 h2 i hi
          simp [this]
        rw [h3] at hn
        cases hn
      have hb := List.all_eq_true.1 b1 _ (filter_parts p l)
      simp only [Bool.or_eq_true, beq_iff_eq, hlen, closedB_of hcl, Bool.not_true, Bool.false_eq_true, false_or, Bool.and_eq_true, Bool.not_eq_true', List.isEmpty_eq_false_iff] at hb
      refine ⟨fun e => absurd e hb.1, fun i hi => ?_⟩
      have hil : i ∈ l := by simpa using List.all_eq_true.1 hb.2 i hi
      obtain ⟨hun, o, ho, hall⟩ := mem_ready.1 hi
      have hsz : ∀ j ∈ l, j < listed.size ∧ listed.getD j false = false := fun j hj => by
        have := List.all_eq_true.1 b3 j hj
        simpa using this
      have hpi : p i = false := by
        cases hp : p i with
        | false => rfl
        | true =>
          have h9 := markAll_get (k := i) (l := l.filter p) (s := listed)
          rw [if_pos ⟨List.mem_filter.2 ⟨hil, hp⟩, (hsz i hil).1⟩] at h9
          rw [Array.getD_eq_getD_getElem?, h9] at hun
          cases hun
      have pre : ∀ j ∈ l, waitsB .any ops i j = true → p j = true := fun j hj hwt => by
        obtain ⟨o', ho', e, he, hbd, hon⟩ := waitsB_spec hwt
        obtain rfl : o' = o := Option.some.inj (ho'.symm.trans ho)
        have h9 := hall e he hbd
        rw [hon] at h9
        cases hp : p j with
        | true => rfl
        | false =>
          have h8 := markAll_get (k := j) (l := l.filter p) (s := listed)
          rw [if_neg (fun hh => by have := (List.mem_filter.1 hh.1).2; rw [hp] at this; cases this)] at h8
          rw [Array.getD_eq_getD_getElem?, h8, ← Array.getD_eq_getD_getElem?, (hsz j hj).2] at h9
          cases h9
      refine wpOp_mono ?_ (H i hil p x w' hpi hJ' pre fun j hj hwt => hR j hj (pre j hj hwt))
      · rintro a' w'' ⟨v, rfl, hv, hEw, hJ2, hS⟩
        refine ⟨hS, ?_⟩
        have hd : (fillA D x l a).put (some (D i)) v = fillA D (upd x i v) l a := by
          show ({ (fillA D x l a) with tmps := (fillA D x l a).tmps.setIfInBounds (D i) v } : Act) = _
          simp only [fillA]
          rw [fillT_put hil b2]
        have hm : (markAll listed (l.filter p)).setIfInBounds i true = markAll listed (l.filter fun k => p k || k == i) := markAll_set fun k => by
          simp only [List.mem_filter, Bool.or_eq_true, beq_iff_eq]
          constructor
          · rintro ⟨hk, hk2 | hk2⟩
            · exact .inr ⟨hk, hk2⟩
            · exact .inl hk2
          · rintro (rfl | ⟨hk, hk2⟩)
            · exact ⟨hil, .inr rfl⟩
            · exact ⟨hk, .inl hk2⟩
        rw [hd, hm]
        refine ih (fun k => p k || k == i) (upd x i v) w'' ?_ (hm ▸ closedL_set hcl hi) hJ2 ?_
        · have e : (l.filter fun k => !(p k || k == i)) = (l.filter fun k => !p k).erase i := by
            rw [List.Nodup.erase_eq_filter (hl.sublist List.filter_sublist), List.filter_filter]
            congr 1
            funext k
            cases p k <;> simp [bne]
          have hmem : i ∈ l.filter fun k => !p k := List.mem_filter.2 ⟨hil, by simp [hpi]⟩
          rw [e, List.length_erase_of_mem hmem, hn]
          rfl
        · intro j hj hp
          simp only [Bool.or_eq_true, beq_iff_eq] at hp
          by_cases hji : j = i
          · subst hji
            simpa [upd] using hv
          · simp only [upd, hji, if_false]
            exact hE _ _ _ _ (hR j hj (hp.resolve_right hji)) hEw
  have k0 := key l.length (fun _ => false) (fun i => a.tmps.getD (D i) undef) w (by simp) (by rw [List.filter_eq_nil_iff.2 (by simp)]; exact closedB_spec b0) hJ (fun j hj hp => by cases hp)
  rw [List.filter_eq_nil_iff.2 (by simp)] at k0
  have e0 : fillA D (fun i => a.tmps.getD (D i) undef) l a = a := by
    unfold fillA
    rw [fillT_self]
  rw [e0] at k0
  exact k0
end
end Go.Dr
namespace Go
theorem World.freeze_any {w : World} {b : Nat} {C : Array Value} {e : TypeId} {fr : Nat × Nat} (k : Nat) (h : w.blk b = some (.cells C e fr)) : ∃ fr', w.freeze ⟨b, k, none⟩ 1 = w.put b (.cells C e fr') := by
  refine ⟨if fr.1 == fr.2 then (k, k + 1) else (min fr.1 k, max fr.2 (k + 1)), ?_⟩
  unfold World.freeze World.put
  rw [if_neg (by decide)]
  congr 1
  apply Array.ext
  · simp
  · intro i h1 h2
    have hb := Array.getElem?_eq_some_iff.1 h
    rw [Array.getElem_modify, Array.getElem_setIfInBounds]
    by_cases hi : b = i
    · subst hi
      rw [if_pos rfl, if_pos rfl, hb.2]
    · rw [if_neg hi, if_neg hi]
/-- '[]byte("..")' of a constant, its row marked or not. -/
theorem run_convert_any {P : Program} {w : World} {b : Nat} {C : Array Value} {t e : TypeId} {fr : Nat × Nat} (n c : Nat) (h : w.blk b = some (.cells C e fr)) (ht : P.underlying t = some (.slice e)) (he : P.underlying e = some (.int .u8)) :
    ∃ fr', (convert t t (.slice (some ⟨b, 0, none⟩) n c)).run P w = .ok (.slice (some ⟨b, 0, none⟩) n c) (w.put b (.cells C e fr')) := by
  obtain ⟨fr', h2⟩ := World.freeze_any (C.size) h
  refine ⟨fr', ?_⟩
  have hsh : w.shape? b = some (e, C.size) := by
    unfold World.shape?
    rw [show w.heap[b]? = some (.cells C e fr) from h]
  simp [convert, run_underlying ht, run_underlying he, markStringish, hsh]
  exact h2
end Go
namespace Go.Dr
/-- A row of bytes that is nobody else's: made behind w. -/
def Made (w : World) (k : List Int) (v : Value) (W : World) : Prop := ∃ b fr, v = .slice (some ⟨b, 0, none⟩) k.length k.length ∧ W.blk b = some (.cells (ints .u8 k) 5 fr) ∧ w.heap.size ≤ b
/-- Rows of bytes stay, but for their marks. -/
def RowsStay (W W' : World) : Prop := ∀ b cs fr, W.blk b = some (.cells cs 5 fr) → ∃ fr', W'.blk b = some (.cells cs 5 fr')
theorem RowsStay.ofFr {W W' : World} (F : Fr [] W W') : RowsStay W W' := fun b cs fr h => ⟨fr, F.get h (by simp)⟩
theorem RowsStay.mark {W : World} {b : Nat} {cs : Array Value} {fr fr' : Nat × Nat} (h : W.blk b = some (.cells cs 5 fr)) : RowsStay W (W.put b (.cells cs 5 fr')) := fun g cs2 fr2 h2 => by
  by_cases e : b = g
  · subst e
    rw [h] at h2
    cases h2
    exact ⟨fr', World.at_put_same _ _ _ (World.at_lt h)⟩
  · exact ⟨fr2, by rw [World.at_put_other _ _ _ _ e]; exact h2⟩
theorem Made.rest {w W W' : World} {k : List Int} {v : Value} (h : Made w k v W) (R : RowsStay W W') : Made w k v W' := by
  obtain ⟨b, fr, rfl, h1, h2⟩ := h
  obtain ⟨fr', h3⟩ := R _ _ _ h1
  exact ⟨b, fr', rfl, h3, h2⟩
theorem Made.alloc {w W : World} (k : List Int) (h : w.heap.size ≤ W.heap.size) : Made w k (.slice (some ⟨W.heap.size, 0, none⟩) k.length k.length) (W.alloc (.cells (ints .u8 k) 5)) :=
  ⟨W.heap.size, (0, 0), rfl, World.at_alloc_new _ _ _ rfl, h⟩
end Go.Dr
namespace Go.Proofs.YtbhnfohoclcjdaaGreat
open Go.RowKit Go.Dr Go.Kd
def D45 (i : Nat) : Nat := [3, 4, 0, 0, 7, 0, 0, 10, 0, 0, 0, 0, 0, 16, 0, 0, 0, 20].getD i 0
def C45 (s n f t : Nat) (i : Nat) : List Int := match i with
  | 0 => [107, 101, 121]
  | 1 => [107, 101, 121]
  | 4 => [(s : Int)]
  | 7 => [(n : Int)]
  | 13 => putB f 4
  | 17 => putB t 4
  | _ => []
theorem d0 : D45 0 = 3 := rfl
theorem d1 : D45 1 = 4 := rfl
theorem d4 : D45 4 = 7 := rfl
theorem d7 : D45 7 = 10 := rfl
theorem d13 : D45 13 = 16 := rfl
theorem d17 : D45 17 = 20 := rfl
theorem _root_.Go.OwB.put_out {w0 w : World} {L : List (Nat × Obj)} (h : OwB w0 L w) {b : Nat} (o : Obj) (hb : w0.heap.size ≤ b) (hn : ∀ q ∈ L, b ≠ q.1) : OwB w0 L (w.put b o) :=
  ⟨fun q hq => by rw [World.at_put_other _ _ _ _ (hn q hq)]; exact h.has q hq, h.nd, h.lo, h.fr.put b o fun hb2 => by omega⟩
section
variable {w : World}
set_option maxRecDepth 100000 in
set_option maxHeartbeats 8000000 in
theorem rotext_n {s n f t : Nat} {key sig : List Int} {vs : Value} (hs : s < 256) (hn : n < 256) (hf : f < 4294967296) (ht : t < 4294967296) (hk : key.length = 32) (hg : sig.length = 64) (hv : vs.oneCell' = true) :
    Calls Tryz.prog 45 #[.agg (cObject (.int .u8 s) (.int .u8 n) key (.int .u32 f) (.int .u32 t) sig vs).toArray] w fun e w' => ∃ q m c, e = .returned (.slice q m c) ∧ Bld w [] .u8 5 w' q m c (objText ⟨s, n, key, f, t, sig, []⟩) := by
  obtain ⟨xs, hxs⟩ : ∃ xs, xs = (cObject (.int .u8 s) (.int .u8 n) key (.int .u32 f) (.int .u32 t) sig vs).toArray := ⟨_, rfl⟩
  have hsz : xs.size = 101 := by rw [hxs, List.size_toArray, cObject_length _ _ _ _ _ _ _ hk hg]
  have x0 : xs[0]? = some (.int .u8 s) := by rw [hxs]; exact cObject_get_server _ _ _ _ _ _ _ hk hg
  have x1 : xs[1]? = some (.int .u8 n) := by rw [hxs]; exact cObject_get_n _ _ _ _ _ _ _ hk hg
  have x2 : xs.extract 2 34 = ints .u8 key := by rw [hxs]; exact cObject_ext_key _ _ _ _ _ _ _ hk hg
  have x3 : xs[34]? = some (.int .u32 f) := by rw [hxs]; exact cObject_get_frm _ _ _ _ _ _ _ hk hg
  have x4 : xs[35]? = some (.int .u32 t) := by rw [hxs]; exact cObject_get_til _ _ _ _ _ _ _ hk hg
  rw [← hxs]
  have e9 : objText ⟨s, n, key, f, t, sig, []⟩ = joinB [[107, 101, 121], putB s 1, putB n 1, key, putB f 4, putB t 4] := by simp [objText]
  have HE := Lib.hid e9
  have HX2 := Lib.hid x2
  clear hxs e9 x2
  replace x0 := (Array.getElem?_eq_some_iff.1 x0).2
  replace x1 := (Array.getElem?_eq_some_iff.1 x1).2
  replace x3 := (Array.getElem?_eq_some_iff.1 x3).2
  replace x4 := (Array.getElem?_eq_some_iff.1 x4).2
  go_enter Tryz.func45, Tryz.ntmps45
  go_upto_region 1 with (fail)
  refine named_world (A := fun X => OwB w [(w.heap.size, .cells xs 48)] X) (Q := fun X => Code.wp _ _ _ _ X) ((OwB.start w).allocN _ w.heap.size rfl) ?_
  intro V hV
  have lb := Nat.le_refl w.heap.size
  generalize hb0 : w.heap.size = b0 at hV ⊢
  have f0 := hV.nth 0 rfl
  have t0 := World.at_lt f0
  have HV := Lib.hid hV
  clear hV
  refine drawn_begin 20 (fun w' => w'.blk b0 = some (.cells xs 48)) (by kernel_rfl) ?_
  refine drawn_reads (fuel := 9) [2, 3, 5, 6, 8, 9, 10, 11, 12, 14, 15, 16] rfl (by kernel_rfl) f0 ?_
  repeat (first | (refine rowK_step2 rfl rfl (fun K hK => ?_); go_wp2) | (refine rowK_step rfl (fun K hK => ?_); go_simp; refine hK _ ?_; clear hK K))
  refine rowK_nil ⟨fun w' e1 => ?_, ?_⟩
  · clear f0 t0
    repeat (first | (refine rowWp_step2 rfl rfl (fun K hK => ?_); go_wp2) | (refine rowWp_step rfl (fun K hK => ?_); go_simp; refine hK _ ?_; clear hK K))
    exact rowWp_nil rfl
  refine drawn_jumble (fuel := 3) (D := D45) [0, 1, 4, 7, 13, 17] (fun i v W => Made w (C45 s n f t i) v W) RowsStay (fun W => OwB w [(b0, .cells xs 48)] W) (by kernel_rfl) (fun i v W W' h R => h.rest R) HV.out.drew ?_ ?_
  · intro i hi x W hO hR
    have f0 := hO.nth 0 rfl
    have t0 := World.at_lt f0
    have HO := Lib.hid hO
    have HR := Lib.hid hR
    clear hO hR
    simp only [List.mem_cons, List.not_mem_nil, or_false] at hi
    have lw : w.heap.size ≤ W.heap.size := HO.out.fr.size
    rcases hi with rfl | rfl | rfl | rfl | rfl | rfl
    · refine wpOp_ofList rfl fun K hK => ?_
      simp only [fillA, fillT, d0, d1, d4, d7, d13, d17]
      go_wp2_with fail
      exact ⟨_, by kernel_rfl, Made.alloc [107, 101, 121] lw, .ofFr ((Fr.refl [] _).alloc _), HO.out.call ((Fr.refl [] _).alloc _), .inr (by go_simp)⟩
    · obtain ⟨b, fr, hx0, hb, hl⟩ := HR.out 0 (by simp) (by kernel_rfl)
      obtain ⟨fr', hc⟩ := run_convert_any 3 3 hb Tryz.underlying49 Tryz.underlying5
      refine wpOp_ofList rfl fun K hK => ?_
      simp only [fillA, fillT, d0, d1, d4, d7, d13, d17]
      have hx0' : x 0 = .slice (some ⟨b, 0, none⟩) 3 3 := hx0
      rw [hx0']
      have hne : b ≠ b0 := fun e => by
        subst e
        rw [f0] at hb
        cases hb
      go_wp2_with fail
      exact ⟨_, by simp only [fillA, fillT, d0, d1, d4, d7, d13, d17]; rw [hx0']; rfl, ⟨b, fr', rfl, World.at_put_same _ _ _ (World.at_lt hb), hl⟩, .mark hb, HO.out.put_out _ hl (by simpa using hne), .inr (by rw [World.at_put_other _ _ _ _ hne]; exact f0)⟩
    · refine wpOp_ofList rfl fun K hK => ?_
      simp only [fillA, fillT, d0, d1, d4, d7, d13, d17]
      go_wp2_with fail
      exact ⟨_, by kernel_rfl, Made.alloc [(s : Int)] lw, .ofFr ((Fr.refl [] _).alloc _), HO.out.call ((Fr.refl [] _).alloc _), .inr (by go_simp)⟩
    · refine wpOp_ofList rfl fun K hK => ?_
      simp only [fillA, fillT, d0, d1, d4, d7, d13, d17]
      go_wp2_with fail
      exact ⟨_, by kernel_rfl, Made.alloc [(n : Int)] lw, .ofFr ((Fr.refl [] _).alloc _), HO.out.call ((Fr.refl [] _).alloc _), .inr (by go_simp)⟩
    · refine wpOp_ofList rfl fun K hK => ?_
      simp only [fillA, fillT, d0, d1, d4, d7, d13, d17]
      go_wp2_with fail
      refine (rnum_b (n := f) (s := 4) (by omega) (by omega) (by omega)).mono ?_
      rintro e U ⟨bn, rfl, gb, lb, F⟩
      go_wp2_with fail
      exact ⟨_, by kernel_rfl, ⟨bn, (0, 0), by rw [show (C45 s n f t 13).length = 4 from putB_len _ _], gb, Nat.le_trans lw lb⟩, .ofFr F, HO.out.call F, .inr (F.get f0 (by simp))⟩
    · refine wpOp_ofList rfl fun K hK => ?_
      simp only [fillA, fillT, d0, d1, d4, d7, d13, d17]
      go_wp2_with fail
      refine (rnum_b (n := t) (s := 4) (by omega) (by omega) (by omega)).mono ?_
      rintro e U ⟨bn, rfl, gb, lb, F⟩
      go_wp2_with fail
      exact ⟨_, by kernel_rfl, ⟨bn, (0, 0), by rw [show (C45 s n f t 17).length = 4 from putB_len _ _], gb, Nat.le_trans lw lb⟩, .ofFr F, HO.out.call F, .inr (F.get f0 (by simp))⟩
  · intro x W hO hR
    simp only [fillA, fillT, d0, d1, d4, d7, d13, d17]
    have r1 := hR 1 (by simp)
    have r4 := hR 4 (by simp)
    have r7 := hR 7 (by simp)
    have r13 := hR 13 (by simp)
    have r17 := hR 17 (by simp)
    generalize x 0 = y0
    generalize x 1 = y1 at r1 ⊢
    generalize x 4 = y4 at r4 ⊢
    generalize x 7 = y7 at r7 ⊢
    generalize x 13 = y13 at r13 ⊢
    generalize x 17 = y17 at r17 ⊢
    obtain ⟨b1, fr1, rfl, g1, _⟩ := r1
    obtain ⟨b4, fr4, rfl, g4, _⟩ := r4
    obtain ⟨b7, fr7, rfl, g7, _⟩ := r7
    obtain ⟨b13, fr13, rfl, g13, _⟩ := r13
    obtain ⟨b17, fr17, rfl, g17, _⟩ := r17
    rw [show (C45 s n f t 1).length = 3 from rfl, show (C45 s n f t 4).length = 1 from rfl, show (C45 s n f t 7).length = 1 from rfl, show (C45 s n f t 13).length = 4 from putB_len _ _, show (C45 s n f t 17).length = 4 from putB_len _ _]
    have G1 := Lib.hid g1
    have G4 := Lib.hid g4
    have G7 := Lib.hid g7
    have G13 := Lib.hid g13
    have G17 := Lib.hid g17
    clear g1 g4 g7 g13 g17
    have HO := Lib.hid hO
    have f0 := hO.nth 0 rfl
    have t0 := World.at_lt f0
    clear hR hO
    refine drawn_next 18 (fuel := 2) rfl (by kernel_rfl) ?_
    intro K hK
    go_wp2_with fail
    refine ⟨by go_simp, ?_⟩
    refine named_world (A := fun X => OwB w [(W.heap.size, .cells #[.slice (some ⟨b1, 0, none⟩) 3 3, .slice (some ⟨b4, 0, none⟩) 1 1, .slice (some ⟨b7, 0, none⟩) 1 1, .slice (some ⟨b0, 2, none⟩) 32 32, .slice (some ⟨b13, 0, none⟩) 4 4, .slice (some ⟨b17, 0, none⟩) 4 4] 49), (b0, .cells xs 48)] X ∧ Fr [] W X) (Q := fun X => Go.Dr.wpAnyS Tryz.prog .any _ _ _ _ _ _ _ X) ⟨HO.out.allocN _ W.heap.size rfl, (Fr.refl [] _).alloc _⟩ ?_
    rintro U ⟨hO, F⟩
    generalize W.heap.size = bx at hO ⊢
    have e1 : putB s 1 = [(s : Int)] := by simp [putB]; omega
    have e2 : putB n 1 = [(n : Int)] := by simp [putB]; omega
    have S : Sll U (some ⟨bx, 0, none⟩) 6 6 [[107, 101, 121], putB s 1, putB n 1, key, putB f 4, putB t 4] := by
      refine Sll.of (vs := [.slice (some ⟨b1, 0, none⟩) 3 3, .slice (some ⟨b4, 0, none⟩) 1 1, .slice (some ⟨b7, 0, none⟩) 1 1, .slice (some ⟨b0, 2, none⟩) 32 32, .slice (some ⟨b13, 0, none⟩) 4 4, .slice (some ⟨b17, 0, none⟩) 4 4]) ⟨rfl, Nat.le_refl 6, .inr ⟨bx, 0, _, 49, (0, 0), rfl, hO.nth 0 rfl, by simp, by simp⟩, by simp, fun a ha => ⟨_, _, (by simpa using ha.symm)⟩⟩ ?_
      rw [e1, e2]
      exact .cons (Sl.whole (A := [107, 101, 121]) (F.get G1.out (by simp)) rfl) (.cons (Sl.whole (A := [(s : Int)]) (F.get G4.out (by simp)) rfl) (.cons (Sl.whole (A := [(n : Int)]) (F.get G7.out (by simp)) rfl) (.cons (sl_ext (hO.nth 1 rfl) (by omega) HX2.out) (.cons (Sl.whole (F.get G13.out (by simp)) (putB_len _ _)) (.cons (Sl.whole (F.get G17.out (by simp)) (putB_len _ _)) .nil)))))
    have HS := Lib.hid S
    have HF := Lib.hid hO
    clear f0 t0 S hO F e1 e2
    have f0 := HF.out.nth 1 rfl
    have t0 := World.at_lt f0
    refine drawn_next 19 (fuel := 1) rfl (by kernel_rfl) ?_
    intro K hK
    go_wp2_with fail
    refine (rall_f HS.out (by simp [fits, putB_len, hk])).mono ?_
    rintro e Z ⟨q, m, c, rfl, B⟩
    have HB := Lib.hid B
    have HF2 := Lib.hid (HF.out.call B.own.fr)
    clear f0 t0 B
    have f0 := HF2.out.nth 1 rfl
    have t0 := World.at_lt f0
    go_wp2_with fail
    refine ⟨f0, ?_⟩
    refine drawn_end rfl (by kernel_rfl) ?_
    intro K hK
    go_wp2_with fail
    rw [HE.out]
    exact bodyPost_ret (results_tmp rfl _ _ _) rfl ⟨q, m, c, rfl, HB.out.lift (((OwB.start w).call HF.out.fr))⟩
end
end Go.Proofs.YtbhnfohoclcjdaaGreat
namespace Go.Proofs.YtbhnfohoclcjdaaGreat
open Go.RowKit Go.Dr Go.Kd
section
variable {w : World}
theorem rotext_v {x : Ob} {v : Value} (h : ObK x) (hv : v.oneCell' = true) : Calls Tryz.prog 45 #[.agg (oC x v)] w fun e w' => ∃ q m c, e = .returned (.slice q m c) ∧ Bld w [] .u8 5 w' q m c (objText x) := by
  obtain ⟨server, n, key, frm, til, sig, vs⟩ := x
  obtain ⟨s0, s1, n0, n1, f0, f1, t0, t1, kl, sl, kb, sb⟩ := h
  simp only at *
  obtain ⟨s, rfl⟩ := Int.eq_ofNat_of_zero_le s0
  obtain ⟨m, rfl⟩ := Int.eq_ofNat_of_zero_le n0
  obtain ⟨f, rfl⟩ := Int.eq_ofNat_of_zero_le f0
  obtain ⟨t, rfl⟩ := Int.eq_ofNat_of_zero_le t0
  exact rotext_n (by omega) (by omega) (by omega) (by omega) kl sl hv
set_option maxRecDepth 100000 in
set_option maxHeartbeats 2000000 in
theorem dosign_v {lo tb : Nat} {T : List Tm} {k : List Int} {x : Ob} {v : Value} (h : DTabP lo tb w T) (hk : k.length = 32) (hb : isBytes k) (hx : ObK x) (hv : v.oneCell' = true) :
    Calls Tryz.prog 15 #[SU tb, .agg (ints .u8 k), .agg (oC x v)] w fun e w' => e = .returned (.agg (oC { x with sig := (signF T k (objText x)).2 } v)) ∧ DTabP lo tb w' (signF T k (objText x)).1 ∧ FrD lo w w' := by
  have H := Lib.hid h
  have HB := Lib.hid hb
  obtain ⟨xs, hxs⟩ : ∃ xs, xs = oC x v := ⟨_, rfl⟩
  have hsz : xs.size = 101 := by rw [hxs, List.size_toArray, cObject_length _ _ _ _ _ _ _ hx.kl hx.sl]
  have xall : xs.extract 0 101 = xs := by rw [← hsz]; exact Array.extract_size
  rw [← hxs]
  have c1 : ∀ W : World, Calls Tryz.prog 45 #[.agg xs] W fun e w' => ∃ q m c, e = .returned (.slice q m c) ∧ Bld W [] .u8 5 w' q m c (objText x) := fun W => by rw [hxs]; exact rotext_v hx hv
  have C1 := Lib.hid c1
  clear c1
  have HX := Lib.hid hxs
  have HO := Lib.hid hx
  clear h hb hxs hx
  go_enter Tryz.func15, Tryz.ntmps15
  have hz : Tryz.zeroCells48.size = 101 := by kernel_rfl
  go_upto_region 1 with (fail)
  refine named_world (A := fun X => OwB w [(w.heap.size + 1 + 1 + 1, .cells Tryz.zeroCells48 48), (w.heap.size + 1 + 1, .cells xs 48), (w.heap.size + 1, .cells (ints .u8 k) 33), (w.heap.size, .cells #[.pointer (some ⟨tb, 0, none⟩)] 31)] X) (Q := fun X => Code.wp _ _ _ _ X) (((((OwB.start w).allocN _ w.heap.size rfl).allocN _ (w.heap.size + 1) (by simp)).allocN _ (w.heap.size + 1 + 1) (by simp)).allocN _ (w.heap.size + 1 + 1 + 1) (by simp)) ?_
  intro U hU
  generalize w.heap.size + 1 + 1 + 1 = b6 at hU ⊢
  generalize w.heap.size + 1 + 1 = b5 at hU ⊢
  generalize w.heap.size + 1 = b4 at hU ⊢
  generalize w.heap.size = b3 at hU ⊢
  have f5 := hU.nth 1 rfl
  have f4 := hU.nth 2 rfl
  have f3 := hU.nth 3 rfl
  have t5 := World.at_lt f5
  have t4 := World.at_lt f4
  have t3 := World.at_lt f3
  have HU := Lib.hid hU
  clear hU
  refine drawn_begin 5 (fun w' => w'.blk b3 = some (.cells #[.pointer (some ⟨tb, 0, none⟩)] 31) ∧ w'.blk b4 = some (.cells (ints .u8 k) 33) ∧ w'.blk b5 = some (.cells xs 48)) (by kernel_rfl) ?_
  refine drawn_reads (fuel := 4) [0, 1, 2] rfl (by kernel_rfl) ⟨f3, f4, f5⟩ ?_
  repeat (first | (refine rowK_step2 rfl rfl (fun K hK => ?_); go_wp2) | (refine rowK_step rfl (fun K hK => ?_); go_simp; refine hK _ ?_; clear hK K))
  refine rowK_nil ⟨fun w' e1 => ?_, ?_⟩
  · obtain ⟨e1, e2, e3⟩ := e1
    clear f3 f4 f5
    repeat (first | (refine rowWp_step2 rfl rfl (fun K hK => ?_); go_wp2) | (refine rowWp_step rfl (fun K hK => ?_); go_simp; refine hK _ ?_; clear hK K))
    exact rowWp_nil rfl
  refine drawn_next 3 (fuel := 3) rfl (by kernel_rfl) ?_
  intro K hK
  go_wp2_with fail
  refine (C1.out _).mono ?_
  rintro e U1 ⟨q, m, c, rfl, hB⟩
  have hU1 := HU.out.drew.call hB.own.fr
  clear f3 f4 f5 t3 t4 t5
  have f5 := hU1.nth 1 rfl
  have f4 := hU1.nth 2 rfl
  have f3 := hU1.nth 3 rfl
  have t5 := World.at_lt f5
  have t4 := World.at_lt f4
  have t3 := World.at_lt f3
  have HU1 := Lib.hid hU1
  have HBt := Lib.hid hB
  clear hU1 hB
  go_wp2_with fail
  refine ⟨⟨f3, f4, f5⟩, ?_⟩
  refine drawn_next 4 (fuel := 2) rfl (by kernel_rfl) ?_
  intro K hK
  go_wp2_with fail
  refine (dsign_f (H.out.fr0 HU1.out.fr) hk HB.out HBt.out.sl (isBytes_objK HO.out) (fun X hF => Bld.slStay (t := DT) HBt.out (.inl rfl) hF.stay)).mono ?_
  rintro e U2 ⟨rfl, hT, F⟩
  have l6 := HU1.out.low 0 rfl
  have l5 := HU1.out.low 1 rfl
  have n65 := HU1.out.ne 0 1 rfl rfl (by decide)
  have n56 := n65.symm
  have FF := (FrT.of (t := DT) (lo := lo) HU1.out.fr).trans F
  have f6 := F.get (HU1.out.nth 0 rfl) (.inr ⟨by decide, by decide⟩)
  replace f5 := F.get f5 (.inr ⟨by decide, by decide⟩)
  replace f4 := F.get f4 (.inr ⟨by decide, by decide⟩)
  replace f3 := F.get f3 (.inr ⟨by decide, by decide⟩)
  clear t3 t4 t5
  have t6 := World.at_lt f6
  have t5 := World.at_lt f5
  have HT := Lib.hid hT
  have HF := Lib.hid FF
  have hsl := signF_len T k (objText x)
  obtain ⟨s2, hs2⟩ : ∃ s2, s2 = (signF T k (objText x)).2 := ⟨_, rfl⟩
  rw [← hs2] at hsl ⊢
  have HS2 := Lib.hid hs2
  obtain ⟨ys, hys⟩ : ∃ ys, ys = oC { x with sig := s2 } v := ⟨_, rfl⟩
  have xspl : spl xs 36 (s2.map (Value.int .u8)) = ys := by rw [HX.out, hys]; exact cObject_spl_sig _ _ _ _ _ _ _ _ HO.out.kl HO.out.sl hsl
  have hszy : ys.size = 101 := by rw [hys, List.size_toArray, cObject_length _ _ _ _ _ _ _ HO.out.kl hsl]
  have yall : ys.extract 0 101 = ys := by rw [← hszy]; exact Array.extract_size
  have yones : ones ys.toList = true := by rw [hys]; exact List.all_eq_true.2 (cObject_one _ _ _ _ _ _ _ rfl rfl rfl rfl hv)
  have HY := Lib.hid hys
  clear hT F FF hs2 hys
  go_wp2_with fail
  refine ⟨⟨f3, f4, f5⟩, ?_⟩
  refine drawn_end rfl (by kernel_rfl) ?_
  intro K hK
  go_wp2_with fail
  refine ret_cell rfl rfl rfl ?_
  go_simp
  exact ⟨by kernel_rfl, by rw [HY.out, HS2.out], (HT.out.put f5 (by decide) _).put (by rw [World.at_put_other _ _ _ _ n56]; exact f6) (by decide) _, (HF.out.put _ l5).put _ l6⟩
end
end Go.Proofs.YtbhnfohoclcjdaaGreat
namespace Go.Proofs.YtbhnfohoclcjdaaGreat
open Go.RowKit Go.Dr Go.Kd
theorem sll_three {V : World} {b1 b2 bx : Nat} {A B C : List Int} {na nb m c : Nat} {q : Option Addr} {T1 T2 T5 : TypeId} {fr1 fr2 fr5 : Nat × Nat} (h1 : V.blk b1 = some (.cells (ints .u8 A) T1 fr1)) (ha : A.length = na) (h2 : V.blk b2 = some (.cells (ints .u8 B) T2 fr2)) (hb : B.length = nb) (h3 : Sl .u8 V q m c C)
    (hx : V.blk bx = some (.cells #[.slice (some ⟨b1, 0, none⟩) na na, .slice (some ⟨b2, 0, none⟩) nb nb, .slice q m c] T5 fr5)) :
    Sll V (some ⟨bx, 0, none⟩) 3 3 [A, B, C] :=
  Sll.of (vs := [.slice (some ⟨b1, 0, none⟩) na na, .slice (some ⟨b2, 0, none⟩) nb nb, .slice q m c]) ⟨rfl, Nat.le_refl 3, .inr ⟨bx, 0, _, T5, fr5, rfl, hx, by simp, by simp⟩, by simp, fun a ha => ⟨_, _, (by simpa using ha.symm)⟩⟩ (.cons (Sl.whole h1 ha) (.cons (Sl.whole h2 hb) (.cons h3 .nil)))
theorem fits_vouch {x : Ob} (n : Int) (h : x.key.length = 32) : fits [[118, 111, 117, 99, 104], [n], objText x] = true := by
  simp [fits, objText_length x h]
section
variable {w : World}
set_option maxRecDepth 100000 in
set_option maxHeartbeats 2000000 in
theorem vtext_v {x : Ob} {v : Value} {n : Int} (h : ObK x) (hv : v.oneCell' = true) : Calls Tryz.prog 46 #[.agg (oC x v), .int .u8 n] w fun e w' => ∃ q m c, e = .returned (.slice q m c) ∧ Bld w [] .u8 5 w' q m c (vouchText x n) := by
  obtain ⟨xs, hxs⟩ : ∃ xs, xs = oC x v := ⟨_, rfl⟩
  have hsz : xs.size = 101 := by rw [hxs, List.size_toArray, cObject_length _ _ _ _ _ _ _ h.kl h.sl]
  have xall : xs.extract 0 101 = xs := by rw [← hsz]; exact Array.extract_size
  rw [← hxs]
  have c1 : ∀ W : World, Calls Tryz.prog 44 #[.agg xs] W fun e w' => ∃ q m c, e = .returned (.slice q m c) ∧ Bld W [] .u8 5 w' q m c (objText x) := fun W => by rw [hxs]; exact otext_v h hv
  have C1 := Lib.hid c1
  have HO := Lib.hid h
  clear hxs c1 h
  have hconv : (convert 49 49 (.slice (some ⟨w.heap.size + 1, 0, none⟩) 5 5)).run Tryz.prog ((w.alloc (.cells xs 48)).alloc (.cells #[.int .u8 118, .int .u8 111, .int .u8 117, .int .u8 99, .int .u8 104] 5)) =
      .ok (.slice (some ⟨w.heap.size + 1, 0, none⟩) 5 5) ((w.alloc (.cells xs 48)).alloc (.cells #[.int .u8 118, .int .u8 111, .int .u8 117, .int .u8 99, .int .u8 104] 5 (5, 6))) := by
    have := Lib.run_convert_bytes_const (P := Tryz.prog) (w.alloc (.cells xs 48)) 49 5 #[.int .u8 118, .int .u8 111, .int .u8 117, .int .u8 99, .int .u8 104] 5 5 Tryz.underlying49 Tryz.underlying5
    rw [World.size_alloc] at this
    exact this
  go_enter Tryz.func46, Tryz.ntmps46
  go_wp2_with fail
  refine named_world (A := fun X => OwB w [(w.heap.size + 1 + 1, .cells #[.int .u8 n] 5), (w.heap.size + 1, .cells #[.int .u8 118, .int .u8 111, .int .u8 117, .int .u8 99, .int .u8 104] 5 (5, 6)), (w.heap.size, .cells xs 48)] X) (Q := fun X => Calls Tryz.prog 44 _ X _) ((((OwB.start w).allocN _ w.heap.size rfl).allocN _ (w.heap.size + 1) (by simp)).allocN _ (w.heap.size + 1 + 1) (by simp)) ?_
  clear hconv
  intro U hU
  generalize w.heap.size + 1 + 1 = b2 at hU ⊢
  generalize w.heap.size + 1 = b1 at hU ⊢
  generalize w.heap.size = b0 at hU ⊢
  have HU := Lib.hid hU
  clear hU
  refine (C1.out U).mono ?_
  rintro e V ⟨q, m, c, rfl, B⟩
  have HV := Lib.hid (HU.out.call B.own.fr)
  have HB := Lib.hid B
  clear B
  go_wp2_with fail
  refine named_world (A := fun X => OwB w [(V.heap.size + 1, .cells #[.slice (some ⟨V.heap.size, 0, none⟩) 3 3, .bool false] 160), (V.heap.size, .cells #[.slice (some ⟨b1, 0, none⟩) 5 5, .slice (some ⟨b2, 0, none⟩) 1 1, .slice q m c] 49), (b2, .cells #[.int .u8 n] 5), (b1, .cells #[.int .u8 118, .int .u8 111, .int .u8 117, .int .u8 99, .int .u8 104] 5 (5, 6)), (b0, .cells xs 48)] X ∧ Fr [] V X) (Q := fun X => Calls Tryz.prog 87 _ X _) ⟨(HV.out.allocN _ V.heap.size rfl).allocN _ (V.heap.size + 1) (by simp), ((Fr.refl [] _).alloc _).alloc _⟩ ?_
  rintro W ⟨hW, F⟩
  generalize V.heap.size + 1 = b4 at hW ⊢
  generalize V.heap.size = b3 at hW ⊢
  have S := sll_three (A := [118, 111, 117, 99, 104]) (B := [n]) (hW.nth 3 rfl) rfl (hW.nth 2 rfl) rfl (HB.out.call F).sl (hW.nth 1 rfl)
  refine (done_f (hW.nth 0 rfl) S (fits_vouch n HO.out.kl)).mono ?_
  rintro e Z ⟨q2, m2, c2, rfl, B2⟩
  have HB2 := Lib.hid B2
  have HW := Lib.hid hW
  clear S B2 hW F
  go_wp2_with fail
  exact bodyPost_ret (results_tmp rfl _ _ _) rfl ⟨q2, m2, c2, rfl, HB2.out.lift ((OwB.start w).call HW.out.fr)⟩
end
end Go.Proofs.YtbhnfohoclcjdaaGreat
namespace Go.Proofs.YtbhnfohoclcjdaaGreat
open Go.RowKit Go.Dr Go.Kd
section
variable {w : World}
set_option maxRecDepth 100000 in
set_option maxHeartbeats 2000000 in
theorem rvtext_v {x : Ob} {v : Value} {n : Int} (h : ObK x) (hv : v.oneCell' = true) : Calls Tryz.prog 47 #[.agg (oC x v), .int .u8 n] w fun e w' => ∃ q m c, e = .returned (.slice q m c) ∧ Bld w [] .u8 5 w' q m c (vouchText x n) := by
  obtain ⟨xs, hxs⟩ : ∃ xs, xs = oC x v := ⟨_, rfl⟩
  have hsz : xs.size = 101 := by rw [hxs, List.size_toArray, cObject_length _ _ _ _ _ _ _ h.kl h.sl]
  have xall : xs.extract 0 101 = xs := by rw [← hsz]; exact Array.extract_size
  rw [← hxs]
  have c1 : ∀ W : World, Calls Tryz.prog 45 #[.agg xs] W fun e w' => ∃ q m c, e = .returned (.slice q m c) ∧ Bld W [] .u8 5 w' q m c (objText x) := fun W => by rw [hxs]; exact rotext_v h hv
  have C1 := Lib.hid c1
  have HO := Lib.hid h
  clear hxs c1 h
  have hconv : (convert 49 49 (.slice (some ⟨w.heap.size + 1, 0, none⟩) 5 5)).run Tryz.prog ((w.alloc (.cells xs 48)).alloc (.cells #[.int .u8 118, .int .u8 111, .int .u8 117, .int .u8 99, .int .u8 104] 5)) =
      .ok (.slice (some ⟨w.heap.size + 1, 0, none⟩) 5 5) ((w.alloc (.cells xs 48)).alloc (.cells #[.int .u8 118, .int .u8 111, .int .u8 117, .int .u8 99, .int .u8 104] 5 (5, 6))) := by
    have := Lib.run_convert_bytes_const (P := Tryz.prog) (w.alloc (.cells xs 48)) 49 5 #[.int .u8 118, .int .u8 111, .int .u8 117, .int .u8 99, .int .u8 104] 5 5 Tryz.underlying49 Tryz.underlying5
    rw [World.size_alloc] at this
    exact this
  go_enter Tryz.func47, Tryz.ntmps47
  go_wp2_with fail
  refine named_world (A := fun X => OwB w [(w.heap.size + 1 + 1, .cells #[.int .u8 n] 5), (w.heap.size + 1, .cells #[.int .u8 118, .int .u8 111, .int .u8 117, .int .u8 99, .int .u8 104] 5 (5, 6)), (w.heap.size, .cells xs 48)] X) (Q := fun X => Calls Tryz.prog 45 _ X _) ((((OwB.start w).allocN _ w.heap.size rfl).allocN _ (w.heap.size + 1) (by simp)).allocN _ (w.heap.size + 1 + 1) (by simp)) ?_
  clear hconv
  intro U hU
  generalize w.heap.size + 1 + 1 = b2 at hU ⊢
  generalize w.heap.size + 1 = b1 at hU ⊢
  generalize w.heap.size = b0 at hU ⊢
  have HU := Lib.hid hU
  clear hU
  refine (C1.out U).mono ?_
  rintro e V ⟨q, m, c, rfl, B⟩
  have HV := Lib.hid (HU.out.call B.own.fr)
  have HB := Lib.hid B
  clear B
  go_wp2_with fail
  refine named_world (A := fun X => OwB w [(V.heap.size, .cells #[.slice (some ⟨b1, 0, none⟩) 5 5, .slice (some ⟨b2, 0, none⟩) 1 1, .slice q m c] 49), (b2, .cells #[.int .u8 n] 5), (b1, .cells #[.int .u8 118, .int .u8 111, .int .u8 117, .int .u8 99, .int .u8 104] 5 (5, 6)), (b0, .cells xs 48)] X ∧ Fr [] V X) (Q := fun X => Calls Tryz.prog 57 _ X _) ⟨HV.out.allocN _ V.heap.size rfl, (Fr.refl [] _).alloc _⟩ ?_
  rintro W ⟨hW, F⟩
  generalize V.heap.size = b3 at hW ⊢
  have S := sll_three (A := [118, 111, 117, 99, 104]) (B := [n]) (hW.nth 2 rfl) rfl (hW.nth 1 rfl) rfl (HB.out.call F).sl (hW.nth 0 rfl)
  refine (rall_f S (fits_vouch n HO.out.kl)).mono ?_
  rintro e Z ⟨q2, m2, c2, rfl, B2⟩
  have HB2 := Lib.hid B2
  have HW := Lib.hid hW
  clear S B2 hW F
  go_wp2_with fail
  exact bodyPost_ret (results_tmp rfl _ _ _) rfl ⟨q2, m2, c2, rfl, HB2.out.lift ((OwB.start w).call HW.out.fr)⟩
end
end Go.Proofs.YtbhnfohoclcjdaaGreat
