/- Joined: KeK, KeL, KeM. -/
import Derived.Test.YtbhnfohoclcjdaaGreatZl
set_option linter.unusedVariables false
set_option linter.unusedSimpArgs false
namespace Go.Proofs.YtbhnfohoclcjdaaGreat
open Go.RowKit Go.Dr Go.Kd
/-- Bundles one behind the other. -/
def bnsL (bs : List Bn) : List Value := bs.flatMap fun x => (bnC x).toList
/-- Numbers that rise above one. -/
def risesF : Int → List Int → Bool
  | _, [] => true
  | l, x :: xs => decide (l < x) && risesF x xs
def lastF : Int → List Int → Int
  | l, [] => l
  | _, x :: xs => lastF x xs
def goodB (T : List Tm) (dv : Nat) (k1 k2 : List Int) (x : Bn) : Bool := !(decide (x.device ≠ (dv : Int)) || decide (x.agree ≠ k1) || decide (x.signer ≠ k2) || !verifyF T x.signer (bunText x) x.sig)
/-- The code with which Stock answers. -/
def stockE (T : List Tm) (dv : Nat) (k1 k2 : List Int) (last : Int) (m : Nat) : List Bn → Int
  | [] => 141
  | b :: l => if b.id ≠ 0 then 141 else if risesF last (l.map Bn.id) = false then 141 else if (b :: l).all (goodB T dv k1 k2) = false then 191 else if 8 < l.length + m then 4 else 0
/-- What is left of a shelf when Stock has answered. -/
def Stocked (E : Int) (hs : Bool) (fall : List Value) (ls : List Bn) (last : Int) (bs : List Bn) (hs' : Bool) (fall' : List Value) (ls' : List Bn) (last' : Int) : Prop :=
  (E = 0 ∧ hs' = true ∧ ∃ b l, bs = b :: l ∧ fall' = (bnC b).toList ∧ ls' = ls ++ l ∧ last' = lastF last (l.map Bn.id)) ∨ (E ≠ 0 ∧ hs' = hs ∧ fall' = fall ∧ ls' = ls ∧ last' = last)
/-- What Stock answers. -/
def StockR (T : List Tm) (dv : Nat) (k1 k2 : List Int) (hs : Bool) (fall : List Value) (ls : List Bn) (last : Int) (m : Nat) (bs : List Bn) (w w' : World) (v : Value) : Prop :=
  ∃ r m' rc E hs' fall' ls' last', v = .tuple #[.agg (cShelf (.bool hs') fall' (.slice r m' rc) (.int .u16 last')).toArray, .int .i64 E] ∧ BldV w [] 65 162 w' r m' rc (bnsL ls') ∧ E = stockE T dv k1 k2 last m bs ∧ Stocked E hs fall ls last bs hs' fall' ls' last'
section
variable {T : List Tm} {dv : Nat} {k1 k2 : List Int} {last : Int} {m : Nat} {b : Bn} {l : List Bn}
theorem stockE_id (h : b.id ≠ 0) : stockE T dv k1 k2 last m (b :: l) = 141 := if_pos h
theorem stockE_rise (h : b.id = 0) (h2 : risesF last (l.map Bn.id) = false) : stockE T dv k1 k2 last m (b :: l) = 141 := (if_neg (not_not_intro h)).trans (if_pos h2)
theorem stockE_good (h : b.id = 0) (h2 : risesF last (l.map Bn.id) = true) (h3 : (b :: l).all (goodB T dv k1 k2) = false) : stockE T dv k1 k2 last m (b :: l) = 191 := (if_neg (not_not_intro h)).trans ((if_neg (by rw [h2]; decide)).trans (if_pos h3))
theorem stockE_full (h : b.id = 0) (h2 : risesF last (l.map Bn.id) = true) (h3 : (b :: l).all (goodB T dv k1 k2) = true) (h4 : 8 < l.length + m) : stockE T dv k1 k2 last m (b :: l) = 4 := (if_neg (not_not_intro h)).trans ((if_neg (by rw [h2]; decide)).trans ((if_neg (by rw [h3]; decide)).trans (if_pos h4)))
theorem stockE_ok (h : b.id = 0) (h2 : risesF last (l.map Bn.id) = true) (h3 : (b :: l).all (goodB T dv k1 k2) = true) (h4 : ¬ 8 < l.length + m) : stockE T dv k1 k2 last m (b :: l) = 0 := (if_neg (not_not_intro h)).trans ((if_neg (by rw [h2]; decide)).trans ((if_neg (by rw [h3]; decide)).trans (if_neg h4)))
end
theorem risesF_drop {l x : Int} {ids : List Int} {i : Nat} (h : ids[i]? = some x) : risesF l (ids.drop i) = (decide (l < x) && risesF x (ids.drop (i + 1))) := by
  have hi := (List.getElem?_eq_some_iff.1 h).1
  rw [List.drop_eq_getElem_cons hi, (List.getElem?_eq_some_iff.1 h).2]
  rfl
theorem lastF_drop {l x : Int} {ids : List Int} {i : Nat} (h : ids[i]? = some x) : lastF l (ids.drop i) = lastF x (ids.drop (i + 1)) := by
  have hi := (List.getElem?_eq_some_iff.1 h).1
  rw [List.drop_eq_getElem_cons hi, (List.getElem?_eq_some_iff.1 h).2]
  rfl
theorem all_false {T : List Tm} {dv : Nat} {k1 k2 : List Int} {x : Bn} {l : List Bn} (h : x ∈ l) (h2 : goodB T dv k1 k2 x = false) : l.all (goodB T dv k1 k2) = false := by
  rw [List.all_eq_false]
  exact ⟨x, h, by rw [h2]; decide⟩
theorem BldV.lift {w0 w w' : World} {L : List (Nat × Obj)} {e sz : Nat} {p : Option Addr} {n cap : Nat} {l : List Value} (h : BldV w [] e sz w' p n cap l) (hV : OwB w0 L w) : BldV w0 L e sz w' p n cap l :=
  ⟨hV.call h.own.fr, h.row, fun g hg => ⟨Nat.le_trans hV.fr.size (h.new g hg).1, fun hm => by
    obtain ⟨q, hq, rfl⟩ := List.mem_map.1 hm
    have h1 := World.at_lt (hV.has q hq)
    have h2 := (h.new q.1 hg).1
    omega⟩⟩
/-- All but the first. -/
theorem sv_rest2 {sz : Nat} {w : World} {g o m c : Nat} {u us : List Value} (S : Sv sz w (some ⟨g, o, none⟩) m c (u ++ us)) (hu : u.length = sz) (hm : 0 < m) : Sv sz w (if c = 1 then some ⟨g, o, none⟩ else some ⟨g, o + sz, none⟩) (m - 1) (c - 1) us := by
  have hl := S.len
  have hc := S.cap_
  have hsm : sz ≤ m * sz := Nat.le_mul_of_pos_left _ hm
  have hl2 : us.length = (m - 1) * sz := by rw [List.length_append] at hl; rw [Nat.sub_mul]; omega
  refine ⟨hl2, by omega, ?_, ?_, ?_⟩
  · rcases Nat.eq_zero_or_pos (m - 1) with h0 | h0
    · exact .inl h0
    · rcases S.row with h | ⟨b, off, cs, T, fr, hp, hb, hs, hx⟩
      · omega
      · simp only [Option.some.injEq, Addr.mk.injEq, and_true] at hp
        obtain ⟨rfl, rfl⟩ := hp
        refine .inr ⟨g, o + sz, cs, T, fr, by rw [if_neg (by omega)], hb, ?_, ?_⟩
        · rw [Nat.sub_mul]; omega
        · have e : (cs.extract (o + sz) (o + sz + (m - 1) * sz)).toList = ((cs.extract o (o + m * sz)).toList).drop sz := by
            simp only [Array.toList_extract, List.extract_eq_take_drop]
            rw [List.drop_take, List.drop_drop]
            congr 1
            rw [Nat.sub_mul]; omega
          rw [e, hx, ← hu, List.drop_left]
  · intro h; split at h <;> cases h
  · intro a ha
    split at ha
    · exact ⟨g, o, by simpa using ha.symm⟩
    · exact ⟨g, o + sz, by simpa using ha.symm⟩
theorem bnsL_one (bs : List Bn) : ∀ u ∈ bnsL bs, u.oneCell' = true := fun u hu => by
  obtain ⟨x, _, hx⟩ := List.mem_flatMap.1 hu
  exact cBundle_one _ _ _ _ _ _ rfl rfl u hx
theorem bnsL_append (a b : List Bn) : bnsL (a ++ b) = bnsL a ++ bnsL b := List.flatMap_append
theorem bnC_size {x : Bn} (h : BnOk x) : (bnC x).size = 162 := by rw [List.size_toArray, cBundle_length _ _ _ _ _ _ h.al h.sl h.ol h.gl]
theorem bnsL_length {bs : List Bn} (h : ∀ x ∈ bs, BnOk x) : (bnsL bs).length = bs.length * 162 := by
  induction bs with
  | nil => rfl
  | cons x bs ih =>
    rw [bnsL, List.flatMap_cons, List.length_append, Array.length_toList, bnC_size (h x (by simp)), show (List.flatMap (fun x => (bnC x).toList) bs).length = bs.length * 162 from ih (fun y hy => h y (by simp [hy])), List.length_cons, Nat.add_mul]
    omega
/-- One of the bundles. -/
theorem Lf.elem {w : World} {q : Option Addr} {n c : Nat} {bs : List Bn} (h : Lf w q n c (bnsL bs)) (hb : ∀ x ∈ bs, BnOk x) (hl : bs.length = n) {j : Nat} (hj : j < n) :
    ∃ x b off cs T fr, bs[j]? = some x ∧ q = some ⟨b, off, none⟩ ∧ w.blk b = some (.cells cs T fr) ∧ off + n * 162 ≤ cs.size ∧ off + j * 162 + 162 ≤ cs.size ∧ cs.extract (off + j * 162) (off + j * 162 + 162) = bnC x := by
  rcases h with ⟨_, h0, _⟩ | ⟨a, rfl, S⟩
  · omega
  · obtain ⟨b, off, cs, T, fr, h1, h2, h3, h4, h5⟩ := S.elem hj
    obtain ⟨x, hx⟩ : ∃ x, bs[j]? = some x := ⟨bs[j]'(by omega), List.getElem?_eq_getElem _⟩
    refine ⟨x, b, off, cs, T, fr, hx, h1, h2, h3, h4, ?_⟩
    rw [h5, bnsL, flatMap_part (fun x => (bnC x).toList) 162 bs j x (fun y hy => by rw [Array.length_toList, bnC_size (hb y hy)]) hx]
theorem Lf.len {w : World} {q : Option Addr} {n c : Nat} {bs : List Bn} (h : Lf w q n c (bnsL bs)) (hb : ∀ x ∈ bs, BnOk x) : bs.length = n := by
  have h1 := bnsL_length hb
  rcases h with ⟨_, h0, _, h2⟩ | ⟨a, rfl, S⟩
  · rw [h2] at h1
    simp only [List.length_nil] at h1
    omega
  · have := S.len
    omega
theorem el_ext {cs A : Array Value} {o z i : Nat} (h : cs.extract o (o + z) = A) (hs : o + z ≤ cs.size) (hi : i < z) : cs[o + i]? = A[i]? := by
  rw [← h, Array.getElem?_extract_of_lt (by omega), ← Array.getElem?_eq_getElem]
section
variable {w : World}
set_option maxRecDepth 100000 in
set_option maxHeartbeats 2000000 in
theorem stock_f {lo tb : Nat} {T : List Tm} {hs : Bool} {fall : List Value} {ls bs : List Bn} {p q : Option Addr} {m n cap c : Nat} {last : Int} {dv : Nat} {k1 k2 : List Int} (h : TabP lo tb w T)
    (hf : fall.length = 162) (hfo : ∀ v ∈ fall, v.oneCell' = true) (SL : Lf w p m cap (bnsL ls)) (hm : m ≤ 1000) (SB : Lf w q n c (bnsL bs)) (hn : n ≤ 1000) (hbo : ∀ x ∈ bs, BnOk x) (hk1 : k1.length = 32) (hk2 : k2.length = 32) (hdv : dv < 256) (hl0 : 0 ≤ last) (hl1 : last < 65536) :
    Calls Tryz.prog 28 #[SU tb, .agg (cShelf (.bool hs) fall (.slice p m cap) (.int .u16 last)).toArray, .int .u8 (dv : Int), .agg (ints .u8 k1), .agg (ints .u8 k2), .slice q n c] w fun e w' => ∃ v, e = .returned v ∧ StockR T dv k1 k2 hs fall ls last m bs w w' v := by
  have H := Lib.hid h
  obtain ⟨xs, hxs⟩ : ∃ xs, xs = (cShelf (.bool hs) fall (.slice p m cap) (.int .u16 last)).toArray := ⟨_, rfl⟩
  have hsz : xs.size = 165 := by rw [hxs, List.size_toArray, cShelf_length _ _ _ _ hf]
  have x1 : xs[163]? = some (.slice p m cap) := by rw [hxs]; exact cShelf_get_left _ _ _ _ hf
  replace x1 := (Array.getElem?_eq_some_iff.1 x1).2
  have HXS := Lib.hid hxs
  rw [← hxs]
  have HSL := Lib.hid SL
  have HOL : Hid (∀ u ∈ bnsL ls, u.oneCell' = true) := Lib.hid (bnsL_one ls)
  have HSB := Lib.hid SB
  have HBO := Lib.hid hbo
  have HLB : Hid (bs.length = n) := Lib.hid (SB.len hbo)
  clear hxs SL SB h hbo
  go_enter Tryz.func28, Tryz.ntmps28
  go_wp2_with fail
  refine named_world (A := fun X => OwB w [(w.heap.size + 1 + 1 + 1 + 1, .cells Tryz.zeroCells68 68), (w.heap.size + 1 + 1 + 1, .cells (ints .u8 k2) 34), (w.heap.size + 1 + 1, .cells (ints .u8 k1) 34), (w.heap.size + 1, .cells xs 68), (w.heap.size, .cells #[.pointer (some ⟨tb, 0, none⟩)] 27)] X) (Q := fun X => Calls Tryz.prog 60 _ X _) ((((((OwB.start w).allocN _ w.heap.size rfl).allocN _ (w.heap.size + 1) (by simp)).allocN _ (w.heap.size + 1 + 1) (by simp)).allocN _ (w.heap.size + 1 + 1 + 1) (by simp)).allocN _ (w.heap.size + 1 + 1 + 1 + 1) (by simp)) ?_
  intro V hV
  generalize w.heap.size + 1 + 1 + 1 + 1 = b12 at hV ⊢
  generalize w.heap.size + 1 + 1 + 1 = b10 at hV ⊢
  generalize w.heap.size + 1 + 1 = b9 at hV ⊢
  generalize w.heap.size + 1 = b7 at hV ⊢
  generalize w.heap.size = b6 at hV ⊢
  have HV := Lib.hid hV
  clear hV
  refine (bclone_any (HSL.out.fr0 HV.out.fr) HOL.out (by omega)).mono ?_
  rintro e W ⟨r, rc, rfl, B⟩
  have HB0 := Lib.hid (BldV.lift B HV.out)
  clear B
  obtain ⟨ys, hys⟩ : ∃ ys, ys = (cShelf (.bool hs) fall (.slice r m rc) (.int .u16 last)).toArray := ⟨_, rfl⟩
  have hszy : ys.size = 165 := by rw [hys, List.size_toArray, cShelf_length _ _ _ _ hf]
  have y1 : ys[163]? = some (.slice r m rc) := by rw [hys]; exact cShelf_get_left _ _ _ _ hf
  have y2 : ys[164]? = some (.int .u16 last) := by rw [hys]; exact cShelf_get_last _ _ _ _ hf
  replace y1 := (Array.getElem?_eq_some_iff.1 y1).2
  replace y2 := (Array.getElem?_eq_some_iff.1 y2).2
  have xset : xs.setIfInBounds 163 (.slice r m rc) = ys := by rw [HXS.out, hys]; exact cShelf_set_left _ _ _ _ _ hf
  have yall : ys.extract 0 165 = ys := by rw [← hszy]; exact Array.extract_size
  have yones : ones ys.toList = true := by rw [hys]; exact List.all_eq_true.2 (cShelf_one _ _ _ _ rfl hfo rfl rfl)
  have HYS := Lib.hid hys
  have f7 := HB0.out.own.nth 3 rfl
  have t7 := World.at_lt f7
  have hz59 : Tryz.zeroCells65.size = 162 := by kernel_rfl
  have hz62 : Tryz.zeroCells68.size = 165 := by kernel_rfl
  clear hys
  go_upto_region 2 with (fail)
  refine named_world (A := fun X => BldV w [(b12, .cells Tryz.zeroCells68 68), (b10, .cells (ints .u8 k2) 34), (b9, .cells (ints .u8 k1) 34), (b7, .cells ys 68), (b6, .cells #[.pointer (some ⟨tb, 0, none⟩)] 27)] 65 162 X r m rc (bnsL ls)) (Q := fun X => Code.wp _ _ _ _ X) (HB0.out.set 3 _ rfl) ?_
  intro U hB
  have n712 : b7 ≠ b12 := hB.own.ne 3 0 rfl rfl (by decide)
  have n127 := n712.symm
  have HB := Lib.hid hB
  clear hB f7 t7 xset x1 hsz
  by_cases hn0 : n = 0
  · subst hn0
    have HBS : Hid (bs = []) := Lib.hid (List.eq_nil_of_length_eq_zero HLB.out)
    have f7 := HB.out.own.nth 3 rfl
    have t7 := World.at_lt f7
    have f12 := HB.out.own.nth 0 rfl
    have t12 := World.at_lt f12
    have HE : Hid (stockE T dv k1 k2 last m bs = 141) := Lib.hid (by rw [HBS.out]; rfl)
    have HBE := HB
    clear HB
    go_wp2_with fail
    refine ret_cell_tmp rfl rfl rfl ?_
    go_simp
    exact ⟨by kernel_rfl, r, m, rc, 141, hs, fall, ls, last, by rw [HYS.out], (HBE.out.set 0 _ rfl).sub (List.nil_sublist _), HE.out.symm, .inr ⟨by decide, rfl, rfl, rfl, rfl⟩⟩
  · obtain ⟨x0, b, off, cs, TT, fr, hx0, rfl, fcw, hs1, hs2, hext⟩ := HSB.out.elem HBO.out HLB.out (j := 0) (by omega)
    have fc := HB.out.own.fr.get fcw (by simp)
    have FCW := Lib.hid fcw
    clear fcw
    obtain ⟨l, hbs⟩ : ∃ l, bs = x0 :: l := by
      cases bs with
      | nil => cases hx0
      | cons z l => exact ⟨l, by simp at hx0; rw [hx0]⟩
    have ok0 := HBO.out x0 (by rw [hbs]; simp)
    have hid0 := el_ext (i := 65) hext hs2 (by omega)
    rw [cBundle_get_id _ _ _ _ _ _ ok0.al ok0.sl ok0.ol ok0.gl, Nat.zero_mul, Nat.add_zero] at hid0
    have dn0 : decide ((n : Int) = 0) = false := by rw [decide_eq_false_iff_not]; omega
    have dn1 : ((n : Int) == 0) = false := by rw [beq_eq_false_iff_ne]; omega
    have dn2 : decide (0 < n) = true := by rw [decide_eq_true_eq]; omega
    have HBS := Lib.hid hbs
    have HEX := Lib.hid hext
    have HOK0 := Lib.hid ok0
    have tc := World.at_lt fc
    rw [Nat.zero_mul, Nat.add_zero] at hs2
    clear hbs hext hx0 ok0
    by_cases hid : x0.id = 0
    · rw [hid] at hid0
      have hlt0 := (Array.getElem?_eq_some_iff.1 hid0).1
      replace hid0 := (Array.getElem?_eq_some_iff.1 hid0).2
      have HID := Lib.hid hid
      clear hid
      have f7 := HB.out.own.nth 3 rfl
      have t7 := World.at_lt f7
      have hn1 : decide ((1 : Int) ≤ (n : Int)) = true := by rw [decide_eq_true_eq]; omega
      have hcn : n ≤ c := by
        rcases HSB.out with ⟨_, h0, _⟩ | ⟨a, _, S⟩
        · omega
        · exact S.cap_
      go_upto_region 5 with (fail)
      go_cut [36, 37, 38, 39] (fun _ v37 v38 v39 wy => ∃ q1 c1, v37 = .slice q1 (n - 1) c1 ∧ v38 = .int .i64 ((n - 1 : Nat) : Int) ∧ v39 = .int .i64 0 ∧ Hid (n = 1 ∨ q1 = some ⟨b, off + 162, none⟩) ∧ wy = U)
      case first =>
        by_cases hc1 : c = 1
        · subst hc1
          go_wp2_with fail
          go_meet
          case rel => exact ⟨_, _, by first | rfl | (have e : n = 1 := by omega); subst e; rfl, by first | rfl | (have e : n = 1 := by omega); subst e; rfl, rfl, Lib.hid (.inl (by omega)), rfl⟩
        · go_wp2_with fail
          go_meet
          case rel => exact ⟨_, _, rfl, rfl, rfl, Lib.hid (.inr rfl), rfl⟩
      case rest =>
        obtain ⟨q1, c1, rfl, rfl, rfl, hq1, rfl⟩ := hcut
        obtain ⟨ids, hids⟩ : ∃ ids, ids = l.map Bn.id := ⟨_, rfl⟩
        have lids : ids.length = n - 1 := by
          have h1 := HLB.out
          rw [HBS.out, List.length_cons] at h1
          rw [hids, List.length_map]; omega
        have HIDS := Lib.hid hids
        have HLI := Lib.hid lids
        clear hids lids f7 t7 fc tc hn1 hcn hlt0 hid0
        go_upto_region 6 with (fail)
        go_loopw [14, 39] (fun v14 v39 wy => ∃ (i : Nat) (z : Int), i ≤ n - 1 ∧ v39 = .int .i64 (i : Int) ∧ v14 = .int .u16 z ∧ Hid (0 ≤ z ∧ z < 65536) ∧ Hid (risesF last ids = risesF z (ids.drop i) ∧ lastF last ids = lastF z (ids.drop i)) ∧ Hid (BldV w [(b12, .cells Tryz.zeroCells68 68), (b10, .cells (ints .u8 k2) 34), (b9, .cells (ints .u8 k1) 34), (b7, .cells ys 68), (b6, .cells #[.pointer (some ⟨tb, 0, none⟩)] 27)] 65 162 wy r m rc (bnsL ls))) (fun _ v39 _ => (n - intOf v39).toNat)
        case atStart => exact ⟨0, last, by omega, rfl, rfl, Lib.hid ⟨hl0, hl1⟩, Lib.hid ⟨rfl, rfl⟩, HB⟩
        case round =>
          obtain ⟨i, z, hi9, rfl, rfl, hz, hri, hBi⟩ := hrel
          by_cases hlt : i < n - 1
          · have hd : decide ((i : Int) < ((n - 1 : Nat) : Int)) = true := by rw [decide_eq_true_eq]; omega
            obtain rfl : q1 = some ⟨b, off + 162, none⟩ := by rcases hq1.out with h | h; omega; exact h
            obtain ⟨x, b', off', cs', TT', fr', hx, hq', fc', hs1', hs2', hext⟩ := HSB.out.elem HBO.out HLB.out (j := i + 1) (by omega)
            simp only [Option.some.injEq, Addr.mk.injEq, and_true] at hq'
            obtain ⟨rfl, rfl⟩ := hq'
            rw [FCW.out] at fc'
            simp only [Option.some.injEq, Obj.cells.injEq] at fc'
            obtain ⟨rfl, rfl, rfl⟩ := fc'
            have fc := hBi.out.own.fr.get FCW.out (by simp)
            rw [show off + (i + 1) * 162 = off + 162 + i * 162 by omega] at hext hs2'
            have okx := HBO.out x (List.mem_of_getElem? hx)
            obtain ⟨X, hX⟩ : ∃ X, X = bnC x := ⟨_, rfl⟩
            rw [← hX] at hext
            have hszX : X.size = 162 := by rw [hX]; exact bnC_size okx
            have xid : X[65]? = some (.int .u16 x.id) := by rw [hX]; exact cBundle_get_id _ _ _ _ _ _ okx.al okx.sl okx.ol okx.gl
            replace xid := (Array.getElem?_eq_some_iff.1 xid).2
            have xones : ones X.toList = true := by rw [hX]; exact List.all_eq_true.2 (cBundle_one _ _ _ _ _ _ rfl rfl)
            have hidi : ids[i]? = some x.id := by
              rw [HBS.out, List.getElem?_cons_succ] at hx
              rw [HIDS.out, List.getElem?_map, hx]; rfl
            have HX := Lib.hid hX
            have HIDI := Lib.hid hidi
            have HOX := Lib.hid okx
            have tc := World.at_lt fc
            clear hX hidi okx hx
            go_upto_region 8 with (fail)
            refine named_world (A := fun Y => BldV w ((wr.heap.size, .cells X 65) :: [(b12, .cells Tryz.zeroCells68 68), (b10, .cells (ints .u8 k2) 34), (b9, .cells (ints .u8 k1) 34), (b7, .cells ys 68), (b6, .cells #[.pointer (some ⟨tb, 0, none⟩)] 27)]) 65 162 Y r m rc (bnsL ls)) (Q := fun Y => Code.wp _ _ _ _ Y) (hBi.out.add ((Fr.refl [] wr).alloc _) (World.at_alloc_new _ _ _ rfl) (Nat.le_refl _)) ?_
            intro U1 hU1
            generalize wr.heap.size = bx at hU1 ⊢
            have fx := hU1.own.nth 0 rfl
            have tx := World.at_lt fx
            have HB1 := Lib.hid (hU1.sub (List.sublist_cons_self _ _))
            clear hU1 fc tc hext hs2'
            by_cases hle : x.id ≤ z
            · have dl : decide (x.id ≤ z) = true := by rw [decide_eq_true_eq]; exact hle
              have f7 := HB1.out.own.nth 3 rfl
              have t7 := World.at_lt f7
              have f12 := HB1.out.own.nth 0 rfl
              have t12 := World.at_lt f12
              have HE : Hid (stockE T dv k1 k2 last m bs = 141) := Lib.hid (by rw [HBS.out]; exact stockE_rise HID.out (by rw [← HIDS.out, hri.out.1, risesF_drop HIDI.out, decide_eq_false (by omega), Bool.false_and]))
              have HBE := HB1
              clear HB1
              go_wp2_with fail
              refine ret_cell_tmp rfl rfl rfl ?_
              go_simp
              exact ⟨by kernel_rfl, r, m, rc, 141, hs, fall, ls, last, by rw [HYS.out], (HBE.out.set 0 _ rfl).sub (List.nil_sublist _), HE.out.symm, .inr ⟨by decide, rfl, rfl, rfl, rfl⟩⟩
            · have dl : decide (x.id ≤ z) = false := by rw [decide_eq_false_iff_not]; exact hle
              go_wp2_with fail
              go_roundw
              case rel =>
                refine ⟨i + 1, x.id, by omega, by simp, rfl, Lib.hid ⟨HOX.out.i0, HOX.out.i1⟩, Lib.hid ⟨?_, ?_⟩, HB1⟩
                · rw [hri.out.1, risesF_drop HIDI.out, decide_eq_true (by omega), Bool.true_and]
                · rw [hri.out.2, lastF_drop HIDI.out]
              case measure => simp [intOf]; omega
          · obtain rfl : i = n - 1 := by omega
            have hd : decide (((n - 1 : Nat) : Int) < ((n - 1 : Nat) : Int)) = false := by simp
            have hr1 : risesF last ids = true := by rw [hri.out.1, List.drop_eq_nil_of_le (by rw [HLI.out]; omega)]; rfl
            have hl9 : lastF last ids = z := by rw [hri.out.2, List.drop_eq_nil_of_le (by rw [HLI.out]; omega)]; rfl
            have HR1 := Lib.hid hr1
            have HL9 := Lib.hid hl9
            clear hr1 hl9
            go_upto_region 13 with (fail)
            clear hlt hd hi9
            go_loopw [53] (fun v53 wy => ∃ (i : Nat), i ≤ n ∧ v53 = .int .i64 (i : Int) ∧ Hid (∀ j y, j < i → bs[j]? = some y → goodB T dv k1 k2 y = true) ∧ Hid (BldV w [(b12, .cells Tryz.zeroCells68 68), (b10, .cells (ints .u8 k2) 34), (b9, .cells (ints .u8 k1) 34), (b7, .cells ys 68), (b6, .cells #[.pointer (some ⟨tb, 0, none⟩)] 27)] 65 162 wy r m rc (bnsL ls))) (fun v53 _ => (n - intOf v53).toNat)
            case atStart => exact ⟨0, by omega, rfl, Lib.hid (fun j y h => by omega), hBi⟩
            case round =>
              clear hBi
              obtain ⟨i, hi9, rfl, hgd, hBi⟩ := hrel
              by_cases hlt : i < n
              · have hd : decide ((i : Int) < (n : Int)) = true := by rw [decide_eq_true_eq]; omega
                obtain ⟨x, b', off', cs', TT', fr', hx, hq', fc', hs1', hs2', hext⟩ := HSB.out.elem HBO.out HLB.out (j := i) hlt
                simp only [Option.some.injEq, Addr.mk.injEq, and_true] at hq'
                obtain ⟨rfl, rfl⟩ := hq'
                rw [FCW.out] at fc'
                simp only [Option.some.injEq, Obj.cells.injEq] at fc'
                obtain ⟨rfl, rfl, rfl⟩ := fc'
                have fc := hBi.out.own.fr.get FCW.out (by simp)
                have okx := HBO.out x (List.mem_of_getElem? hx)
                obtain ⟨X, hX⟩ : ∃ X, X = bnC x := ⟨_, rfl⟩
                rw [← hX] at hext
                have hszX : X.size = 162 := by rw [hX]; exact bnC_size okx
                have x0' : X[0]? = some (.int .u8 x.device) := by rw [hX]; exact cBundle_get_device _ _ _ _ _ _ okx.al okx.sl okx.ol okx.gl
                replace x0' := (Array.getElem?_eq_some_iff.1 x0').2
                have x1' : X.extract 1 33 = ints .u8 x.agree := by rw [hX]; exact cBundle_ext_agree _ _ _ _ _ _ okx.al okx.sl okx.ol okx.gl
                have x2' : X.extract 33 65 = ints .u8 x.signer := by rw [hX]; exact cBundle_ext_signer _ _ _ _ _ _ okx.al okx.sl okx.ol okx.gl
                have xall : X.extract 0 162 = X := by rw [← hszX]; exact Array.extract_size
                have xones : ones X.toList = true := by rw [hX]; exact List.all_eq_true.2 (cBundle_one _ _ _ _ _ _ rfl rfl)
                obtain ⟨vb, hvb⟩ : ∃ vb, vb = verifyF T x.signer (bunText x) x.sig := ⟨_, rfl⟩
                have c1 : ∀ W : World, TabP lo tb W T → Calls Tryz.prog 61 #[SU tb, .agg X] W fun e w' => e = .returned (.bool vb) ∧ Fr [] W w' := fun W hW => by rw [hX, hvb]; exact acheck_f hW okx
                have C1 := Lib.hid c1
                have lag := okx.al
                have lsg := okx.sl
                have HMX : Hid (x ∈ x0 :: l) := Lib.hid (by rw [← HBS.out]; exact List.mem_of_getElem? hx)
                have HX := Lib.hid hx
                have HVB := Lib.hid hvb
                have tc := World.at_lt fc
                clear hX okx hx hvb c1
                go_upto_region 15 with (fail)
                refine named_world (A := fun Y => BldV w ((wr.heap.size, .cells X 65) :: [(b12, .cells Tryz.zeroCells68 68), (b10, .cells (ints .u8 k2) 34), (b9, .cells (ints .u8 k1) 34), (b7, .cells ys 68), (b6, .cells #[.pointer (some ⟨tb, 0, none⟩)] 27)]) 65 162 Y r m rc (bnsL ls)) (Q := fun Y => Code.wp _ _ _ _ Y) (hBi.out.add ((Fr.refl [] wr).alloc _) (World.at_alloc_new _ _ _ rfl) (Nat.le_refl _)) ?_
                intro U1 hU1
                generalize wr.heap.size = bx at hU1 ⊢
                have fx := hU1.own.nth 0 rfl
                have tx := World.at_lt fx
                have f10 := hU1.own.nth 2 rfl
                have f9 := hU1.own.nth 3 rfl
                have f6 := hU1.own.nth 5 rfl
                have t10 := World.at_lt f10
                have t9 := World.at_lt f9
                have t6 := World.at_lt f6
                have HB1 := Lib.hid (hU1.sub (List.sublist_cons_self _ _))
                have HGD := hgd
                clear hU1 fc tc hext hs2' hgd hBi
                by_cases hA : x.device = (dv : Int)
                · have dA : (x.device != (dv : Int)) = false := by simp [hA]
                  have HA := Lib.hid hA
                  clear hA
                  by_cases hC : x.agree = k1
                  · have dC : decide (x.agree = k1) = true := by simp [hC]
                    have HC := Lib.hid hC
                    clear hC
                    by_cases hD : x.signer = k2
                    · have dD : decide (x.signer = k2) = true := by simp [hD]
                      have HD := Lib.hid hD
                      clear hD
                      go_wp2_with fail
                      refine (C1.out U1 (H.out.fr0 HB1.out.own.fr)).mono ?_
                      rintro e U2 ⟨rfl, F2⟩
                      have HB2 := Lib.hid (HB1.out.call F2)
                      clear F2 fx tx f10 f9 f6 t10 t9 t6
                      cases vb with
                      | false =>
                        have HBAD : Hid (goodB T dv k1 k2 x = false) := Lib.hid (by unfold goodB; rw [← HVB.out]; simp)
                        have f7 := HB2.out.own.nth 3 rfl
                        have t7 := World.at_lt f7
                        have f12 := HB2.out.own.nth 0 rfl
                        have t12 := World.at_lt f12
                        have HE : Hid (stockE T dv k1 k2 last m bs = 191) := Lib.hid (by rw [HBS.out]; exact stockE_good HID.out (by rw [← HIDS.out]; exact HR1.out) (all_false HMX.out HBAD.out))
                        have HBE := HB2
                        clear HB2
                        go_wp2_with fail
                        refine ret_cell_tmp rfl rfl rfl ?_
                        go_simp
                        exact ⟨by kernel_rfl, r, m, rc, 191, hs, fall, ls, last, by rw [HYS.out], (HBE.out.set 0 _ rfl).sub (List.nil_sublist _), HE.out.symm, .inr ⟨by decide, rfl, rfl, rfl, rfl⟩⟩
                      | true =>
                        go_wp2_with fail
                        go_roundw
                        case rel =>
                          refine ⟨i + 1, by omega, by simp, Lib.hid (fun j y hj hy => ?_), HB2⟩
                          rcases Nat.lt_or_ge j i with h | h
                          · exact HGD.out j y h hy
                          · obtain rfl : j = i := by omega
                            have h2 := HX.out
                            rw [hy] at h2
                            injection h2 with h2
                            subst h2
                            unfold goodB
                            rw [← HVB.out]
                            simp [HA.out, HC.out, HD.out]
                        case measure => simp [intOf]; omega
                    · have dD : decide (x.signer = k2) = false := by simp [hD]
                      have HBAD : Hid (goodB T dv k1 k2 x = false) := Lib.hid (by unfold goodB; rw [decide_eq_true hD]; simp)
                      clear hD
                      have f7 := HB1.out.own.nth 3 rfl
                      have t7 := World.at_lt f7
                      have f12 := HB1.out.own.nth 0 rfl
                      have t12 := World.at_lt f12
                      have HE : Hid (stockE T dv k1 k2 last m bs = 191) := Lib.hid (by rw [HBS.out]; exact stockE_good HID.out (by rw [← HIDS.out]; exact HR1.out) (all_false HMX.out HBAD.out))
                      have HBE := HB1
                      clear HB1
                      go_wp2_with fail
                      refine ret_cell_tmp rfl rfl rfl ?_
                      go_simp
                      exact ⟨by kernel_rfl, r, m, rc, 191, hs, fall, ls, last, by rw [HYS.out], (HBE.out.set 0 _ rfl).sub (List.nil_sublist _), HE.out.symm, .inr ⟨by decide, rfl, rfl, rfl, rfl⟩⟩
                  · have dC : decide (x.agree = k1) = false := by simp [hC]
                    have HBAD : Hid (goodB T dv k1 k2 x = false) := Lib.hid (by unfold goodB; rw [decide_eq_true hC]; simp)
                    clear hC
                    have f7 := HB1.out.own.nth 3 rfl
                    have t7 := World.at_lt f7
                    have f12 := HB1.out.own.nth 0 rfl
                    have t12 := World.at_lt f12
                    have HE : Hid (stockE T dv k1 k2 last m bs = 191) := Lib.hid (by rw [HBS.out]; exact stockE_good HID.out (by rw [← HIDS.out]; exact HR1.out) (all_false HMX.out HBAD.out))
                    have HBE := HB1
                    clear HB1
                    go_wp2_with fail
                    refine ret_cell_tmp rfl rfl rfl ?_
                    go_simp
                    exact ⟨by kernel_rfl, r, m, rc, 191, hs, fall, ls, last, by rw [HYS.out], (HBE.out.set 0 _ rfl).sub (List.nil_sublist _), HE.out.symm, .inr ⟨by decide, rfl, rfl, rfl, rfl⟩⟩
                · have dA : (x.device != (dv : Int)) = true := by simp [hA]
                  have HBAD : Hid (goodB T dv k1 k2 x = false) := Lib.hid (by unfold goodB; rw [decide_eq_true hA]; simp)
                  clear hA
                  have f7 := HB1.out.own.nth 3 rfl
                  have t7 := World.at_lt f7
                  have f12 := HB1.out.own.nth 0 rfl
                  have t12 := World.at_lt f12
                  have HE : Hid (stockE T dv k1 k2 last m bs = 191) := Lib.hid (by rw [HBS.out]; exact stockE_good HID.out (by rw [← HIDS.out]; exact HR1.out) (all_false HMX.out HBAD.out))
                  have HBE := HB1
                  clear HB1
                  go_wp2_with fail
                  refine ret_cell_tmp rfl rfl rfl ?_
                  go_simp
                  exact ⟨by kernel_rfl, r, m, rc, 191, hs, fall, ls, last, by rw [HYS.out], (HBE.out.set 0 _ rfl).sub (List.nil_sublist _), HE.out.symm, .inr ⟨by decide, rfl, rfl, rfl, rfl⟩⟩
              · obtain rfl : i = n := by omega
                have hd : decide ((i : Int) < (i : Int)) = false := by simp
                have hall : (x0 :: l).all (goodB T dv k1 k2) = true := by
                  rw [← HBS.out, List.all_eq_true]
                  intro y hy
                  obtain ⟨j, hj, rfl⟩ := List.getElem_of_mem hy
                  exact hgd.out j _ (by rw [HLB.out] at hj; exact hj) (List.getElem?_eq_getElem hj)
                have HALL := Lib.hid hall
                have hll : l.length = i - 1 := by have h1 := HLI.out; rw [HIDS.out, List.length_map] at h1; exact h1
                have HLL := Lib.hid hll
                clear hall hll hgd
                go_upto_region 18 with (fail)
                have f7 := hBi.out.own.nth 3 rfl
                have t7 := World.at_lt f7
                have w1 : IntKind.i64.wrap ((i : Int) - 1) = (i : Int) - 1 := by rw [IntKind.wrap_i64]; omega
                have w2 : IntKind.i64.wrap (8 - (m : Int)) = 8 - (m : Int) := by rw [IntKind.wrap_i64]; omega
                by_cases hfull : 8 < (i - 1) + m
                · have dl : decide (8 - (m : Int) < (i : Int) - 1) = true := by rw [decide_eq_true_eq]; omega
                  have HF := Lib.hid hfull
                  clear hfull
                  have f7 := hBi.out.own.nth 3 rfl
                  have t7 := World.at_lt f7
                  have f12 := hBi.out.own.nth 0 rfl
                  have t12 := World.at_lt f12
                  have HE : Hid (stockE T dv k1 k2 last m bs = 4) := Lib.hid (by rw [HBS.out]; exact stockE_full HID.out (by rw [← HIDS.out]; exact HR1.out) HALL.out (by rw [HLL.out]; exact HF.out))
                  have HBE := hBi
                  clear hBi
                  go_wp2_with fail
                  refine ret_cell_tmp rfl rfl rfl ?_
                  go_simp
                  exact ⟨by kernel_rfl, r, m, rc, 4, hs, fall, ls, last, by rw [HYS.out], (HBE.out.set 0 _ rfl).sub (List.nil_sublist _), HE.out.symm, .inr ⟨by decide, rfl, rfl, rfl, rfl⟩⟩
                · have dl : decide (8 - (m : Int) < (i : Int) - 1) = false := by rw [decide_eq_false_iff_not]; omega
                  have HF := Lib.hid hfull
                  clear hfull
                  go_upto_region 20 with (fail)
                  have fc := hBi.out.own.fr.get FCW.out (by simp)
                  have tc := World.at_lt fc
                  have hbn : b ≠ b7 := by
                    have h1 := World.at_lt FCW.out
                    have h2 := hBi.out.own.low 3 rfl
                    omega
                  have hbn' := hbn.symm
                  have ok0 := HOK0.out
                  obtain ⟨X0, hX0⟩ : ∃ X0, X0 = bnC x0 := ⟨_, rfl⟩
                  have hext0 : cs.extract off (off + 162) = X0 := by have h := HEX.out; rw [Nat.zero_mul, Nat.add_zero] at h; rw [h, hX0]
                  have hsz0 : X0.size = 162 := by rw [hX0]; exact bnC_size ok0
                  have xones : ones X0.toList = true := by rw [hX0]; exact List.all_eq_true.2 (cBundle_one _ _ _ _ _ _ rfl rfl)
                  have hl0 : X0.toList.length = 162 := by rw [Array.length_toList, hsz0]
                  obtain ⟨Y1, hY1⟩ : ∃ Y1, Y1 = (cShelf (.bool true) fall (.slice r m rc) (.int .u16 last)).toArray := ⟨_, rfl⟩
                  obtain ⟨Y2, hY2⟩ : ∃ Y2, Y2 = (cShelf (.bool true) X0.toList (.slice r m rc) (.int .u16 last)).toArray := ⟨_, rfl⟩
                  obtain ⟨Z, hZ⟩ : ∃ Z, Z = (cShelf (.bool true) X0.toList (.slice r m rc) (.int .u16 z)).toArray := ⟨_, rfl⟩
                  have s1 : ys.setIfInBounds 0 (.bool true) = Y1 := by rw [HYS.out, hY1]; exact cShelf_set_has _ _ _ _ _ hf
                  have s2 : spl Y1 1 X0.toList = Y2 := by rw [hY1, hY2]; exact cShelf_spl_fall _ _ _ _ _ hf hl0
                  have s3 : Y2.setIfInBounds 164 (.int .u16 z) = Z := by rw [hY2, hZ]; exact cShelf_set_last _ _ _ _ _ hl0
                  have z1 : Y1.size = 165 := by rw [hY1, List.size_toArray, cShelf_length _ _ _ _ hf]
                  have z2 : Y2.size = 165 := by rw [hY2, List.size_toArray, cShelf_length _ _ _ _ hl0]
                  have z3 : Z.size = 165 := by rw [hZ, List.size_toArray, cShelf_length _ _ _ _ hl0]
                  have zl : Z[163]? = some (.slice r m rc) := by rw [hZ]; exact cShelf_get_left _ _ _ _ hl0
                  replace zl := (Array.getElem?_eq_some_iff.1 zl).2
                  have HX0 := Lib.hid hX0
                  have HZ := Lib.hid hZ
                  clear hX0 hY1 hY2 hZ ok0
                  refine drawn_begin 8 (fun w' => w'.blk b = some (.cells cs TT fr)) (by kernel_rfl) ?_
                  refine drawn_reads (fuel := 5) [0, 1, 2, 3, 4] rfl (by kernel_rfl) fc ?_
                  repeat (first | (refine rowK_step2 rfl rfl (fun K hK => ?_); go_wp2) | (refine rowK_step rfl (fun K hK => ?_); go_simp; refine hK _ ?_; clear hK K))
                  refine rowK_nil ⟨fun w' e1 => ?_, ?_⟩
                  · clear fc
                    repeat (first | (refine rowWp_step2 rfl rfl (fun K hK => ?_); go_wp2) | (refine rowWp_step rfl (fun K hK => ?_); go_simp; refine hK _ ?_; clear hK K))
                    exact rowWp_nil rfl
                  refine drawn_next 5 (fuel := 4) rfl (by kernel_rfl) ?_
                  intro K hK
                  go_wp2_with fail
                  refine named_world (A := fun Y => BldV w [(b12, .cells Tryz.zeroCells68 68), (b10, .cells (ints .u8 k2) 34), (b9, .cells (ints .u8 k1) 34), (b7, .cells Y1 68), (b6, .cells #[.pointer (some ⟨tb, 0, none⟩)] 27)] 65 162 Y r m rc (bnsL ls)) (Q := fun Y => Y.blk b = some (.cells cs TT fr) ∧ Go.Dr.wpAnyS Tryz.prog .any _ _ _ _ _ _ _ Y) ((hBi.out.set 3 _ rfl).call (Fr.refl [] _).drew) ?_
                  intro U3 hU3
                  clear fc tc f7 t7
                  have f7 := hU3.own.nth 3 rfl
                  have t7 := World.at_lt f7
                  have fc := hU3.own.fr.get FCW.out (by simp)
                  have tc := World.at_lt fc
                  have HU3 := Lib.hid hU3
                  clear hU3
                  refine ⟨fc, ?_⟩
                  refine drawn_reads (fuel := 3) [6] rfl (by kernel_rfl) fc ?_
                  repeat (first | (refine rowK_step2 rfl rfl (fun K hK => ?_); go_wp2) | (refine rowK_step rfl (fun K hK => ?_); go_simp; refine hK _ ?_; clear hK K))
                  refine rowK_nil ⟨fun w' e1 => ?_, ?_⟩
                  · clear fc
                    repeat (first | (refine rowWp_step2 rfl rfl (fun K hK => ?_); go_wp2) | (refine rowWp_step rfl (fun K hK => ?_); go_simp; refine hK _ ?_; clear hK K))
                    exact rowWp_nil rfl
                  refine drawn_next 7 (fuel := 2) rfl (by kernel_rfl) ?_
                  intro K hK
                  go_wp2_with fail
                  refine named_world (A := fun Y => BldV w [(b12, .cells Tryz.zeroCells68 68), (b10, .cells (ints .u8 k2) 34), (b9, .cells (ints .u8 k1) 34), (b7, .cells Y2 68), (b6, .cells #[.pointer (some ⟨tb, 0, none⟩)] 27)] 65 162 Y r m rc (bnsL ls)) (Q := fun Y => Y.blk b = some (.cells cs TT fr) ∧ Go.Dr.wpAnyS Tryz.prog .any _ _ _ _ _ _ _ Y) ((HU3.out.set 3 _ rfl)) ?_
                  intro U4 hU4
                  clear fc tc f7 t7
                  have f7 := hU4.own.nth 3 rfl
                  have t7 := World.at_lt f7
                  have fc := hU4.own.fr.get FCW.out (by simp)
                  have tc := World.at_lt fc
                  have HU4 := Lib.hid hU4
                  clear hU4
                  refine ⟨fc, ?_⟩
                  refine drawn_end rfl (by kernel_rfl) ?_
                  intro K hK
                  go_upto_region 21 with (fail)
                  refine named_world (A := fun Y => BldV w [(b12, .cells Tryz.zeroCells68 68), (b10, .cells (ints .u8 k2) 34), (b9, .cells (ints .u8 k1) 34), (b7, .cells Z 68), (b6, .cells #[.pointer (some ⟨tb, 0, none⟩)] 27)] 65 162 Y r m rc (bnsL ls)) (Q := fun Y => Code.wp _ _ _ _ Y) ((HU4.out.set 3 _ rfl)) ?_
                  intro U5 hU5
                  clear fc tc f7 t7
                  have f7 := hU5.own.nth 3 rfl
                  have t7 := World.at_lt f7
                  have HU5 := Lib.hid hU5
                  clear hU5
                  have hsr : Sv 162 w (if c = 1 then some ⟨b, off, none⟩ else some ⟨b, off + 162, none⟩) (i - 1) (c - 1) (bnsL l) := by
                    rcases HSB.out with ⟨h0, _⟩ | ⟨a, ha, S⟩
                    · cases h0
                    · rw [HBS.out] at S
                      rw [← ha] at S
                      exact sv_rest2 (u := (bnC x0).toList) S (by rw [Array.length_toList, bnC_size HOK0.out]) (by omega)
                  have HOB : Hid (∀ u ∈ bnsL l, u.oneCell' = true) := Lib.hid (bnsL_one l)
                  have hi1 : decide ((1 : Int) ≤ (i : Int)) = true := by rw [decide_eq_true_eq]; omega
                  have hci : i ≤ c := by
                    rcases HSB.out with ⟨h0, _⟩ | ⟨a, _, S⟩
                    · cases h0
                    · exact S.cap_
                  by_cases hc1 : c = 1
                  · rw [if_pos hc1] at hsr
                    have HSR := Lib.hid hsr
                    have HCI := Lib.hid hci
                    clear hsr hci
                    subst hc1
                    refine drawn_begin 5 (fun w' => w'.blk b7 = some (.cells Z 68)) (by kernel_rfl) ?_
                    refine drawn_reads (fuel := 3) [0, 1, 2, 3] rfl (by kernel_rfl) f7 ?_
                    repeat (first | (refine rowK_step2 rfl rfl (fun K hK => ?_); go_wp2) | (refine rowK_step rfl (fun K hK => ?_); go_simp; refine hK _ ?_; clear hK K))
                    refine rowK_nil ⟨fun w' e1 => ?_, ?_⟩
                    · clear f7
                      repeat (first | (refine rowWp_step2 rfl rfl (fun K hK => ?_); go_wp2) | (refine rowWp_step rfl (fun K hK => ?_); go_simp; refine hK _ ?_; clear hK K))
                      exact rowWp_nil rfl
                    refine drawn_next 4 (fuel := 2) rfl (by kernel_rfl) ?_
                    intro K hK
                    go_wp2_with (refine wpList_app60 rfl _ _ rfl rfl (by first | exact HU5.out | exact HU5.out.call (Fr.refl [] _).drew) rfl (HSR.out.fr0 (by first | exact HU5.out.own.fr | exact HU5.out.own.fr.drew)) HOB.out (by omega) ?_)
                    intro p9 c9 U6 B9
                    have B9' : BldV w [(b12, .cells Tryz.zeroCells68 68), (b10, .cells (ints .u8 k2) 34), (b9, .cells (ints .u8 k1) 34), (b7, .cells Z 68), (b6, .cells #[.pointer (some ⟨tb, 0, none⟩)] 27)] 65 162 U6 p9 (m + (i - 1)) c9 (bnsL (ls ++ l)) := by rw [bnsL_append]; exact B9
                    have HB9 := Lib.hid B9'
                    clear B9 B9' f7 t7
                    have f7 := HB9.out.own.nth 3 rfl
                    have t7 := World.at_lt f7
                    obtain ⟨m9, hm9⟩ : ∃ m9, m9 = m + (i - 1) := ⟨_, rfl⟩
                    rw [← hm9] at HB9 ⊢
                    clear hm9
                    go_wp2_with fail
                    refine ⟨f7, ?_⟩
                    obtain ⟨Z2, hZ2⟩ : ∃ Z2, Z2 = (cShelf (.bool true) X0.toList (.slice p9 m9 c9) (.int .u16 z)).toArray := ⟨_, rfl⟩
                    have s4 : Z.setIfInBounds 163 (.slice p9 m9 c9) = Z2 := by rw [HZ.out, hZ2]; exact cShelf_set_left _ _ _ _ _ hl0
                    have z4 : Z2.size = 165 := by rw [hZ2, List.size_toArray, cShelf_length _ _ _ _ hl0]
                    have zall : Z2.extract 0 165 = Z2 := by rw [← z4]; exact Array.extract_size
                    have zones : ones Z2.toList = true := by rw [hZ2]; exact List.all_eq_true.2 (cShelf_one _ _ _ _ rfl (List.all_eq_true.1 xones) rfl rfl)
                    have HZ2 := Lib.hid hZ2
                    clear hZ2
                    refine drawn_end rfl (by kernel_rfl) ?_
                    intro K hK
                    go_upto_region 22 with (fail)
                    refine named_world (A := fun Y => BldV w [(b12, .cells Tryz.zeroCells68 68), (b10, .cells (ints .u8 k2) 34), (b9, .cells (ints .u8 k1) 34), (b7, .cells Z2 68), (b6, .cells #[.pointer (some ⟨tb, 0, none⟩)] 27)] 65 162 Y p9 m9 c9 (bnsL (ls ++ l))) (Q := fun Y => Code.wp _ _ _ _ Y) ((HB9.out.set 3 _ rfl)) ?_
                    intro U7 hU7
                    clear f7 t7
                    have f7 := hU7.own.nth 3 rfl
                    have t7 := World.at_lt f7
                    have f12 := hU7.own.nth 0 rfl
                    have t12 := World.at_lt f12
                    have HU7 := Lib.hid hU7
                    have HE : Hid (stockE T dv k1 k2 last m bs = 0) := Lib.hid (by rw [HBS.out]; exact stockE_ok HID.out (by rw [← HIDS.out]; exact HR1.out) HALL.out (by rw [HLL.out]; exact HF.out))
                    clear hU7
                    go_wp2_with fail
                    refine ret_cell_tmp rfl rfl rfl ?_
                    go_simp
                    exact ⟨by kernel_rfl, p9, m9, c9, 0, true, X0.toList, ls ++ l, z, by rw [HZ2.out], (HU7.out.set 0 _ rfl).sub (List.nil_sublist _), HE.out.symm, .inl ⟨rfl, rfl, x0, l, HBS.out, by rw [HX0.out], rfl, by rw [← HL9.out, HIDS.out]⟩⟩
                  · rw [if_neg hc1] at hsr
                    have HSR := Lib.hid hsr
                    clear hsr
                    refine drawn_begin 5 (fun w' => w'.blk b7 = some (.cells Z 68)) (by kernel_rfl) ?_
                    refine drawn_reads (fuel := 3) [0, 1, 2, 3] rfl (by kernel_rfl) f7 ?_
                    repeat (first | (refine rowK_step2 rfl rfl (fun K hK => ?_); go_wp2) | (refine rowK_step rfl (fun K hK => ?_); go_simp; refine hK _ ?_; clear hK K))
                    refine rowK_nil ⟨fun w' e1 => ?_, ?_⟩
                    · clear f7
                      repeat (first | (refine rowWp_step2 rfl rfl (fun K hK => ?_); go_wp2) | (refine rowWp_step rfl (fun K hK => ?_); go_simp; refine hK _ ?_; clear hK K))
                      exact rowWp_nil rfl
                    refine drawn_next 4 (fuel := 2) rfl (by kernel_rfl) ?_
                    intro K hK
                    go_wp2_with (refine wpList_app60 rfl _ _ rfl rfl (by first | exact HU5.out | exact HU5.out.call (Fr.refl [] _).drew) rfl (HSR.out.fr0 (by first | exact HU5.out.own.fr | exact HU5.out.own.fr.drew)) HOB.out (by omega) ?_)
                    intro p9 c9 U6 B9
                    have B9' : BldV w [(b12, .cells Tryz.zeroCells68 68), (b10, .cells (ints .u8 k2) 34), (b9, .cells (ints .u8 k1) 34), (b7, .cells Z 68), (b6, .cells #[.pointer (some ⟨tb, 0, none⟩)] 27)] 65 162 U6 p9 (m + (i - 1)) c9 (bnsL (ls ++ l)) := by rw [bnsL_append]; exact B9
                    have HB9 := Lib.hid B9'
                    clear B9 B9' f7 t7
                    have f7 := HB9.out.own.nth 3 rfl
                    have t7 := World.at_lt f7
                    obtain ⟨m9, hm9⟩ : ∃ m9, m9 = m + (i - 1) := ⟨_, rfl⟩
                    rw [← hm9] at HB9 ⊢
                    clear hm9
                    go_wp2_with fail
                    refine ⟨f7, ?_⟩
                    obtain ⟨Z2, hZ2⟩ : ∃ Z2, Z2 = (cShelf (.bool true) X0.toList (.slice p9 m9 c9) (.int .u16 z)).toArray := ⟨_, rfl⟩
                    have s4 : Z.setIfInBounds 163 (.slice p9 m9 c9) = Z2 := by rw [HZ.out, hZ2]; exact cShelf_set_left _ _ _ _ _ hl0
                    have z4 : Z2.size = 165 := by rw [hZ2, List.size_toArray, cShelf_length _ _ _ _ hl0]
                    have zall : Z2.extract 0 165 = Z2 := by rw [← z4]; exact Array.extract_size
                    have zones : ones Z2.toList = true := by rw [hZ2]; exact List.all_eq_true.2 (cShelf_one _ _ _ _ rfl (List.all_eq_true.1 xones) rfl rfl)
                    have HZ2 := Lib.hid hZ2
                    clear hZ2
                    refine drawn_end rfl (by kernel_rfl) ?_
                    intro K hK
                    go_upto_region 22 with (fail)
                    refine named_world (A := fun Y => BldV w [(b12, .cells Tryz.zeroCells68 68), (b10, .cells (ints .u8 k2) 34), (b9, .cells (ints .u8 k1) 34), (b7, .cells Z2 68), (b6, .cells #[.pointer (some ⟨tb, 0, none⟩)] 27)] 65 162 Y p9 m9 c9 (bnsL (ls ++ l))) (Q := fun Y => Code.wp _ _ _ _ Y) ((HB9.out.set 3 _ rfl)) ?_
                    intro U7 hU7
                    clear f7 t7
                    have f7 := hU7.own.nth 3 rfl
                    have t7 := World.at_lt f7
                    have f12 := hU7.own.nth 0 rfl
                    have t12 := World.at_lt f12
                    have HU7 := Lib.hid hU7
                    have HE : Hid (stockE T dv k1 k2 last m bs = 0) := Lib.hid (by rw [HBS.out]; exact stockE_ok HID.out (by rw [← HIDS.out]; exact HR1.out) HALL.out (by rw [HLL.out]; exact HF.out))
                    clear hU7
                    go_wp2_with fail
                    refine ret_cell_tmp rfl rfl rfl ?_
                    go_simp
                    exact ⟨by kernel_rfl, p9, m9, c9, 0, true, X0.toList, ls ++ l, z, by rw [HZ2.out], (HU7.out.set 0 _ rfl).sub (List.nil_sublist _), HE.out.symm, .inl ⟨rfl, rfl, x0, l, HBS.out, by rw [HX0.out], rfl, by rw [← HL9.out, HIDS.out]⟩⟩
    · have hlt0 := (Array.getElem?_eq_some_iff.1 hid0).1
      replace hid0 := (Array.getElem?_eq_some_iff.1 hid0).2
      have dd : (x0.id != 0) = true := by simp [hid]
      have HID := Lib.hid hid
      clear hid
      have f7 := HB.out.own.nth 3 rfl
      have t7 := World.at_lt f7
      have f12 := HB.out.own.nth 0 rfl
      have t12 := World.at_lt f12
      have HE : Hid (stockE T dv k1 k2 last m bs = 141) := Lib.hid (by rw [HBS.out]; exact stockE_id HID.out)
      have HBE := HB
      clear HB
      go_wp2_with fail
      refine ret_cell_tmp rfl rfl rfl ?_
      go_simp
      exact ⟨by kernel_rfl, r, m, rc, 141, hs, fall, ls, last, by rw [HYS.out], (HBE.out.set 0 _ rfl).sub (List.nil_sublist _), HE.out.symm, .inr ⟨by decide, rfl, rfl, rfl, rfl⟩⟩
end
end Go.Proofs.YtbhnfohoclcjdaaGreat
namespace Go.Proofs.YtbhnfohoclcjdaaGreat
open Go.RowKit Go.Dr Go.Kd
theorem lastF_append (a b : List Int) : ∀ l, lastF l (a ++ b) = lastF (lastF l a) b := by
  induction a with
  | nil => intro l; rfl
  | cons x a ih => intro l; exact ih x
theorem risesF_append (a b : List Int) : ∀ l, risesF l (a ++ b) = (risesF l a && risesF (lastF l a) b) := by
  induction a with
  | nil => intro l; simp [risesF, lastF]
  | cons x a ih => intro l; rw [List.cons_append, risesF, risesF, lastF, ih, Bool.and_assoc]
theorem risesF_above (S : List Int) : ∀ l, risesF l S = true → ∀ x ∈ S, l < x := by
  induction S with
  | nil => intro l _ x hx; cases hx
  | cons y S ih =>
    intro l h x hx
    simp only [risesF, Bool.and_eq_true, decide_eq_true_eq] at h
    rcases List.mem_cons.1 hx with rfl | hx
    · exact h.1
    · have := ih y h.2 x hx; omega
theorem risesF_step (S : List Int) : ∀ (l : Int) (i : Nat) (x y : Int), risesF l S = true → S[i]? = some x → S[i + 1]? = some y → x < y := by
  induction S with
  | nil => intro l i x y _ hx; simp at hx
  | cons z S ih =>
    intro l i x y h hx hy
    simp only [risesF, Bool.and_eq_true, decide_eq_true_eq] at h
    cases i with
    | zero =>
      simp only [List.getElem?_cons_zero, Option.some.injEq] at hx
      subst hx
      exact risesF_above S z h.2 y (List.mem_of_getElem? (by simpa using hy))
    | succ i => exact ih z i x y h.2 (by simpa using hx) (by simpa using hy)
theorem lastF_mem (S : List Int) : ∀ l, lastF l S = l ∨ lastF l S ∈ S := by
  induction S with
  | nil => intro l; exact .inl rfl
  | cons z S ih =>
    intro l
    rcases ih z with h | h
    · right; rw [lastF, h]; simp
    · right; rw [lastF]; exact List.mem_cons_of_mem _ h
/-- What was taken in, what was claimed, what is left. -/
structure InvK (S C : List Int) (ls : List Bn) (last : Int) : Prop where
  all : S = C ++ ls.map Bn.id
  rise : risesF 0 S = true
  top : last = lastF 0 S
  room : ls.length ≤ 8
  ok : ∀ x ∈ ls, BnOk x
  low : ∀ x ∈ S, x < 65536
theorem InvK.start : InvK [] [] [] 0 := ⟨rfl, rfl, rfl, by simp, by simp, by simp⟩
theorem InvK.last0 {S C : List Int} {ls : List Bn} {last : Int} (h : InvK S C ls last) : 0 ≤ last ∧ last < 65536 := by
  rw [h.top]
  rcases lastF_mem S 0 with e | e
  · omega
  · have h1 := risesF_above S 0 h.rise _ e
    have h2 := h.low _ e
    omega
theorem InvK.stock {S C : List Int} {ls l : List Bn} {b : Bn} {last : Int} {T : List Tm} {dv : Nat} {k1 k2 : List Int} (h : InvK S C ls last) (hE : stockE T dv k1 k2 last ls.length (b :: l) = 0) (hl : ∀ x ∈ l, BnOk x) :
    InvK (S ++ l.map Bn.id) C (ls ++ l) (lastF last (l.map Bn.id)) := by
  by_cases h1 : b.id = 0
  · cases h2 : risesF last (l.map Bn.id) with
    | false => rw [stockE_rise h1 h2] at hE; omega
    | true =>
      cases h3 : (b :: l).all (goodB T dv k1 k2) with
      | false => rw [stockE_good h1 h2 h3] at hE; omega
      | true =>
        by_cases h4 : 8 < l.length + ls.length
        · rw [stockE_full h1 h2 h3 h4] at hE; omega
        · refine ⟨by rw [h.all, List.map_append, List.append_assoc], ?_, by rw [lastF_append, ← h.top], by rw [List.length_append]; omega, fun x hx => ?_, fun x hx => ?_⟩
          · rw [risesF_append, h.rise, ← h.top, h2]; rfl
          · rcases List.mem_append.1 hx with hx | hx
            · exact h.ok x hx
            · exact hl x hx
          · rcases List.mem_append.1 hx with hx | hx
            · exact h.low x hx
            · obtain ⟨y, hy, rfl⟩ := List.mem_map.1 hx
              exact (hl y hy).i1
  · rw [stockE_id h1] at hE; omega
theorem InvK.claim {S C : List Int} {ls : List Bn} {b : Bn} {last : Int} (h : InvK S C (b :: ls) last) : InvK S (C ++ [b.id]) ls last ∧ 0 < b.id := by
  refine ⟨⟨by rw [h.all]; simp, h.rise, h.top, by have := h.room; simp at this; omega, fun x hx => h.ok x (by simp [hx]), h.low⟩, ?_⟩
  exact risesF_above S 0 h.rise _ (by rw [h.all]; simp)
theorem InvK.le {S C : List Int} {ls : List Bn} {last : Int} (h : InvK S C ls last) : S.length = C.length + ls.length := by rw [h.all]; simp
theorem InvK.same {S C : List Int} {ls : List Bn} {last : Int} (h : InvK S C ls last) {i : Nat} {x : Int} (hx : C[i]? = some x) : S[i]? = some x := by
  rw [h.all, List.getElem?_append_left (List.getElem?_eq_some_iff.1 hx).1]
  exact hx
theorem InvK.rises {S C : List Int} {ls : List Bn} {last : Int} (h : InvK S C ls last) {i : Nat} {x y : Int} (hx : C[i]? = some x) (hy : C[i + 1]? = some y) : x < y :=
  risesF_step S 0 i x y h.rise (h.same hx) (h.same hy)
end Go.Proofs.YtbhnfohoclcjdaaGreat
namespace Go.Proofs.YtbhnfohoclcjdaaGreat
open Go.RowKit Go.Dr Go.Kd
/-- A row of bundles that a callee has made. -/
def New59 (w w' : World) (q : Option Addr) : Prop := ∀ x, q.map (·.block) = some x → w.heap.size ≤ x ∧ ∃ cs fr, w'.blk x = some (.cells cs 65 fr)
/-- What reads as it does as long as some blocks stand. -/
def Kept (p : Option Addr) (n c : Nat) (vs : List Value) (M : List (Nat × Obj)) : Prop := (∀ x ∈ M, ∃ cs fr, x.2 = .cells cs 65 fr) ∧ ∀ w', Has M w' → Lf w' p n c vs
theorem Kept.nil : Kept none 0 0 [] [] := ⟨by simp, fun w' _ => .inl ⟨rfl, rfl, rfl, rfl⟩⟩
section
variable {w0 w w' : World} {L : List (Nat × Obj)} {p : Option Addr} {n c : Nat} {vs : List Value}
theorem Sv.zero {sz : Nat} (S : Sv sz w p 0 c vs) (w' : World) : Sv sz w' p 0 c vs := ⟨S.len, S.cap_, .inl rfl, S.nil, S.mid⟩
theorem Lf.zero (h : Lf w p 0 c vs) (w' : World) : Lf w' p 0 c vs := h.imp id fun ⟨a, h1, S⟩ => ⟨a, h1, Sv.zero S w'⟩
theorem Lf.keep (h : Lf w' p n c vs) (hn : New59 w w' p) (hO : OwB w0 L w) (F : Fr [] w w') : ∃ M, OwB w0 (M ++ L) w' ∧ Kept p n c vs M := by
  rcases h with ⟨rfl, rfl, rfl, rfl⟩ | ⟨a, rfl, S⟩
  · exact ⟨[], hO.call F, Kept.nil⟩
  · rcases Nat.eq_zero_or_pos n with rfl | h0
    · exact ⟨[], hO.call F, by simp, fun w2 _ => .inr ⟨a, rfl, Sv.zero S w2⟩⟩
    · rcases S.row with h1 | ⟨b, off, cs, T, fr, hp, hb, hs, hx⟩
      · omega
      · obtain ⟨h2, cs2, fr2, h3⟩ := hn b (by rw [hp]; rfl)
        rw [hb] at h3
        simp only [Option.some.injEq, Obj.cells.injEq] at h3
        obtain ⟨rfl, rfl, rfl⟩ := h3
        refine ⟨[(b, .cells cs 65 fr)], (hO.call F).room hb (hO.fresh h2) (Nat.le_trans hO.fr.size h2), fun x hx => ?_, fun w2 hw2 => .inr ⟨a, rfl, S.len, S.cap_, .inr ⟨b, off, cs, 65, fr, hp, hw2.nth 0 rfl, hs, hx⟩, S.nil, S.mid⟩⟩
        simp only [List.mem_singleton] at hx
        subst hx
        exact ⟨_, _, rfl⟩
theorem BldV.new59 (h : BldV w [] 65 162 w' p n c vs) : New59 w w' p := fun x hx => ⟨(h.new x hx).1, h.block hx⟩
theorem BldV.callT {t : TTy} {lo e sz : Nat} (h : BldV w0 L e sz w p n c vs) (F : FrT t lo w w') (hL : ∀ q ∈ L, q.1 < lo ∨ other t q.2) (he : e ≠ t.tT ∧ e ≠ t.lT) (hl : w0.heap.size ≤ lo) : BldV w0 L e sz w' p n c vs := by
  obtain ⟨N, hO, hP⟩ := h.park
  refine hP.take (hO.callT F (fun q hq => ?_) hl)
  rcases List.mem_append.1 hq with hq | hq
  · rcases hP with ⟨rfl, _⟩ | ⟨g, r, rfl, _⟩
    · cases hq
    · simp only [List.mem_singleton] at hq
      subst hq
      exact .inr he
  · exact hL q hq
theorem Parked.other {t : TTy} {N : List (Nat × Obj)} {e sz : Nat} (hP : Parked N e sz p n c vs) (he : e ≠ t.tT ∧ e ≠ t.lT) : ∀ q ∈ N, other t q.2 := fun q hq => by
  rcases hP with ⟨rfl, _⟩ | ⟨g, r, rfl, _⟩
  · cases hq
  · simp only [List.mem_singleton] at hq
    subst hq
    exact he
end
section
variable {w : World}
set_option maxRecDepth 100000 in
set_option maxHeartbeats 2000000 in
/-- The first of those that are left. -/
theorem claim_g {has last : Value} {fall u : List Value} {us : List Value} {a : Addr} {n cap : Nat} (hf : fall.length = 162) (hfo : ∀ v ∈ fall, v.oneCell' = true) (ho : has.oneCell' = true) (hl : last.oneCell' = true) (S : Sv 162 w (some a) (n + 1) cap (u ++ us)) (hu : u.length = 162) (h1 : ∀ v ∈ u ++ us, v.oneCell' = true) (hn : n ≤ 1000) :
    Calls Tryz.prog 31 #[.agg (cShelf has fall (.slice (some a) (n + 1) cap) last).toArray] w fun e w' => ∃ q c, e = .returned (.tuple #[.agg (cShelf has fall (.slice q n c) last).toArray, .agg u.toArray, .bool true]) ∧ Sv 162 w' q n c us ∧ New59 w w' q ∧ Fr [] w w' := by
  obtain ⟨m, hm⟩ : ∃ m, m = n + 1 := ⟨_, rfl⟩
  rw [← hm] at S ⊢
  obtain ⟨xs, hxs⟩ : ∃ xs, xs = (cShelf has fall (.slice (some a) m cap) last).toArray := ⟨_, rfl⟩
  have hsz : xs.size = 165 := by rw [hxs, List.size_toArray, cShelf_length _ _ _ _ hf]
  have x1 : xs[163]? = some (.slice (some a) m cap) := by rw [hxs]; exact cShelf_get_left _ _ _ _ hf
  replace x1 := (Array.getElem?_eq_some_iff.1 x1).2
  have HXS := Lib.hid hxs
  rw [← hxs]
  have HS := Lib.hid S
  have H1 := Lib.hid h1
  have HM := Lib.hid hm
  have hm0 : decide ((m : Int) > 0) = true := by rw [decide_eq_true_eq]; omega
  have hm1 : decide (0 < m) = true := by rw [decide_eq_true_eq]; omega
  clear hxs S h1 hm
  go_enter Tryz.func31, Tryz.ntmps31
  go_wp2_with fail
  refine named_world (A := fun X => OwB w [(w.heap.size + 1 + 1, .cells Tryz.zeroCells65 65), (w.heap.size + 1, .cells Tryz.zeroCells68 68), (w.heap.size, .cells xs 68)] X) (Q := fun X => Calls Tryz.prog 60 _ X _) ((((OwB.start w).allocN _ w.heap.size rfl).allocN _ (w.heap.size + 1) (by simp)).allocN _ (w.heap.size + 1 + 1) (by simp)) ?_
  intro V hV
  generalize w.heap.size + 1 + 1 = b3 at hV ⊢
  generalize w.heap.size + 1 = b2 at hV ⊢
  generalize w.heap.size = b1 at hV ⊢
  have HV := Lib.hid hV
  clear hV
  refine (bclone_f (HS.out.fr0 HV.out.fr) H1.out (by have := HM.out; omega)).mono ?_
  rintro e W ⟨q, c, rfl, B⟩
  obtain ⟨g, rfl⟩ := B.row.some_of (by have := HM.out; omega)
  have hSv := B.sv
  obtain ⟨r, hO, hcz, hnc, hcm⟩ := B.room
  have hgl := hO.low 0 rfl
  have hall := (HV.out.merge hO)
  have HO := Lib.hid (OwB.call HV.out B.own.fr)
  have hgb := hO.nth 0 rfl
  have HGL : Hid (w.heap.size ≤ g) := Lib.hid (Nat.le_trans HV.out.fr.size hgl)
  have hg1 : g ≠ b1 := by have := HV.out.lt 2 rfl; omega
  have hg2 : g ≠ b2 := by have := HV.out.lt 1 rfl; omega
  have hg3 : g ≠ b3 := by have := HV.out.lt 0 rfl; omega
  have f1 := HO.out.nth 2 rfl
  have f2 := HO.out.nth 1 rfl
  have f3 := HO.out.nth 0 rfl
  have n12 := HO.out.ne 2 1 rfl rfl (by decide)
  have n13 := HO.out.ne 2 0 rfl rfl (by decide)
  have n23 := HO.out.ne 1 0 rfl rfl (by decide)
  have n21 := n12.symm
  have n31 := n13.symm
  have n32 := n23.symm
  have hext : (rowV (u ++ us) r).extract 0 162 = u.toArray := by
    apply Array.ext'
    rw [rowV]
    simp [hu]
  have hrs : 162 ≤ (rowV (u ++ us) r).size := by rw [size_rowV, List.length_append]; omega
  have t1 := World.at_lt f1
  have t2 := World.at_lt f2
  have t3 := World.at_lt f3
  have tg := World.at_lt hgb
  generalize rowV (u ++ us) r = cs at hgb hext hrs
  have HGB := Lib.hid hgb
  obtain ⟨ys, hys⟩ : ∃ ys, ys = (cShelf has fall (.slice (some ⟨g, 0, none⟩) m c) last).toArray := ⟨_, rfl⟩
  have hszy : ys.size = 165 := by rw [hys, List.size_toArray, cShelf_length _ _ _ _ hf]
  have y1 : ys[163]? = some (.slice (some ⟨g, 0, none⟩) m c) := by rw [hys]; exact cShelf_get_left _ _ _ _ hf
  replace y1 := (Array.getElem?_eq_some_iff.1 y1).2
  have xset : xs.setIfInBounds 163 (.slice (some ⟨g, 0, none⟩) m c) = ys := by rw [HXS.out, hys]; exact cShelf_set_left _ _ _ _ _ hf
  have HYS := Lib.hid hys
  have HSv := Lib.hid hSv
  have hmc : m ≤ c := hnc
  clear hys hSv B hO hall hcz hnc hcm
  have usz : u.toArray.size = 162 := by simpa using hu
  have uone : ones u = true := List.all_eq_true.2 (fun v hv => H1.out v (by simp [hv]))
  have hg1' := hg1.symm
  have hm2 : 0 < m := by have := HM.out; omega
  obtain ⟨zs, hzs⟩ : ∃ zs, zs = (cShelf has fall (.slice (if c = 1 then some ⟨g, 0, none⟩ else some ⟨g, 162, none⟩) (m - 1) (c - 1)) last).toArray := ⟨_, rfl⟩
  have hszz : zs.size = 165 := by rw [hzs, List.size_toArray, cShelf_length _ _ _ _ hf]
  have zset : ys.setIfInBounds 163 (.slice (if c = 1 then some ⟨g, 0, none⟩ else some ⟨g, 162, none⟩) (m - 1) (c - 1)) = zs := by rw [HYS.out, hzs]; exact cShelf_set_left _ _ _ _ _ hf
  have zones : ones zs.toList = true := by rw [hzs]; exact List.all_eq_true.2 (cShelf_one _ _ _ _ ho hfo rfl hl)
  have HZS := Lib.hid hzs
  have hc1 : decide ((1 : Int) ≤ (m : Int)) = true := by rw [decide_eq_true_eq]; omega
  clear hzs
  go_upto_region 5 with (fail)
  have hz59 : Tryz.zeroCells65.size = 162 := by kernel_rfl
  have hz62 : Tryz.zeroCells68.size = 165 := by kernel_rfl
  have zall : zs.extract 0 165 = zs := by rw [← hszz]; exact Array.extract_size
  have uall : u.toArray.extract 0 162 = u.toArray := by
    apply Array.ext'
    simp
    rw [← hu]
    exact List.take_length
  generalize hqq : (if c = 1 then some (⟨g, 0, none⟩ : Addr) else some ⟨g, 162, none⟩) = qq at HZS ⊢
  have HQQ := Lib.hid hqq
  clear hqq zset
  refine named_world (A := fun X => OwB w [(W.heap.size, .cells u.toArray 65), (b3, .cells Tryz.zeroCells65 65), (b2, .cells Tryz.zeroCells68 68), (b1, .cells zs 68)] X ∧ Fr [b1, b2, b3] W X) (Q := fun X => Code.wp _ _ _ _ X) ⟨((HO.out.set 2 _ rfl).allocN _ W.heap.size (by simp)), ((Fr.refl [b1, b2, b3] W).put b1 _ (by simp)).alloc _⟩ ?_
  rintro U ⟨hU, hFU⟩
  have hgW := tg
  clear f1 f2 f3 t1 t2 t3 tg hgb
  have n52 : W.heap.size ≠ b2 := hU.ne 0 2 rfl rfl (by decide)
  have n53 : W.heap.size ≠ b3 := hU.ne 0 1 rfl rfl (by decide)
  generalize W.heap.size = b5 at hU n52 n53 ⊢
  have f5 := hU.nth 0 rfl
  have f1 := hU.nth 3 rfl
  have f2 := hU.nth 2 rfl
  have f3 := hU.nth 1 rfl
  have t5 := World.at_lt f5
  have t1 := World.at_lt f1
  have t2 := World.at_lt f2
  have t3 := World.at_lt f3
  have n25 := n52.symm
  have n35 := n53.symm
  have l2 := hU.low 2 rfl
  have l3 := hU.low 1 rfl
  have HU := Lib.hid hU
  have HFU := Lib.hid hFU
  clear hU hFU
  refine drawn_begin 3 (fun w' => w'.blk b1 = some (.cells zs 68) ∧ w'.blk b5 = some (.cells u.toArray 65)) (by kernel_rfl) ?_
  refine drawn_reads (fuel := 3) [0, 1] rfl (by kernel_rfl) ⟨f1, f5⟩ ?_
  repeat (first | (refine rowK_step2 rfl rfl (fun K hK => ?_); go_wp2) | (refine rowK_step rfl (fun K hK => ?_); go_simp; refine hK _ ?_; clear hK K))
  refine rowK_nil ⟨fun w' e1 => ?_, ?_⟩
  · obtain ⟨e1, e2⟩ := e1
    clear f1 f5
    repeat (first | (refine rowWp_step2 rfl rfl (fun K hK => ?_); go_wp2) | (refine rowWp_step rfl (fun K hK => ?_); go_simp; refine hK _ ?_; clear hK K))
    exact rowWp_nil rfl
  refine drawn_next 2 (fuel := 2) rfl (by kernel_rfl) ?_
  intro K hK
  go_wp2_with fail
  refine ⟨⟨by go_simp, by go_simp⟩, ?_⟩
  refine drawn_end rfl (by kernel_rfl) ?_
  intro K hK
  go_wp2_with fail
  refine ret_cell2_tmp rfl rfl rfl rfl ?_
  go_simp
  have hmn : m - 1 = n := by have := HM.out; omega
  have hrest := sv_rest HSv.out hu hm2
  rw [HQQ.out, hmn] at hrest
  have hqg : ∀ x, qq.map (·.block) = some x → x = g := fun x hx => by
    rw [← HQQ.out] at hx
    split at hx
    · simpa using hx.symm
    · simpa using hx.symm
  refine ⟨by kernel_rfl, by kernel_rfl, qq, c - 1, by rw [HZS.out, hmn], hrest.fr (((HFU.out.put b2 _ (by simp)).put b3 _ (by simp)).drew) (fun x hx => ?_), fun x hx => ?_, ((HU.out.fr.put b2 _ (fun h => by omega)).put b3 _ (fun h => by omega)).drew⟩
  · obtain rfl := hqg x hx
    simp [hg1, hg2, hg3]
  · obtain rfl := hqg x hx
    exact ⟨HGL.out, cs, _, (((HFU.out.put b2 _ (by simp)).put b3 _ (by simp)).drew).get HGB.out (by simp [hg1, hg2, hg3])⟩
end
end Go.Proofs.YtbhnfohoclcjdaaGreat
