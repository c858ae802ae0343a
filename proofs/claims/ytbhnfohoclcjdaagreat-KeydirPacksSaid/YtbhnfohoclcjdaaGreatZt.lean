/- Joined: PkK, PkL, PkM, PkN, PkO, PkP, PkQ, PkR, PkV. -/
import Derived.Test.YtbhnfohoclcjdaaGreatZs
import Derived.Test.YtbhnfohoclcjdaaGreatZp
set_option linter.unusedVariables false
set_option linter.unusedSimpArgs false
namespace Go.Proofs.YtbhnfohoclcjdaaGreat
open Go.RowKit Go.Dr Go.Kd
theorem takeP_bytes : ∀ (n : Nat) (b : Bs), isBytes b → ∀ q, takeP n b = some q → ∀ l ∈ q.1, isBytes l
  | 0, b, hb, q, h, l, hl => by
    cases h
    cases hl
  | n + 1, a :: c :: b, hb, q, h, l, hl => by
    unfold takeP at h
    split at h
    · cases h
    · obtain ⟨q2, h2, rfl⟩ := Option.map_eq_some_iff.1 h
      have hb2 : isBytes b := fun y hy => hb y (by simp [hy])
      rcases List.mem_cons.1 hl with rfl | hl
      · exact fun y hy => hb2 y (List.mem_of_mem_take hy)
      · exact takeP_bytes n _ (fun y hy => hb2 y (List.mem_of_mem_drop hy)) q2 h2 l hl
  | n + 1, [], hb, q, h, l, hl => by cases h
  | n + 1, [a], hb, q, h, l, hl => by cases h
theorem splitB_bytes {b : Bs} {ps : List Bs} (hb : isBytes b) (h : splitB b = some ps) : ∀ l ∈ ps, isBytes l := by
  cases b with
  | nil => cases h
  | cons k b =>
    simp only [splitB] at h
    split at h
    · cases h
    · cases ht : takeP k.toNat b with
      | none => rw [ht] at h; cases h
      | some q =>
        rw [ht] at h
        obtain ⟨l, r⟩ := q
        cases r with
        | cons x r => cases h
        | nil =>
          cases h
          exact takeP_bytes _ b (fun y hy => hb y (by simp [hy])) _ ht
theorem opP_bytes {b : Bs} (hb : isBytes b) : ∀ l ∈ opP b, isBytes l := by
  unfold opP
  cases h : splitB b with
  | none => intro l hl; cases hl
  | some ps => exact splitB_bytes hb h
/-- The pieces have a bundle's lengths. -/
def rdOk (ls : List Bs) : Bool := decide (ls.map List.length = [1, 32, 32, 2, 32, 64])
/-- The bundle that the pieces hold. -/
def bnOf (ls : List Bs) : Bn := ⟨(getB (ls.getD 0 []) : Nat), ls.getD 1 [], ls.getD 2 [], (getB (ls.getD 3 []) : Nat), ls.getD 4 [], ls.getD 5 []⟩
theorem rdOk_iff (ls : List Bs) : ((((((((ls.isEmpty || !fitH 1 ls) || !fitH 32 ls.tail) || !fitH 32 ls.tail.tail) || !fitH 2 ls.tail.tail.tail) || !fitH 32 ls.tail.tail.tail.tail) || !fitH 64 ls.tail.tail.tail.tail.tail)) = false ∧ ls.tail.tail.tail.tail.tail.tail = []) ↔ rdOk ls = true := by
  rcases ls with _ | ⟨a, _ | ⟨b, _ | ⟨c, _ | ⟨d, _ | ⟨e, _ | ⟨f, _ | ⟨g, l⟩⟩⟩⟩⟩⟩⟩ <;> simp [rdOk, fitH, and_assoc]
theorem fits_of_rdOk {ls : List Bs} (h : rdOk ls = true) : fitH 1 ls = true ∧ fitH 32 ls.tail = true ∧ fitH 32 ls.tail.tail = true ∧ fitH 2 ls.tail.tail.tail = true ∧ fitH 32 ls.tail.tail.tail.tail = true ∧ fitH 64 ls.tail.tail.tail.tail.tail = true := by
  rcases ls with _ | ⟨a, _ | ⟨b, _ | ⟨c, _ | ⟨d, _ | ⟨e, _ | ⟨f, _ | ⟨g, l⟩⟩⟩⟩⟩⟩⟩ <;> simp [rdOk] at h
  simpa [fitH] using h
theorem bnOf_tails (ls : List Bs) : bnOf ls = ⟨(getB (ls.headD []) : Nat), ls.tail.headD [], ls.tail.tail.headD [], (getB (ls.tail.tail.tail.headD []) : Nat), ls.tail.tail.tail.tail.headD [], ls.tail.tail.tail.tail.tail.headD []⟩ := by
  rcases ls with _ | ⟨a, _ | ⟨b, _ | ⟨c, _ | ⟨d, _ | ⟨e, _ | ⟨f, l⟩⟩⟩⟩⟩⟩ <;> rfl
theorem z65_eq : Tryz.zeroCells65 = (cBundle (.int .u8 0) (List.replicate 32 0) (List.replicate 32 0) (.int .u16 0) (List.replicate 32 0) (List.replicate 64 0)).toArray := by kernel_rfl
theorem bn_build (d i : Int) {ag sg on gg : Bs} (h1 : ag.length = 32) (h2 : sg.length = 32) (h4 : on.length = 32) (h5 : gg.length = 64) :
    spl (spl ((spl (spl (Tryz.zeroCells65.setIfInBounds 0 (.int .u8 d)) 1 (ag.map (Value.int .u8))) 33 (sg.map (Value.int .u8))).setIfInBounds 65 (.int .u16 i)) 66 (on.map (Value.int .u8))) 98 (gg.map (Value.int .u8)) = bnC ⟨d, ag, sg, i, on, gg⟩ := by
  have r32 : (List.replicate 32 (0 : Int)).length = 32 := List.length_replicate
  have r64 : (List.replicate 64 (0 : Int)).length = 64 := List.length_replicate
  rw [z65_eq, cBundle_set_device _ _ _ _ _ _ _ r32 r32 r32 r64, cBundle_spl_agree _ _ _ _ _ _ _ r32 r32 r32 r64 h1, cBundle_spl_signer _ _ _ _ _ _ _ h1 r32 r32 r64 h2, cBundle_set_id _ _ _ _ _ _ _ h1 h2 r32 r64, cBundle_spl_once _ _ _ _ _ _ _ h1 h2 r32 r64 h4, cBundle_spl_sig _ _ _ _ _ _ _ h1 h2 h4 r64 h5]
section
variable {w : World}
set_option maxRecDepth 100000 in
set_option maxHeartbeats 8000000 in
theorem getbun_f {p : Option Addr} {n c : Nat} {B : Bs} (S : Sl .u8 w p n c B) (hB : isBytes B) (hn : n ≤ 100000) :
    Calls Tryz.prog 70 #[.slice p n c] w fun e w' => ∃ (xs : Array Value) (err : Int), e = .returned (.tuple #[.agg xs, .int .i64 err]) ∧ Fr [] w w' ∧ xs.size = 162 ∧ (err = 0 ↔ rdOk (opP B) = true) ∧ (err = 0 → xs = bnC (bnOf (opP B))) ∧ ones xs.toList = true := by
  have HS := Lib.hid S
  have HB := Lib.hid hB
  have HB0 : Hid (∀ l ∈ opP B, isBytes l) := Lib.hid (opP_bytes hB)
  clear S hB
  obtain ⟨ls0, hls0⟩ : ∃ ls0, ls0 = opP B := ⟨_, rfl⟩
  rw [← hls0] at HB0
  rw [← hls0]
  have HL0 := Lib.hid hls0
  clear hls0
  go_enter Tryz.func70, Tryz.ntmps70
  go_upto_region 1 with (fail)
  refine named_world (A := fun V => ∃ zb : Array Value, zb.size = 162 ∧ OwB w [(w.heap.size, .cells zb 65)] V) (Q := fun V => Code.wp _ _ _ _ V) ⟨_, rfl, (OwB.start w).allocN _ _ rfl⟩ ?_
  rintro V ⟨zb, hzb, O⟩
  generalize w.heap.size = b0 at *
  have HO := Lib.hid O
  clear O
  go_wp2_with fail
  refine (ropen_f (HS.out.fr0 HO.out.fr) HB.out hn).mono ?_
  rintro e w1 ⟨g, M, rfl, R⟩
  obtain ⟨bad0, hbad0⟩ : ∃ bad0, bad0 = (opP B).isEmpty := ⟨_, rfl⟩
  rw [← hbad0, ← HL0.out] at R
  rw [← HL0.out] at hbad0
  have HD0 := Lib.hid hbad0
  have R2 : Rd w M [(b0, .cells zb 65)] g w1 ls0 bad0 := by
    obtain ⟨q, c, err, O, h⟩ := R.ex
    exact ⟨q, c, err, by simpa using HO.out.merge O, h⟩
  have HR := Lib.hid R2
  clear R R2 HO hbad0
  go_wp2_with fail
  refine (rbyte_f HR.out HB0.out).mono ?_
  rintro e w2 ⟨d, rfl, ld, Hd, R⟩
  have Hd2 := Lib.hid Hd
  have ld2 := Lib.hid ld
  clear Hd ld HR
  obtain ⟨ls1, hls1⟩ : ∃ ls1, ls1 = ls0.tail := ⟨_, rfl⟩
  obtain ⟨bad1, hbad1⟩ : ∃ bad1, bad1 = (bad0 || !fitH 1 ls0) := ⟨_, rfl⟩
  rw [← hls1, ← hbad1] at R
  have HB1 : Hid (∀ l ∈ ls1, isBytes l) := Lib.hid fun l hl => HB0.out l (by rw [hls1] at hl; exact List.mem_of_mem_tail hl)
  have HL1 := Lib.hid hls1
  have HD1 := Lib.hid hbad1
  clear hls1 hbad1
  have HR := Lib.hid R
  clear R
  go_wp2_with fail
  refine (rkey_f HR.out).mono ?_
  rintro e w3 ⟨rfl, R⟩
  clear HR
  obtain ⟨ag, hag⟩ : ∃ ag, ag = if fitH 32 ls1 then ls1.headD [] else List.replicate 32 0 := ⟨_, rfl⟩
  rw [← hag]
  have lag : ag.length = 32 := by
    rw [hag]
    split
    · rename_i h; simpa [fitH] using h
    · simp
  have Hag2 := Lib.hid hag
  have lag2 := Lib.hid lag
  clear hag
  obtain ⟨ls2, hls2⟩ : ∃ ls2, ls2 = ls1.tail := ⟨_, rfl⟩
  obtain ⟨bad2, hbad2⟩ : ∃ bad2, bad2 = (bad1 || !fitH 32 ls1) := ⟨_, rfl⟩
  rw [← hls2, ← hbad2] at R
  have HB2 : Hid (∀ l ∈ ls2, isBytes l) := Lib.hid fun l hl => HB1.out l (by rw [hls2] at hl; exact List.mem_of_mem_tail hl)
  have HL2 := Lib.hid hls2
  have HD2 := Lib.hid hbad2
  clear hls2 hbad2
  have HR := Lib.hid R
  clear R
  go_wp2_with fail
  refine (rkey_f HR.out).mono ?_
  rintro e w4 ⟨rfl, R⟩
  clear HR
  obtain ⟨sg, hsg⟩ : ∃ sg, sg = if fitH 32 ls2 then ls2.headD [] else List.replicate 32 0 := ⟨_, rfl⟩
  rw [← hsg]
  have lsg : sg.length = 32 := by
    rw [hsg]
    split
    · rename_i h; simpa [fitH] using h
    · simp
  have Hsg2 := Lib.hid hsg
  have lsg2 := Lib.hid lsg
  clear hsg
  obtain ⟨ls3, hls3⟩ : ∃ ls3, ls3 = ls2.tail := ⟨_, rfl⟩
  obtain ⟨bad3, hbad3⟩ : ∃ bad3, bad3 = (bad2 || !fitH 32 ls2) := ⟨_, rfl⟩
  rw [← hls3, ← hbad3] at R
  have HB3 : Hid (∀ l ∈ ls3, isBytes l) := Lib.hid fun l hl => HB2.out l (by rw [hls3] at hl; exact List.mem_of_mem_tail hl)
  have HL3 := Lib.hid hls3
  have HD3 := Lib.hid hbad3
  clear hls3 hbad3
  have HR := Lib.hid R
  clear R
  go_wp2_with fail
  refine (rshort_f HR.out HB3.out).mono ?_
  rintro e w5 ⟨i, rfl, li, Hi, R⟩
  have Hi2 := Lib.hid Hi
  have li2 := Lib.hid li
  clear Hi li HR
  obtain ⟨ls4, hls4⟩ : ∃ ls4, ls4 = ls3.tail := ⟨_, rfl⟩
  obtain ⟨bad4, hbad4⟩ : ∃ bad4, bad4 = (bad3 || !fitH 2 ls3) := ⟨_, rfl⟩
  rw [← hls4, ← hbad4] at R
  have HB4 : Hid (∀ l ∈ ls4, isBytes l) := Lib.hid fun l hl => HB3.out l (by rw [hls4] at hl; exact List.mem_of_mem_tail hl)
  have HL4 := Lib.hid hls4
  have HD4 := Lib.hid hbad4
  clear hls4 hbad4
  have HR := Lib.hid R
  clear R
  go_wp2_with fail
  refine (rkey_f HR.out).mono ?_
  rintro e w6 ⟨rfl, R⟩
  clear HR
  obtain ⟨on, hon⟩ : ∃ on, on = if fitH 32 ls4 then ls4.headD [] else List.replicate 32 0 := ⟨_, rfl⟩
  rw [← hon]
  have lon : on.length = 32 := by
    rw [hon]
    split
    · rename_i h; simpa [fitH] using h
    · simp
  have Hon2 := Lib.hid hon
  have lon2 := Lib.hid lon
  clear hon
  obtain ⟨ls5, hls5⟩ : ∃ ls5, ls5 = ls4.tail := ⟨_, rfl⟩
  obtain ⟨bad5, hbad5⟩ : ∃ bad5, bad5 = (bad4 || !fitH 32 ls4) := ⟨_, rfl⟩
  rw [← hls5, ← hbad5] at R
  have HB5 : Hid (∀ l ∈ ls5, isBytes l) := Lib.hid fun l hl => HB4.out l (by rw [hls5] at hl; exact List.mem_of_mem_tail hl)
  have HL5 := Lib.hid hls5
  have HD5 := Lib.hid hbad5
  clear hls5 hbad5
  have HR := Lib.hid R
  clear R
  go_wp2_with fail
  refine (rsig_f HR.out).mono ?_
  rintro e w7 ⟨rfl, R⟩
  clear HR
  obtain ⟨gg, hgg⟩ : ∃ gg, gg = if fitH 64 ls5 then ls5.headD [] else List.replicate 64 0 := ⟨_, rfl⟩
  rw [← hgg]
  have lgg : gg.length = 64 := by
    rw [hgg]
    split
    · rename_i h; simpa [fitH] using h
    · simp
  have Hgg2 := Lib.hid hgg
  have lgg2 := Lib.hid lgg
  clear hgg
  obtain ⟨ls6, hls6⟩ : ∃ ls6, ls6 = ls5.tail := ⟨_, rfl⟩
  obtain ⟨bad6, hbad6⟩ : ∃ bad6, bad6 = (bad5 || !fitH 64 ls5) := ⟨_, rfl⟩
  rw [← hls6, ← hbad6] at R
  have HB6 : Hid (∀ l ∈ ls6, isBytes l) := Lib.hid fun l hl => HB5.out l (by rw [hls6] at hl; exact List.mem_of_mem_tail hl)
  have HL6 := Lib.hid hls6
  have HD6 := Lib.hid hbad6
  clear hls6 hbad6
  have HR := Lib.hid R
  clear R
  have hsx := bn_build (d : Int) (i : Int) lag2.out lsg2.out lon2.out lgg2.out
  obtain ⟨xs, hxs⟩ : ∃ xs, xs = bnC ⟨d, ag, sg, i, on, gg⟩ := ⟨_, rfl⟩
  rw [← hxs] at hsx
  have hsz : xs.size = 162 := by rw [hxs, List.size_toArray]; exact cBundle_length _ _ _ _ _ _ lag2.out lsg2.out lon2.out lgg2.out
  have hon : ones xs.toList = true := by
    rw [hxs]
    exact List.all_eq_true.2 (cBundle_one _ _ _ _ _ _ rfl rfl)
  have z65 : Tryz.zeroCells65.size = 162 := by kernel_rfl
  have z65o : ones Tryz.zeroCells65.toList = true := by kernel_rfl
  have HX := Lib.hid hxs
  clear hxs
  go_upto_region 3 with (fail)
  refine named_world (A := fun V => Rd w M [(w7.heap.size, .cells xs 65), (b0, .cells zb 65)] g V ls6 bad6) (Q := fun V => Code.wp _ _ _ _ V) (HR.out.alloc _ _ rfl) ?_
  intro V3 R3
  generalize w7.heap.size = b3 at *
  clear HR
  have HR := Lib.hid R3
  clear R3 hsx
  go_wp2_with fail
  refine (rend_f HR.out).mono ?_
  rintro e w8 ⟨err, rfl, hE, bad7, R7⟩
  have hk := rdOk_iff ls0
  rw [← HL1.out, ← HL2.out, ← HL3.out, ← HL4.out, ← HL5.out, ← HL6.out, ← HD0.out, ← HD1.out, ← HD2.out, ← HD3.out, ← HD4.out, ← HD5.out, ← HD6.out] at hk
  rw [hk] at hE
  have HE := Lib.hid hE
  have f3 := R7.blk
  have t3 := World.at_lt f3
  have f0 := (R7.permX (List.Perm.swap ..)).blk
  have t0 := World.at_lt f0
  clear HR hk
  have HR := Lib.hid R7
  clear R7 hE
  by_cases h : err = 0
  · have hx9 : xs = bnC (bnOf ls0) := by
      obtain ⟨q0, q1, q2, q3, q4, q5⟩ := fits_of_rdOk (HE.out.1 h)
      rw [bnOf_tails, ← HL1.out, ← HL2.out, ← HL3.out, ← HL4.out, ← HL5.out, HX.out]
      rw [← HL1.out] at q1 q2 q3 q4 q5
      rw [← HL2.out] at q2 q3 q4 q5
      rw [← HL3.out] at q3 q4 q5
      rw [← HL4.out] at q4 q5
      rw [← HL5.out] at q5
      rw [Hd2.out q0, Hi2.out q3, Hag2.out, Hsg2.out, Hon2.out, Hgg2.out, if_pos q1, if_pos q2, if_pos q4, if_pos q5]
    have HX9 := Lib.hid hx9
    clear hx9
    subst h
    go_wp2_with fail
    have R8 := ((HR.out.permX (List.Perm.swap ..)).put (.cells xs 65))
    obtain ⟨Y, O9⟩ := R8.own
    refine ret_cell_tmp rfl rfl rfl ?_
    refine cellRet_of R8.blk (by rw [hsz]; kernel_rfl) ⟨xs, 0, rfl, O9.fr, hsz, by simpa using HE.out, fun _ => HX9.out, hon⟩
  · have d : (err != 0) = true := by simpa using h
    have HN := Lib.hid h
    clear h
    go_wp2_with fail
    have R8 := ((HR.out.permX (List.Perm.swap ..)).put (.cells Tryz.zeroCells65 65))
    obtain ⟨Y, O9⟩ := R8.own
    have hn := HN.out
    refine ret_cell_tmp rfl rfl rfl ?_
    refine cellRet_of R8.blk (by rw [z65]; kernel_rfl) ⟨Tryz.zeroCells65, err, rfl, O9.fr, z65, HE.out, fun e => absurd e hn, z65o⟩
end
end Go.Proofs.YtbhnfohoclcjdaaGreat
namespace Go.Proofs.YtbhnfohoclcjdaaGreat
open Go.RowKit Go.Dr Go.Kd
theorem sly_at {M : List (Nat × Obj)} {q : Option Addr} {n c j : Nat} {l : Bs} {ls : List Bs} (h : Sly M q n c ls) (hj : ls[j]? = some l) {w : World} (hw : Has M w) : ∃ b off cs T fr q1 m1 c1, q = some ⟨b, off, none⟩ ∧ w.blk b = some (.cells cs T fr) ∧ off + j < cs.size ∧ cs[off + j]? = some (.slice q1 m1 c1) ∧ ∀ W, Has M W → Sl .u8 W q1 m1 c1 l := by
  obtain ⟨us, h⟩ := h
  obtain ⟨h1, h2⟩ := h w hw
  have hl := h1.len
  have hl2 := h2.len
  obtain ⟨hjl, -⟩ := List.getElem?_eq_some_iff.1 hj
  obtain ⟨b, off, cs, T, fr, hq, hb, hs, hat⟩ := h1.at1 (j := j) (by omega) (by omega)
  obtain ⟨q1, m1, c1, h3, -⟩ := h2.at j l hj
  refine ⟨b, off, cs, T, fr, q1, m1, c1, hq, hb, hs, by rw [hat, ← h3, List.getElem?_eq_getElem (by omega)], fun W hW => ?_⟩
  obtain ⟨q2, m2, c2, h4, S⟩ := (h W hW).2.at j l hj
  rw [h3] at h4
  cases h4
  exact S
/-- The document's reader: the pieces that are still to come. -/
structure Tk (w0 : World) (M X : List (Nat × Obj)) (g : Nat) (W : World) (rs : List Bs) : Prop where
  ex : ∃ (q : Option Addr) (n c a : Nat) (ls : List Bs), OwB w0 ((g, .cells #[.slice q n c, .int .i64 (a : Int)] 186) :: (M ++ X)) W ∧ Sly M q n c ls ∧ ls.length = n ∧ n ≤ 1000 ∧ a ≤ n ∧ rs = ls.drop a
section
variable {w0 w w' : World} {M X L : List (Nat × Obj)} {g : Nat} {rs : List Bs}
set_option maxRecDepth 100000 in
set_option maxHeartbeats 2000000 in
theorem next_t2 (R : Tk w0 M X g w rs) :
    Calls Tryz.prog 73 #[.pointer (some ⟨g, 0, none⟩)] w fun e w' => ∃ p m c, e = .returned (.slice p m c) ∧ (∀ W, Has M W → Sl .u8 W p m c (rs.headD [])) ∧ Tk w0 M X g w' rs.tail := by
  obtain ⟨q, n, c, a, ls, O, hS, hl, hn, ha, hr⟩ := R.ex
  have f0 := O.nth 0 rfl
  have t0 := O.lt 0 rfl
  have HO := Lib.hid O
  have HS := Lib.hid hS
  have HL := Lib.hid hl
  have HR := Lib.hid hr
  clear R O hS hl hr
  go_enter Tryz.func73, Tryz.ntmps73
  by_cases h : a = n
  · subst h
    go_upto_region 1 with (fail)
    go_region
    go_wp2_with fail
    refine bodyPost_ret (results_tmp rfl _ _ _) rfl ⟨_, _, _, rfl, ?_⟩
    have hd : rs = [] := by rw [HR.out, List.drop_of_length_le (by rw [HL.out]; exact Nat.le_refl _)]
    rw [hd]
    exact ⟨fun W _ => ⟨rfl, Nat.le_refl 0, .inl rfl, fun _ => rfl, by simp⟩, q, a, c, a, ls, HO.out.drew, HS.out, HL.out, hn, ha, by rw [List.tail_nil, ← hd, HR.out]⟩
  · have hlt : a < n := by omega
    have hll : a < ls.length := by rw [HL.out]; exact hlt
    obtain ⟨l, hl⟩ : ∃ l, ls[a]? = some l := ⟨_, List.getElem?_eq_getElem hll⟩
    have hh : Has M w := HO.out.has.tail.of_append.1
    obtain ⟨bb, off, cs, TT, fr, q1, m1, c1, rfl, fb, hs2, hat, S1⟩ := sly_at HS.out hl hh
    have HS1 := Lib.hid S1
    have hat2 := (Array.getElem?_eq_some_iff.1 hat).2
    have hrc : rs = l :: ls.drop (a + 1) := by rw [HR.out, List.drop_eq_getElem_cons hll, (List.getElem?_eq_some_iff.1 hl).2]
    have HRC := Lib.hid hrc
    have hne : g ≠ bb := by
      rintro rfl
      have O2 := HO.out.set 0 (.cells #[.int .i64 0, .int .i64 0] 186) rfl
      obtain ⟨b2, off2, cs2, T2, fr2, q2, m2, c2, e2, fb2, hs3, hat3, -⟩ := sly_at HS.out hl O2.has.tail.of_append.1
      cases e2
      rw [O2.nth 0 rfl] at fb2
      cases fb2
      have h2 : off + a = 0 ∨ off + a = 1 := by simp at hs3; omega
      rcases h2 with h2 | h2 <;> (rw [h2] at hat3; cases hat3)
    have tb := World.at_lt fb
    have wi : IntKind.i64.wrap ((a : Int) + 1) = ((a + 1 : Nat) : Int) := by rw [IntKind.wrap_i64]; omega
    have wi2 : IntKind.i64.wrap (((a + 1 : Nat) : Int) - 1) = (a : Int) := by rw [IntKind.wrap_i64]; omega
    clear S1 hrc hl
    go_upto_region 1 with (fail)
    go_region
    go_upto_region 4 with (fail)
    go_region
    have O2 := (HO.out.set 0 (.cells #[.slice (some ⟨bb, off, none⟩) n c, .int .i64 ((a : Int) + 1)] 186) rfl).drew.drew
    have HO2 := Lib.hid O2
    clear O2
    go_wp2_with fail
    refine bodyPost_ret (results_tmp rfl _ _ _) rfl ⟨_, _, _, rfl, ?_⟩
    rw [HRC.out]
    exact ⟨HS1.out, some ⟨bb, off, none⟩, n, c, a + 1, ls, HO2.out, HS.out, HL.out, hn, hlt, rfl⟩
theorem next_t (R : Tk w0 M X g w rs) :
    Calls Tryz.prog 73 #[.pointer (some ⟨g, 0, none⟩)] w fun e w' => ∃ p m c, e = .returned (.slice p m c) ∧ Sl .u8 w' p m c (rs.headD []) ∧ Tk w0 M X g w' rs.tail :=
  (next_t2 R).mono fun e w' ⟨p, m, c, h1, h2, h3⟩ => ⟨p, m, c, h1, by
    obtain ⟨q, n, c, a, ls, O, h⟩ := h3.ex
    exact h2 _ O.has.tail.of_append.1, h3⟩
end
end Go.Proofs.YtbhnfohoclcjdaaGreat
namespace Go.Proofs.YtbhnfohoclcjdaaGreat
open Go.RowKit Go.Dr Go.Kd
section
variable {w0 w w' : World} {M X L : List (Nat × Obj)} {g : Nat} {rs : List Bs}
theorem Tk.fr (R : Tk w0 M X g w rs) (F : Fr [] w w') : Tk w0 M X g w' rs := by
  obtain ⟨q, n, c, a, ls, O, h⟩ := R.ex
  exact ⟨q, n, c, a, ls, O.call F, h⟩
theorem Tk.drew (R : Tk w0 M X g w rs) : Tk w0 M X g w.drew rs := R.fr (Fr.refl [] w).drew
theorem Tk.alloc (R : Tk w0 M X g w rs) (o : Obj) (b : Nat) (hb : b = w.heap.size) : Tk w0 M ((b, o) :: X) g (w.alloc o) rs := by
  obtain ⟨q, n, c, a, ls, O, h⟩ := R.ex
  exact ⟨q, n, c, a, ls, (O.allocN o b hb).perm (List.perm_middle (l₁ := (g, _) :: M)).symm, h⟩
theorem Tk.permX {X' : List (Nat × Obj)} (R : Tk w0 M X g w rs) (p : X.Perm X') : Tk w0 M X' g w rs := by
  obtain ⟨q, n, c, a, ls, O, h⟩ := R.ex
  exact ⟨q, n, c, a, ls, O.perm ((p.append_left M).cons _), h⟩
theorem Tk.own {b : Nat} {o : Obj} (R : Tk w0 M ((b, o) :: X) g w rs) : ∃ Y, OwB w0 ((b, o) :: Y) w := by
  obtain ⟨q, n, c, a, ls, O, h⟩ := R.ex
  exact ⟨_, O.perm (List.perm_middle (l₁ := (g, _) :: M))⟩
theorem Tk.blk {b : Nat} {o : Obj} (R : Tk w0 M ((b, o) :: X) g w rs) : w.blk b = some o := by
  obtain ⟨Y, O⟩ := R.own
  exact O.nth 0 rfl
theorem Tk.pop {b : Nat} {o : Obj} (R : Tk w0 M ((b, o) :: X) g w rs) : Tk w0 M X g w rs := by
  obtain ⟨q, n, c, a, ls, O, h⟩ := R.ex
  exact ⟨q, n, c, a, ls, (O.perm (List.perm_middle (l₁ := (g, _) :: M))).take, h⟩
theorem Tk.put {b : Nat} {o : Obj} (R : Tk w0 M ((b, o) :: X) g w rs) (o' : Obj) : Tk w0 M ((b, o') :: X) g (w.put b o') rs := by
  obtain ⟨q, n, c, a, ls, O, h⟩ := R.ex
  exact ⟨q, n, c, a, ls, ((O.perm (List.perm_middle (l₁ := (g, _) :: M))).set 0 o' rfl).perm (List.perm_middle (l₁ := (g, _) :: M)).symm, h⟩
set_option maxRecDepth 100000 in
set_option maxHeartbeats 2000000 in
theorem left_t (R : Tk w0 M X g w rs) :
    Calls Tryz.prog 75 #[.pointer (some ⟨g, 0, none⟩)] w fun e w' => e = .returned (.int .i64 (rs.length : Int)) ∧ Tk w0 M X g w' rs := by
  obtain ⟨q, n, c, a, ls, O, hS, hl, hn, ha, hr⟩ := R.ex
  have f0 := O.nth 0 rfl
  have t0 := O.lt 0 rfl
  have HR := Lib.hid R
  have hrl : (n : Int) - (a : Int) = ((rs.length : Nat) : Int) := by rw [hr, List.length_drop, hl]; omega
  have wi : IntKind.i64.wrap ((n : Int) - (a : Int)) = ((rs.length : Nat) : Int) := by rw [hrl, IntKind.wrap_i64]; omega
  clear R O hS hl hr hrl
  go_enter Tryz.func75, Tryz.ntmps75
  go_upto_region 1 with (fail)
  go_region
  go_wp2_with fail
  exact bodyPost_ret (results_tmp rfl _ _ _) rfl ⟨rfl, HR.out.drew⟩
set_option maxRecDepth 100000 in
set_option maxHeartbeats 2000000 in
theorem num_t (R : Tk w0 M X g w rs) (hB : ∀ l ∈ rs, isBytes l) :
    Calls Tryz.prog 72 #[.pointer (some ⟨g, 0, none⟩)] w fun e w' => e = .returned (.int .i64 ((getB ((rs.headD []).take 4) : Nat) : Int)) ∧ Tk w0 M X g w' rs.tail := by
  have HR := Lib.hid R
  have hbl : isBytes (rs.headD []) := by
    cases rs with
    | nil => intro y hy; cases hy
    | cons l ls => exact hB l (by simp)
  obtain ⟨y, hy⟩ : ∃ y, y = rs.headD [] := ⟨_, rfl⟩
  rw [← hy] at hbl
  rw [← hy]
  have HY := Lib.hid hy
  have HBL := Lib.hid hbl
  clear R hB hbl hy
  go_enter Tryz.func72, Tryz.ntmps72
  go_wp2_with fail
  refine (next_t HR.out).mono ?_
  rintro e w1 ⟨p, m, c, rfl, S, R1⟩
  rw [← HY.out] at S
  have HM := Lib.hid S.len
  have HS := Lib.hid S
  clear S HR
  have HR := Lib.hid R1
  clear R1
  go_wp2_with fail
  go_loopw [4, 5] (fun v iv wy => ∃ i : Nat, i ≤ m ∧ i ≤ 4 ∧ iv = .int .i64 (i : Int) ∧ v = .int .i64 (getB (y.take i) : Nat) ∧ wy = w1) (fun _ iv _ => (4 - intOf iv).toNat)
  case atStart => exact ⟨0, by omega, by omega, rfl, rfl, rfl⟩
  case round =>
    obtain ⟨i, hi1, hi2, rfl, rfl, rfl⟩ := hrel
    by_cases hlt : i < m ∧ i < 4
    · obtain ⟨h1, h2⟩ := hlt
      have hd : decide ((i : Int) < (m : Int)) = true := by rw [decide_eq_true_eq]; omega
      have hd2 : decide ((i : Int) < 4) = true := by rw [decide_eq_true_eq]; omega
      obtain ⟨b, off, cs, T, fr, rfl, f0, hs, hc⟩ := HS.out.at h1
      obtain ⟨x, hx⟩ : ∃ x, x = getB (y.take i) := ⟨_, rfl⟩
      rw [← hx]
      have HX := Lib.hid hx
      clear hx
      have hil : i < y.length := by rw [HM.out]; exact h1
      have hx8 : x < 16777216 := by
        rw [HX.out]
        have h1 := getB_lt i (y.take i) (by rw [List.length_take]; omega) fun z hz => HBL.out z (List.mem_of_mem_take hz)
        have h2 : (256 : Nat) ^ i ≤ 256 ^ 3 := Nat.pow_le_pow_right (by omega) (by omega)
        omega
      have hb := el_byte HBL.out hil
      obtain ⟨z, hz⟩ : ∃ z : Nat, el y i = (z : Int) := ⟨(el y i).toNat, by omega⟩
      have HZ := Lib.hid hz
      rw [hz] at hc hb
      have hc2 := (Array.getElem?_eq_some_iff.1 hc).2
      have w1 : IntKind.i64.wrap ((x : Int) * 256) = ((x * 256 : Nat) : Int) := by
        rw [IntKind.wrap_i64]; omega
      have w2 : IntKind.i64.wrap (z : Int) = (z : Int) := by
        rw [IntKind.wrap_i64]; omega
      have w3 : IntKind.i64.wrap (((x * 256 : Nat) : Int) + (z : Int)) = ((x * 256 + z : Nat) : Int) := by
        rw [IntKind.wrap_i64]; omega
      have w4 : IntKind.i64.wrap ((i : Int) + 1) = ((i + 1 : Nat) : Int) := by rw [IntKind.wrap_i64]; omega
      clear hz
      go_wp2
      go_roundw
      case rel =>
        refine ⟨i + 1, by omega, by omega, by simp, ?_, by first | rfl | trivial⟩
        rw [take_el hil, getB_snoc, ← HX.out, HZ.out]
        simp
      case measure => simp [intOf]; omega
    · have hz : y.take i = y.take 4 := by
        by_cases h4 : i = 4
        · rw [h4]
        · rw [List.take_of_length_le (by rw [HM.out]; omega), List.take_of_length_le (by rw [HM.out]; omega)]
      have HZ := Lib.hid hz
      clear hz
      by_cases h1 : i < m
      · obtain rfl : i = 4 := by omega
        have hd : decide (((4 : Nat) : Int) < (m : Int)) = true := by rw [decide_eq_true_eq]; omega
        have hd2 : decide (((4 : Nat) : Int) < 4) = false := rfl
        go_wp2_with fail
        exact bodyPost_ret (results_tmp rfl _ _ _) rfl ⟨rfl, HR.out⟩
      · have hd : decide ((i : Int) < (m : Int)) = false := by rw [decide_eq_false_iff_not]; omega
        go_wp2_with fail
        exact bodyPost_ret (results_tmp rfl _ _ _) rfl ⟨by rw [HZ.out]; rfl, HR.out⟩
end
end Go.Proofs.YtbhnfohoclcjdaaGreat
namespace Go.Proofs.YtbhnfohoclcjdaaGreat
open Go.RowKit Go.Dr Go.Kd
/-- So many bytes of it, and noughts behind. -/
def padB (k : Nat) (y : Bs) : Bs := lay (List.replicate k 0) 0 (y.take k)
theorem padB_length (k : Nat) (y : Bs) : (padB k y).length = k := by
  unfold padB
  rw [length_lay _ _ _ (by rw [List.length_take, List.length_replicate]; omega), List.length_replicate]
theorem padB_whole {k : Nat} {y : Bs} (h : y.length = k) : padB k y = y := by
  unfold padB lay
  rw [List.take_of_length_le (l := y) (by omega), h]
  simp
theorem padB_nil (k : Nat) : padB k [] = List.replicate k 0 := by simp [padB, lay]
theorem padB_bytes {k : Nat} {y : Bs} (h : isBytes y) : isBytes (padB k y) := fun z hz => by
  unfold padB lay at hz
  simp only [List.take_zero, List.nil_append, List.mem_append] at hz
  rcases hz with hz | hz
  · exact h z (List.mem_of_mem_take hz)
  · have := List.eq_of_mem_replicate (List.mem_of_mem_drop hz)
    omega
set_option maxRecDepth 100000 in
@[go_sem] theorem run_copy_zero (w : World) (ty : TypeId) (d : Addr) (dl dc c : Nat) (p : Option Addr) : (Builtin.copy_ #[49, 49] ty #[.slice (some d) dl dc, .slice p 0 c]).run Tryz.prog w = .ok (.int .i64 0) w := by
  have hm : Nat.min 0 dl = 0 := Nat.zero_min dl
  cases p with
  | none =>
    simp only [Builtin.copy_, Builtin.lenOf, Builtin.firstCells, List.getElem?_toArray, List.getElem?_cons_zero, List.getElem?_cons_succ, Sem.run_bind, run_underlying (show Tryz.prog.underlying 49 = some (.slice (Tryz.prog.elem 49)) by kernel_rfl), Result.andThen_ok, Sem.run_pure, hm]
    rfl
  | some a =>
    rw [run_copy_slices _ _ _ _ _ _ _ _ _ _ (by kernel_rfl), hm]
    rfl
section
variable {w0 w w' : World} {M X L : List (Nat × Obj)} {g : Nat} {rs : List Bs}
set_option maxRecDepth 100000 in
set_option maxHeartbeats 4000000 in
theorem key_t (R : Tk w0 M X g w rs) :
    Calls Tryz.prog 109 #[.pointer (some ⟨g, 0, none⟩)] w fun e w' => e = .returned (.agg (ints .u8 (padB 32 (rs.headD [])))) ∧ Tk w0 M X g w' rs.tail := by
  have HR := Lib.hid R
  obtain ⟨y, hy⟩ : ∃ y, y = rs.headD [] := ⟨_, rfl⟩
  rw [← hy]
  obtain ⟨v, hv⟩ : ∃ v, v = padB 32 y := ⟨_, rfl⟩
  have hvl : v.length = 32 := by rw [hv, padB_length]
  rw [← hv]
  have HY := Lib.hid hy
  have HV := Lib.hid hv
  clear R hy hv
  go_enter Tryz.func109, Tryz.ntmps109
  go_upto_region 2 with (fail)
  obtain ⟨zs, hzs⟩ : ∃ zs : List Int, zs = List.replicate 32 0 := ⟨_, rfl⟩
  refine named_world (A := fun V => Tk w0 M ((w.heap.size + 1, .cells (ints .u8 zs) 33) :: (w.heap.size, .cells (ints .u8 zs) 33) :: X) g V rs) (Q := fun V => Code.wp _ _ _ _ V) (by rw [hzs]; exact (HR.out.alloc _ _ rfl).alloc _ _ (by simp)) ?_
  intro V R
  have hz : zs.length = 32 := by rw [hzs, List.length_replicate]
  have hsz : (ints .u8 zs).size = 32 := by rw [size_ints, hz]
  have HZ := Lib.hid hzs
  clear hzs HR
  generalize w.heap.size + 1 = b1 at *
  generalize w.heap.size = b0 at *
  have HR := Lib.hid R
  have f1 := R.blk
  have t1 := World.at_lt f1
  clear R
  refine drawn_begin 4 (fun w' => ∃ l, w'.blk b1 = some (.cells (ints .u8 l) 33)) (by kernel_rfl) ?_
  refine drawn_reads (fuel := 2) [0, 1] rfl (by kernel_rfl) ⟨_, f1⟩ ?_
  repeat (refine rowK_step rfl (fun K hK => ?_); go_simp; refine hK _ ?_; clear hK K)
  refine rowK_nil ⟨fun w' e1 => ?_, ?_⟩
  · clear f1 t1
    obtain ⟨l1, e1⟩ := e1
    have t1 := World.at_lt e1
    repeat (refine rowWp_step rfl (fun K hK => ?_); go_simp; refine hK _ ?_; clear hK K)
    exact rowWp_nil rfl
  refine drawn_next 2 (fuel := 1) rfl (by kernel_rfl) ?_
  intro K hK
  go_wp2_with fail
  refine (next_t HR.out.drew).mono ?_
  rintro e w1 ⟨p, m, c, rfl, S, R1⟩
  rw [← HY.out] at S
  clear HR f1 t1
  have f1 := R1.blk
  have t1 := World.at_lt f1
  have f0 := (R1.permX (List.Perm.swap ..)).blk
  have t0 := World.at_lt f0
  have HR := Lib.hid R1
  have HM := Lib.hid S.len
  have HS := Lib.hid S
  clear R1 S
  go_wp2_with fail
  refine ⟨⟨_, f1⟩, ?_⟩
  refine drawn_next 3 (fuel := 0) rfl (by kernel_rfl) ?_
  intro K hK
  by_cases hm : m = 0
  · subst hm
    have hv0 : v = zs := by
      have : y = [] := List.length_eq_zero_iff.1 HM.out
      rw [HV.out, this, padB_nil, HZ.out]
    subst hv0
    go_wp2
    refine ⟨⟨v, f1⟩, ?_⟩
    refine drawn_end rfl (by kernel_rfl) ?_
    intro K hK
    skip
    have hs2 : (ints .u8 v).size = 32 := by rw [size_ints, hvl]
    have htk : List.take 32 v = v := List.take_of_length_le (by omega)
    go_wp2_with fail
    have R4 := ((HR.out.permX (List.Perm.swap ..)).put (.cells (ints .u8 v) 33))
    refine ret_cell rfl rfl rfl ?_
    exact cellRet_of R4.blk (aggB_ints hvl (by kernel_rfl)) ⟨rfl, R4.pop.pop⟩
  · obtain ⟨bb, off, cs, TT, fr, rfl, fc, hs2, hx⟩ := HS.out.out (by omega)
    have tc := World.at_lt fc
    have hx2 : ∀ k, k = min m 32 → List.take k (List.drop off cs.toList) = List.map (Value.int .u8) (y.take 32) := fun k hk => by
      rw [hk, Nat.min_comm, ← List.take_take, List.map_take, ← hx, Array.toList_extract, List.extract_eq_take_drop, Nat.add_sub_cancel_left]
    obtain ⟨y2, hy2⟩ : ∃ y2, y2 = y.take 32 := ⟨_, rfl⟩
    rw [← hy2] at hx2
    have hon : ones (List.map (Value.int .u8) y2) = true := ones_map_int _ _
    have hln : y2.length = min m 32 := by rw [hy2, List.length_take, HM.out, Nat.min_comm]
    have HX := Lib.hid hx2
    have hvv : lay zs 0 y2 = v := by rw [HV.out, HZ.out, hy2]; rfl
    have HO := Lib.hid (HR.out.put (.cells (ints .u8 v) 33))
    clear hx hx2 hy2
    by_cases h32 : m ≤ 32
    · have e5 := HX.out m (by omega)
      have hmn : min m 32 = m := by omega
      rw [hmn] at hln
      skip
      go_wp2
      refine ⟨⟨v, HO.out.blk⟩, ?_⟩
      refine drawn_end rfl (by kernel_rfl) ?_
      intro K hK
      clear f1 t1 f0 t0 fc tc
      have f1 := HO.out.blk
      have t1 := World.at_lt f1
      have f0 := (HO.out.permX (List.Perm.swap ..)).blk
      have t0 := World.at_lt f0
      have hs2 : (ints .u8 v).size = 32 := by rw [size_ints, hvl]
      have htk : List.take 32 v = v := List.take_of_length_le (by omega)
      go_wp2_with fail
      have R4 := ((HO.out.permX (List.Perm.swap ..)).put (.cells (ints .u8 v) 33))
      refine ret_cell rfl rfl rfl ?_
      exact cellRet_of R4.blk (aggB_ints hvl (by kernel_rfl)) ⟨rfl, R4.pop.pop⟩
    · have e5 := HX.out 32 (by omega)
      have hmn : min m 32 = 32 := by omega
      rw [hmn] at hln
      have e6 : y2 = v := by rw [← hvv]; simp [lay, hz, hln]
      subst e6
      go_wp2
      refine ⟨⟨_, HO.out.blk⟩, ?_⟩
      refine drawn_end rfl (by kernel_rfl) ?_
      intro K hK
      clear f1 t1 f0 t0 fc tc
      have f1 := HO.out.blk
      have t1 := World.at_lt f1
      have f0 := (HO.out.permX (List.Perm.swap ..)).blk
      have t0 := World.at_lt f0
      have hs2 : (ints .u8 y2).size = 32 := by rw [size_ints, hvl]
      have htk : List.take 32 y2 = y2 := List.take_of_length_le (by omega)
      go_wp2_with fail
      have R4 := ((HO.out.permX (List.Perm.swap ..)).put (.cells (ints .u8 y2) 33))
      refine ret_cell rfl rfl rfl ?_
      exact cellRet_of R4.blk (aggB_ints hvl (by kernel_rfl)) ⟨rfl, R4.pop.pop⟩
set_option maxRecDepth 100000 in
set_option maxHeartbeats 4000000 in
theorem sig_t (R : Tk w0 M X g w rs) :
    Calls Tryz.prog 110 #[.pointer (some ⟨g, 0, none⟩)] w fun e w' => e = .returned (.agg (ints .u8 (padB 64 (rs.headD [])))) ∧ Tk w0 M X g w' rs.tail := by
  have HR := Lib.hid R
  obtain ⟨y, hy⟩ : ∃ y, y = rs.headD [] := ⟨_, rfl⟩
  rw [← hy]
  obtain ⟨v, hv⟩ : ∃ v, v = padB 64 y := ⟨_, rfl⟩
  have hvl : v.length = 64 := by rw [hv, padB_length]
  rw [← hv]
  have HY := Lib.hid hy
  have HV := Lib.hid hv
  clear R hy hv
  go_enter Tryz.func110, Tryz.ntmps110
  go_upto_region 2 with (fail)
  obtain ⟨zs, hzs⟩ : ∃ zs : List Int, zs = List.replicate 64 0 := ⟨_, rfl⟩
  refine named_world (A := fun V => Tk w0 M ((w.heap.size + 1, .cells (ints .u8 zs) 44) :: (w.heap.size, .cells (ints .u8 zs) 44) :: X) g V rs) (Q := fun V => Code.wp _ _ _ _ V) (by rw [hzs]; exact (HR.out.alloc _ _ rfl).alloc _ _ (by simp)) ?_
  intro V R
  have hz : zs.length = 64 := by rw [hzs, List.length_replicate]
  have hsz : (ints .u8 zs).size = 64 := by rw [size_ints, hz]
  have HZ := Lib.hid hzs
  clear hzs HR
  generalize w.heap.size + 1 = b1 at *
  generalize w.heap.size = b0 at *
  have HR := Lib.hid R
  have f1 := R.blk
  have t1 := World.at_lt f1
  clear R
  refine drawn_begin 4 (fun w' => ∃ l, w'.blk b1 = some (.cells (ints .u8 l) 44)) (by kernel_rfl) ?_
  refine drawn_reads (fuel := 2) [0, 1] rfl (by kernel_rfl) ⟨_, f1⟩ ?_
  repeat (refine rowK_step rfl (fun K hK => ?_); go_simp; refine hK _ ?_; clear hK K)
  refine rowK_nil ⟨fun w' e1 => ?_, ?_⟩
  · clear f1 t1
    obtain ⟨l1, e1⟩ := e1
    have t1 := World.at_lt e1
    repeat (refine rowWp_step rfl (fun K hK => ?_); go_simp; refine hK _ ?_; clear hK K)
    exact rowWp_nil rfl
  refine drawn_next 2 (fuel := 1) rfl (by kernel_rfl) ?_
  intro K hK
  go_wp2_with fail
  refine (next_t HR.out.drew).mono ?_
  rintro e w1 ⟨p, m, c, rfl, S, R1⟩
  rw [← HY.out] at S
  clear HR f1 t1
  have f1 := R1.blk
  have t1 := World.at_lt f1
  have f0 := (R1.permX (List.Perm.swap ..)).blk
  have t0 := World.at_lt f0
  have HR := Lib.hid R1
  have HM := Lib.hid S.len
  have HS := Lib.hid S
  clear R1 S
  go_wp2_with fail
  refine ⟨⟨_, f1⟩, ?_⟩
  refine drawn_next 3 (fuel := 0) rfl (by kernel_rfl) ?_
  intro K hK
  by_cases hm : m = 0
  · subst hm
    have hv0 : v = zs := by
      have : y = [] := List.length_eq_zero_iff.1 HM.out
      rw [HV.out, this, padB_nil, HZ.out]
    subst hv0
    go_wp2
    refine ⟨⟨v, f1⟩, ?_⟩
    refine drawn_end rfl (by kernel_rfl) ?_
    intro K hK
    skip
    have hs2 : (ints .u8 v).size = 64 := by rw [size_ints, hvl]
    have htk : List.take 64 v = v := List.take_of_length_le (by omega)
    go_wp2_with fail
    have R4 := ((HR.out.permX (List.Perm.swap ..)).put (.cells (ints .u8 v) 44))
    refine ret_cell rfl rfl rfl ?_
    exact cellRet_of R4.blk (aggB_ints hvl (by kernel_rfl)) ⟨rfl, R4.pop.pop⟩
  · obtain ⟨bb, off, cs, TT, fr, rfl, fc, hs2, hx⟩ := HS.out.out (by omega)
    have tc := World.at_lt fc
    have hx2 : ∀ k, k = min m 64 → List.take k (List.drop off cs.toList) = List.map (Value.int .u8) (y.take 64) := fun k hk => by
      rw [hk, Nat.min_comm, ← List.take_take, List.map_take, ← hx, Array.toList_extract, List.extract_eq_take_drop, Nat.add_sub_cancel_left]
    obtain ⟨y2, hy2⟩ : ∃ y2, y2 = y.take 64 := ⟨_, rfl⟩
    rw [← hy2] at hx2
    have hon : ones (List.map (Value.int .u8) y2) = true := ones_map_int _ _
    have hln : y2.length = min m 64 := by rw [hy2, List.length_take, HM.out, Nat.min_comm]
    have HX := Lib.hid hx2
    have hvv : lay zs 0 y2 = v := by rw [HV.out, HZ.out, hy2]; rfl
    have HO := Lib.hid (HR.out.put (.cells (ints .u8 v) 44))
    clear hx hx2 hy2
    by_cases h64 : m ≤ 64
    · have e5 := HX.out m (by omega)
      have hmn : min m 64 = m := by omega
      rw [hmn] at hln
      skip
      go_wp2
      refine ⟨⟨v, HO.out.blk⟩, ?_⟩
      refine drawn_end rfl (by kernel_rfl) ?_
      intro K hK
      clear f1 t1 f0 t0 fc tc
      have f1 := HO.out.blk
      have t1 := World.at_lt f1
      have f0 := (HO.out.permX (List.Perm.swap ..)).blk
      have t0 := World.at_lt f0
      have hs2 : (ints .u8 v).size = 64 := by rw [size_ints, hvl]
      have htk : List.take 64 v = v := List.take_of_length_le (by omega)
      go_wp2_with fail
      have R4 := ((HO.out.permX (List.Perm.swap ..)).put (.cells (ints .u8 v) 44))
      refine ret_cell rfl rfl rfl ?_
      exact cellRet_of R4.blk (aggB_ints hvl (by kernel_rfl)) ⟨rfl, R4.pop.pop⟩
    · have e5 := HX.out 64 (by omega)
      have hmn : min m 64 = 64 := by omega
      rw [hmn] at hln
      have e6 : y2 = v := by rw [← hvv]; simp [lay, hz, hln]
      subst e6
      go_wp2
      refine ⟨⟨_, HO.out.blk⟩, ?_⟩
      refine drawn_end rfl (by kernel_rfl) ?_
      intro K hK
      clear f1 t1 f0 t0 fc tc
      have f1 := HO.out.blk
      have t1 := World.at_lt f1
      have f0 := (HO.out.permX (List.Perm.swap ..)).blk
      have t0 := World.at_lt f0
      have hs2 : (ints .u8 y2).size = 64 := by rw [size_ints, hvl]
      have htk : List.take 64 y2 = y2 := List.take_of_length_le (by omega)
      go_wp2_with fail
      have R4 := ((HO.out.permX (List.Perm.swap ..)).put (.cells (ints .u8 y2) 44))
      refine ret_cell rfl rfl rfl ?_
      exact cellRet_of R4.blk (aggB_ints hvl (by kernel_rfl)) ⟨rfl, R4.pop.pop⟩
end
end Go.Proofs.YtbhnfohoclcjdaaGreat
namespace Go.Proofs.YtbhnfohoclcjdaaGreat
open Go.RowKit Go.Dr Go.Kd
/-- The bundle as the document reads it. -/
def dBn (ps : List Bs) : Bn := ⟨((getB ((ps.headD []).take 4) % 256 : Nat) : Int), padB 32 (ps.tail.headD []), padB 32 (ps.tail.tail.headD []), ((getB ((ps.tail.tail.tail.headD []).take 4) % 65536 : Nat) : Int), padB 32 (ps.tail.tail.tail.tail.headD []), padB 64 (ps.tail.tail.tail.tail.tail.headD [])⟩
theorem headD_bytes {ps : List Bs} (h : ∀ l ∈ ps, isBytes l) : isBytes (ps.headD []) := by
  cases ps with
  | nil => intro y hy; cases hy
  | cons l ls => exact h l (by simp)
theorem tail_bytes {ps : List Bs} (h : ∀ l ∈ ps, isBytes l) : ∀ l ∈ ps.tail, isBytes l := fun l hl => h l (List.mem_of_mem_tail hl)
theorem dBn_ok {ps : List Bs} (h : ∀ l ∈ ps, isBytes l) : BnOk (dBn ps) := by
  have h1 := tail_bytes h
  have h2 := tail_bytes h1
  have h3 := tail_bytes h2
  have h4 := tail_bytes h3
  have h5 := tail_bytes h4
  exact ⟨by simp only [dBn]; omega, by simp only [dBn]; omega, by simp only [dBn]; omega, by simp only [dBn]; omega, padB_length _ _, padB_length _ _, padB_length _ _, padB_length _ _, padB_bytes (headD_bytes h1), padB_bytes (headD_bytes h2), padB_bytes (headD_bytes h4), padB_bytes (headD_bytes h5)⟩
theorem putB_getB1 {a : Bs} (hl : a.length = 1) (h : isBytes a) : putB (getB a) 1 = a := by
  match a, hl with
  | [x], _ =>
    have hx := h x (by simp)
    simp [putB, getB]
    omega
theorem putB_getB2 {a : Bs} (hl : a.length = 2) (h : isBytes a) : putB (getB a) 2 = a := by
  match a, hl with
  | [x, y], _ =>
    have hx := h x (by simp)
    have hy := h y (by simp)
    simp [putB, getB, List.range_succ]
    omega
theorem bunB_fits {x : Bn} (h : BnOk x) : fits [putB x.device.toNat 1, x.agree, x.signer, putB x.id.toNat 2, x.once, x.sig] = true := by
  simp [fits, putB_len, h.al, h.sl, h.ol, h.gl]
theorem rdOk_bun {x : Bn} (h : BnOk x) : opP (bunB x) = [putB x.device.toNat 1, x.agree, x.signer, putB x.id.toNat 2, x.once, x.sig] ∧ rdOk (opP (bunB x)) = true := by
  have e : opP (bunB x) = [putB x.device.toNat 1, x.agree, x.signer, putB x.id.toNat 2, x.once, x.sig] := by
    unfold opP bunB
    rw [splitB_join (bunB_fits h)]
    rfl
  exact ⟨e, by rw [e]; simp [rdOk, putB_len, h.al, h.sl, h.ol, h.gl]⟩
theorem opP_back {B : Bs} (hB : isBytes B) (h : rdOk (opP B) = true) : B = joinB (opP B) := by
  cases hs : splitB B with
  | none =>
    have : opP B = [] := by rw [opP, hs]; rfl
    rw [this] at h
    cases h
  | some ps =>
    have : opP B = ps := by rw [opP, hs]; rfl
    rw [this]
    exact (splitB_back hB hs).1
theorem dBn_eq {ps : List Bs} (hB : ∀ l ∈ ps, isBytes l) (h : rdOk ps = true) : dBn ps = bnOf ps ∧ bunB (bnOf ps) = joinB ps := by
  rcases ps with _ | ⟨a, _ | ⟨b, _ | ⟨c, _ | ⟨d, _ | ⟨e, _ | ⟨f, _ | ⟨g, l⟩⟩⟩⟩⟩⟩⟩ <;> simp [rdOk] at h
  obtain ⟨la, lb, lc, ld, le, lf⟩ := h
  have ba := hB a (by simp)
  have bd := hB d (by simp)
  have ga : getB a < 256 := by have := getB_lt 1 a la ba; omega
  have gd : getB d < 65536 := by have := getB_lt 2 d ld bd; omega
  constructor
  · simp only [dBn, bnOf, List.headD_cons, List.tail_cons, List.getD_cons_zero, List.getD_cons_succ]
    rw [List.take_of_length_le (by omega), List.take_of_length_le (by omega), Nat.mod_eq_of_lt ga, Nat.mod_eq_of_lt gd, padB_whole lb, padB_whole lc, padB_whole le, padB_whole lf]
  · simp only [bunB, bnOf, List.getD_cons_zero, List.getD_cons_succ, Int.toNat_natCast]
    rw [putB_getB1 la ba, putB_getB2 ld bd]
theorem dBn_iff {B : Bs} (hB : isBytes B) : bunB (dBn (opP B)) = B ↔ rdOk (opP B) = true := by
  constructor
  · intro h
    have := (rdOk_bun (dBn_ok (opP_bytes hB))).2
    rw [h] at this
    exact this
  · intro h
    rw [(dBn_eq (opP_bytes hB) h).1, (dBn_eq (opP_bytes hB) h).2]
    exact (opP_back hB h).symm
section
variable {w : World}
set_option maxRecDepth 100000 in
set_option maxHeartbeats 2000000 in
theorem topen_f {p : Option Addr} {n c : Nat} {B : Bs} (S : Sl .u8 w p n c B) (hB : isBytes B) (hn : n ≤ 100000) :
    Calls Tryz.prog 71 #[.slice p n c] w fun e w' => ∃ g M, e = .returned (.tuple #[.pointer (some ⟨g, 0, none⟩), .bool (!(opP B).isEmpty)]) ∧ Tk w M [] g w' (opP B) := by
  have HS := Lib.hid S
  have HB := Lib.hid hB
  clear S hB
  obtain ⟨o, ho⟩ : ∃ o, o = splitB B := ⟨_, rfl⟩
  obtain ⟨P, hP⟩ : ∃ P, P = opP B := ⟨_, rfl⟩
  have hP2 : P = o.getD [] := by rw [hP, ho, opP]
  obtain ⟨ok, hok⟩ : ∃ ok, ok = !P.isEmpty := ⟨_, rfl⟩
  rw [← hP, ← hok]
  have HO := Lib.hid ho
  have HP := Lib.hid hP2
  have HK := Lib.hid hok
  clear ho hP hP2 hok
  go_enter Tryz.func71, Tryz.ntmps71
  go_wp2_with fail
  refine (dsplit_f HS.out HB.out hn).mono ?_
  intro e w1 h
  rw [← HO.out] at h
  match o, h with
  | none, h =>
    obtain ⟨why, hw, rfl, F⟩ := h
    have O2 := ((OwB.start w).call F).alloc (.cells #[.slice none 0 0, .int .i64 0] 186)
    have HO2 := Lib.hid O2
    have d : (why == 0) = false := by simpa using hw
    clear O2 F
    go_wp2_with fail
    refine bodyPost_ret (results_tmp2 rfl _ _ _) rfl ⟨w1.heap.size, [], ?_, ?_⟩
    · rw [HK.out, HP.out]; rfl
    · rw [HP.out]
      exact ⟨none, 0, 0, 0, [], HO2.out, sly_nil _, rfl, by omega, by omega, rfl⟩
  | some ls, h =>
    obtain ⟨q, c2, M, rfl, O, hT, hS⟩ := h
    have hl64 : ls.length ≤ 64 := by
      have := (splitB_back HB.out HO.out.symm).2
      simp only [fits, Bool.and_eq_true, decide_eq_true_eq] at this
      exact this.1
    have HPs : Hid (P = ls) := HP
    have HSs := Lib.hid hS
    have O2 := O.alloc (.cells #[.slice q ls.length c2, .int .i64 0] 186)
    have HO2 := Lib.hid O2
    have H64 := Lib.hid hl64
    have hd : decide ((ls.length : Int) > 0) = ok := by rw [HK.out, HPs.out]; cases ls <;> simp <;> omega
    have hd2 : decide (0 < ls.length) = ok := by rw [HK.out, HPs.out]; cases ls <;> simp
    clear O hS hT O2 hl64
    go_wp2_with fail
    refine bodyPost_ret (results_tmp2 rfl _ _ _) rfl ⟨w1.heap.size, M, ?_, ?_⟩
    · first | rfl | (rw [← hd2]; rfl)
    · rw [HPs.out]
      exact ⟨q, ls.length, c2, 0, ls, by rw [List.append_nil]; exact HO2.out, HSs.out, rfl, by have := H64.out; omega, by omega, rfl⟩
end
end Go.Proofs.YtbhnfohoclcjdaaGreat
namespace Go.Proofs.YtbhnfohoclcjdaaGreat
open Go.RowKit Go.Dr Go.Kd
/-- No bundle. -/
def zBn : Bn := ⟨0, List.replicate 32 0, List.replicate 32 0, 0, List.replicate 32 0, List.replicate 64 0⟩
theorem zBn_c : Tryz.zeroCells65 = bnC zBn := z65_eq
/-- What reading a bundle comes to. -/
def dRd (B : Bs) : Bn := if rdOk (opP B) = true then bnOf (opP B) else zBn
section
variable {w : World}
set_option maxRecDepth 100000 in
set_option maxHeartbeats 8000000 in
theorem readbun_f {p : Option Addr} {n c : Nat} {B : Bs} (S : Sl .u8 w p n c B) (hB : isBytes B) (hn : n ≤ 100000) :
    Calls Tryz.prog 74 #[.slice p n c] w fun e w' => ∃ b : Bool, e = .returned (.tuple #[.agg (bnC (dRd B)), .bool b]) ∧ Fr [] w w' := by
  have HS := Lib.hid S
  have HB := Lib.hid hB
  have HB0 : Hid (∀ l ∈ opP B, isBytes l) := Lib.hid (opP_bytes hB)
  clear S hB
  obtain ⟨rr, hrr⟩ : ∃ rr, rr = bnC (dRd B) := ⟨_, rfl⟩
  rw [← hrr]
  have HRR := Lib.hid hrr
  obtain ⟨ls0, hls0⟩ : ∃ ls0, ls0 = opP B := ⟨_, rfl⟩
  rw [← hls0] at HB0
  have HL0 := Lib.hid hls0
  clear hls0 hrr
  go_enter Tryz.func74, Tryz.ntmps74
  go_upto_region 1 with (fail)
  refine named_world (A := fun V => ∃ zb : Array Value, zb.size = 162 ∧ OwB w [(w.heap.size, .cells zb 65)] V) (Q := fun V => Code.wp _ _ _ _ V) ⟨_, rfl, (OwB.start w).allocN _ _ rfl⟩ ?_
  rintro V ⟨zb, hzb, O⟩
  generalize w.heap.size = b0 at *
  have HO := Lib.hid O
  clear O
  go_wp2_with fail
  refine (topen_f (HS.out.fr0 HO.out.fr) HB.out hn).mono ?_
  rintro e w1 ⟨g, M, rfl, R⟩
  obtain ⟨ok, hok⟩ : ∃ ok, ok = !(opP B).isEmpty := ⟨_, rfl⟩
  rw [← hok]
  rw [← HL0.out] at R
  have HOK := Lib.hid hok
  have R2 : Tk w M [(b0, .cells zb 65)] g w1 ls0 := by
    obtain ⟨q, n, c, a, ls, O, h⟩ := R.ex
    exact ⟨q, n, c, a, ls, by simpa using HO.out.merge O, h⟩
  have HR := Lib.hid R2
  clear R R2 HO hok
  go_wp2_with fail
  refine (num_t HR.out HB0.out).mono ?_
  rintro e w2 ⟨rfl, R⟩
  clear HR
  obtain ⟨d0, hd⟩ : ∃ d0, d0 = getB ((ls0.headD []).take 4) := ⟨_, rfl⟩
  rw [← hd]
  obtain ⟨d, ed⟩ : ∃ d : Nat, d = d0 % 256 := ⟨_, rfl⟩
  have wid : IntKind.u8.wrap (d0 : Int) = (d : Int) := by rw [IntKind.wrap_u8, ed]; omega
  have ld : d < 256 := by omega
  have Hd2 : Hid (d = getB ((ls0.headD []).take 4) % 256) := Lib.hid (by rw [ed, hd])
  have ld2 := Lib.hid ld
  clear hd ed ld
  obtain ⟨ls1, hls1⟩ : ∃ ls1, ls1 = ls0.tail := ⟨_, rfl⟩
  rw [← hls1] at R
  have HB1 : Hid (∀ l ∈ ls1, isBytes l) := Lib.hid fun l hl => HB0.out l (by rw [hls1] at hl; exact List.mem_of_mem_tail hl)
  have HL1 := Lib.hid hls1
  clear hls1
  have HR := Lib.hid R
  clear R
  go_wp2_with fail
  refine (key_t HR.out).mono ?_
  rintro e w3 ⟨rfl, R⟩
  clear HR
  obtain ⟨ag, hag⟩ : ∃ ag, ag = padB 32 (ls1.headD []) := ⟨_, rfl⟩
  rw [← hag]
  have lag : ag.length = 32 := by rw [hag, padB_length]
  have Hag2 := Lib.hid hag
  have lag2 := Lib.hid lag
  clear hag
  obtain ⟨ls2, hls2⟩ : ∃ ls2, ls2 = ls1.tail := ⟨_, rfl⟩
  rw [← hls2] at R
  have HB2 : Hid (∀ l ∈ ls2, isBytes l) := Lib.hid fun l hl => HB1.out l (by rw [hls2] at hl; exact List.mem_of_mem_tail hl)
  have HL2 := Lib.hid hls2
  clear hls2
  have HR := Lib.hid R
  clear R
  go_wp2_with fail
  refine (key_t HR.out).mono ?_
  rintro e w4 ⟨rfl, R⟩
  clear HR
  obtain ⟨sg, hsg⟩ : ∃ sg, sg = padB 32 (ls2.headD []) := ⟨_, rfl⟩
  rw [← hsg]
  have lsg : sg.length = 32 := by rw [hsg, padB_length]
  have Hsg2 := Lib.hid hsg
  have lsg2 := Lib.hid lsg
  clear hsg
  obtain ⟨ls3, hls3⟩ : ∃ ls3, ls3 = ls2.tail := ⟨_, rfl⟩
  rw [← hls3] at R
  have HB3 : Hid (∀ l ∈ ls3, isBytes l) := Lib.hid fun l hl => HB2.out l (by rw [hls3] at hl; exact List.mem_of_mem_tail hl)
  have HL3 := Lib.hid hls3
  clear hls3
  have HR := Lib.hid R
  clear R
  go_wp2_with fail
  refine (num_t HR.out HB3.out).mono ?_
  rintro e w5 ⟨rfl, R⟩
  clear HR
  obtain ⟨i0, hi⟩ : ∃ i0, i0 = getB ((ls3.headD []).take 4) := ⟨_, rfl⟩
  rw [← hi]
  obtain ⟨i, ei⟩ : ∃ i : Nat, i = i0 % 65536 := ⟨_, rfl⟩
  have wii : IntKind.u16.wrap (i0 : Int) = (i : Int) := by rw [IntKind.wrap_u16, ei]; omega
  have li : i < 65536 := by omega
  have Hi2 : Hid (i = getB ((ls3.headD []).take 4) % 65536) := Lib.hid (by rw [ei, hi])
  have li2 := Lib.hid li
  clear hi ei li
  obtain ⟨ls4, hls4⟩ : ∃ ls4, ls4 = ls3.tail := ⟨_, rfl⟩
  rw [← hls4] at R
  have HB4 : Hid (∀ l ∈ ls4, isBytes l) := Lib.hid fun l hl => HB3.out l (by rw [hls4] at hl; exact List.mem_of_mem_tail hl)
  have HL4 := Lib.hid hls4
  clear hls4
  have HR := Lib.hid R
  clear R
  go_wp2_with fail
  refine (key_t HR.out).mono ?_
  rintro e w6 ⟨rfl, R⟩
  clear HR
  obtain ⟨on, hon⟩ : ∃ on, on = padB 32 (ls4.headD []) := ⟨_, rfl⟩
  rw [← hon]
  have lon : on.length = 32 := by rw [hon, padB_length]
  have Hon2 := Lib.hid hon
  have lon2 := Lib.hid lon
  clear hon
  obtain ⟨ls5, hls5⟩ : ∃ ls5, ls5 = ls4.tail := ⟨_, rfl⟩
  rw [← hls5] at R
  have HB5 : Hid (∀ l ∈ ls5, isBytes l) := Lib.hid fun l hl => HB4.out l (by rw [hls5] at hl; exact List.mem_of_mem_tail hl)
  have HL5 := Lib.hid hls5
  clear hls5
  have HR := Lib.hid R
  clear R
  go_wp2_with fail
  refine (sig_t HR.out).mono ?_
  rintro e w7 ⟨rfl, R⟩
  clear HR
  obtain ⟨gg, hgg⟩ : ∃ gg, gg = padB 64 (ls5.headD []) := ⟨_, rfl⟩
  rw [← hgg]
  have lgg : gg.length = 64 := by rw [hgg, padB_length]
  have Hgg2 := Lib.hid hgg
  have lgg2 := Lib.hid lgg
  clear hgg
  obtain ⟨ls6, hls6⟩ : ∃ ls6, ls6 = ls5.tail := ⟨_, rfl⟩
  rw [← hls6] at R
  have HB6 : Hid (∀ l ∈ ls6, isBytes l) := Lib.hid fun l hl => HB5.out l (by rw [hls6] at hl; exact List.mem_of_mem_tail hl)
  have HL6 := Lib.hid hls6
  clear hls6
  have HR := Lib.hid R
  clear R
  have hsx := bn_build (d : Int) (i : Int) lag2.out lsg2.out lon2.out lgg2.out
  obtain ⟨x, hx⟩ : ∃ x : Bn, x = ⟨d, ag, sg, i, on, gg⟩ := ⟨_, rfl⟩
  have hxd : x = dBn (opP B) := by
    rw [hx, dBn, ← HL0.out, ← HL1.out, ← HL2.out, ← HL3.out, ← HL4.out, ← HL5.out, Hd2.out, Hag2.out, Hsg2.out, Hi2.out, Hon2.out, Hgg2.out]
  have hxo : BnOk x := by rw [hxd]; exact dBn_ok (opP_bytes HB.out)
  rw [← hx] at hsx
  obtain ⟨xs, hxs⟩ : ∃ xs, xs = bnC x := ⟨_, rfl⟩
  rw [← hxs] at hsx
  have hsz : xs.size = 162 := by rw [hxs, List.size_toArray]; exact cBundle_length _ _ _ _ _ _ hxo.al hxo.sl hxo.ol hxo.gl
  have hon : ones xs.toList = true := by
    rw [hxs]
    exact List.all_eq_true.2 (cBundle_one _ _ _ _ _ _ rfl rfl)
  have z65 : Tryz.zeroCells65.size = 162 := by kernel_rfl
  have z65o : ones Tryz.zeroCells65.toList = true := by kernel_rfl
  have HX := Lib.hid hxs
  have HXD := Lib.hid hxd
  have HXO := Lib.hid hxo
  clear hxs hxd hxo hx
  go_upto_region 3 with (fail)
  refine named_world (A := fun V => OwB w [(w7.heap.size, .cells xs 65), (b0, .cells zb 65)] V) (Q := fun V => Code.wp _ _ _ _ V) ?_ ?_
  · obtain ⟨q, n, c, a, ls, O, h⟩ := (HR.out.alloc (.cells xs 65) _ rfl).ex
    exact O.sub ((List.sublist_append_right M _).trans (List.sublist_cons_self _ _))
  intro V3 O3
  generalize w7.heap.size = b3 at *
  have f3 := O3.nth 0 rfl
  have t3 := World.at_lt f3
  have f0 := O3.nth 1 rfl
  have t0 := World.at_lt f0
  have hO := Lib.hid O3
  clear O3 hsx HR
  have hrb : ∀ W : World, Calls Tryz.prog 66 #[.agg xs] W fun e w' => ∃ q m c, e = .returned (.slice q m c) ∧ Bld W [] .u8 5 w' q m c (bunB x) := fun W => by
    rw [HX.out]
    exact rbundle_f HXO.out
  have HRB := Lib.hid hrb
  have hex : xs.extract 0 162 = xs := by rw [← hsz]; simp
  clear hrb
  by_cases hg : ok = true ∧ bunB x = B
  · obtain ⟨rfl, hb⟩ := hg
    have hrd : rdOk (opP B) = true := (dBn_iff HB.out).1 (by rw [← HXD.out]; exact hb)
    have hre : rr = xs := by rw [HRR.out, HX.out, HXD.out, dRd, if_pos hrd, (dBn_eq (opP_bytes HB.out) hrd).1]
    have HRE := Lib.hid hre
    have HBB := Lib.hid hb
    clear hrd hre hb
    go_wp2_with fail
    refine (HRB.out _).mono ?_
    rintro e w8 ⟨q, m, c2, rfl, BB⟩
    rw [HBB.out] at BB
    have HBD := Lib.hid BB
    have hO2 := Lib.hid (hO.out.call BB.own.fr)
    clear BB f3 t3 f0 t0
    go_wp2_with fail
    refine (bytes_f HBD.out.sl (HS.out.fr0 hO2.out.fr) HB.out HB.out).mono ?_
    rintro e w9 ⟨rfl, F9⟩
    have hO3 := Lib.hid (hO2.out.call F9)
    have hd : decide (B = B) = true := by simp
    rw [hd]
    clear F9 hd
    have f3 := hO3.out.nth 0 rfl
    have t3 := World.at_lt f3
    have f0 := hO3.out.nth 1 rfl
    have t0 := World.at_lt f0
    go_wp2_with fail
    have hf := hO3.out.set 1 (.cells xs 65) rfl
    refine ret_cell_tmp rfl rfl rfl ?_
    refine cellRet_of (hf.nth 1 rfl) (by rw [hsz]; kernel_rfl) ⟨true, ?_, hf.fr⟩
    rw [HRE.out]
    rfl
  · have hrd : ¬ rdOk (opP B) = true := fun h => hg ⟨by
      rw [HOK.out]
      cases hp : opP B with
      | nil => rw [hp] at h; cases h
      | cons => rfl, by rw [HXD.out]; exact (dBn_iff HB.out).2 h⟩
    have hrz : rr = Tryz.zeroCells65 := by rw [HRR.out, dRd, if_neg hrd, zBn_c]
    have HRZ := Lib.hid hrz
    have HG := Lib.hid hg
    clear hrd hrz hg
    cases ok with
    | false =>
      go_wp2_with fail
      have hf := hO.out.set 1 (.cells Tryz.zeroCells65 65) rfl
      refine ret_cell_tmp rfl rfl rfl ?_
      refine cellRet_of (hf.nth 1 rfl) (by rw [z65]; kernel_rfl) ⟨false, ?_, hf.fr⟩
      rw [HRZ.out]
      rfl
    | true =>
      have hn2 : ¬ bunB x = B := fun h => HG.out ⟨rfl, h⟩
      have HN := Lib.hid hn2
      clear hn2
      go_wp2_with fail
      refine (HRB.out _).mono ?_
      rintro e w8 ⟨q, m, c2, rfl, BB⟩
      have HBD := Lib.hid BB
      have hO2 := Lib.hid (hO.out.call BB.own.fr)
      clear BB f3 t3 f0 t0
      go_wp2_with fail
      refine (bytes_f HBD.out.sl (HS.out.fr0 hO2.out.fr) (isBytes_bunB HXO.out) HB.out).mono ?_
      rintro e w9 ⟨rfl, F9⟩
      clear hO
      have hO := Lib.hid (hO2.out.call F9)
      have hd : decide (bunB x = B) = false := by simpa using HN.out
      rw [hd]
      clear F9 hd
      have f3 := hO.out.nth 0 rfl
      have t3 := World.at_lt f3
      have f0 := hO.out.nth 1 rfl
      have t0 := World.at_lt f0
      go_wp2_with fail
      have hf := hO.out.set 1 (.cells Tryz.zeroCells65 65) rfl
      refine ret_cell_tmp rfl rfl rfl ?_
      refine cellRet_of (hf.nth 1 rfl) (by rw [z65]; kernel_rfl) ⟨false, ?_, hf.fr⟩
      rw [HRZ.out]
      rfl
end
end Go.Proofs.YtbhnfohoclcjdaaGreat
namespace Go.Proofs.YtbhnfohoclcjdaaGreat
open Go.RowKit Go.Dr Go.Kd
theorem eqFields_both {d : Nat} {xs ys : Array Value} {f : Field} {fs : List Field} {w : World} {v u : Value} {b r : Bool} (hn : (f.name == "_") = false) (hx : (part f.type xs f.offset).run Tryz.prog w = .ok v w) (hy : (part f.type ys f.offset).run Tryz.prog w = .ok u w) (he : (Op.equalIn d f.type v u).run Tryz.prog w = .ok b w) (h : (Op.eqFields d xs ys fs).run Tryz.prog w = .ok r w) :
    (Op.eqFields d xs ys (f :: fs)).run Tryz.prog w = .ok (b && r) w := by
  have hn' : f.name ≠ "_" := by simpa using hn
  cases b <;> simp [Op.eqFields, hn', hx, hy, he, h]
theorem eq65_both {x y : Bn} (hx : BnOk x) (hy : BnOk y) (w : World) : (Op.equalIn 10000 65 (.agg (bnC x)) (.agg (bnC y))).run Tryz.prog w = .ok (decide (x.device = y.device) && (decide (x.agree = y.agree) && (decide (x.signer = y.signer) && (decide (x.id = y.id) && (decide (x.once = y.once) && (decide (x.sig = y.sig) && true)))))) w := by
  rw [run_equalIn_agg (w := w) (P := Tryz.prog) 9999 65 _ _ und65 stood65]
  obtain ⟨fs, hfs⟩ : ∃ fs, fs = (Tryz.prog.fieldsOf 65).toList := ⟨_, rfl⟩
  have hf := fields65
  rw [← hfs] at hf ⊢
  clear hfs
  obtain ⟨xs, hxs⟩ : ∃ xs, xs = bnC x := ⟨_, rfl⟩
  have hszx : xs.size = 162 := by rw [hxs]; exact bnC_size hx
  have g0 : xs[0]? = some (.int .u8 x.device) := by rw [hxs]; exact cBundle_get_device _ _ _ _ _ _ hx.al hx.sl hx.ol hx.gl
  have g1 : xs.extract 1 33 = ints .u8 x.agree := by rw [hxs]; exact cBundle_ext_agree _ _ _ _ _ _ hx.al hx.sl hx.ol hx.gl
  have g2 : xs.extract 33 65 = ints .u8 x.signer := by rw [hxs]; exact cBundle_ext_signer _ _ _ _ _ _ hx.al hx.sl hx.ol hx.gl
  have g3 : xs[65]? = some (.int .u16 x.id) := by rw [hxs]; exact cBundle_get_id _ _ _ _ _ _ hx.al hx.sl hx.ol hx.gl
  have g4 : xs.extract 66 98 = ints .u8 x.once := by rw [hxs]; exact cBundle_ext_once _ _ _ _ _ _ hx.al hx.sl hx.ol hx.gl
  have g5 : xs.extract 98 162 = ints .u8 x.sig := by rw [hxs]; exact cBundle_ext_sig _ _ _ _ _ _ hx.al hx.sl hx.ol hx.gl
  obtain ⟨ys, hys⟩ : ∃ ys, ys = bnC y := ⟨_, rfl⟩
  have hszy : ys.size = 162 := by rw [hys]; exact bnC_size hy
  have k0 : ys[0]? = some (.int .u8 y.device) := by rw [hys]; exact cBundle_get_device _ _ _ _ _ _ hy.al hy.sl hy.ol hy.gl
  have k1 : ys.extract 1 33 = ints .u8 y.agree := by rw [hys]; exact cBundle_ext_agree _ _ _ _ _ _ hy.al hy.sl hy.ol hy.gl
  have k2 : ys.extract 33 65 = ints .u8 y.signer := by rw [hys]; exact cBundle_ext_signer _ _ _ _ _ _ hy.al hy.sl hy.ol hy.gl
  have k3 : ys[65]? = some (.int .u16 y.id) := by rw [hys]; exact cBundle_get_id _ _ _ _ _ _ hy.al hy.sl hy.ol hy.gl
  have k4 : ys.extract 66 98 = ints .u8 y.once := by rw [hys]; exact cBundle_ext_once _ _ _ _ _ _ hy.al hy.sl hy.ol hy.gl
  have k5 : ys.extract 98 162 = ints .u8 y.sig := by rw [hys]; exact cBundle_ext_sig _ _ _ _ _ _ hy.al hy.sl hy.ol hy.gl
  rw [← hxs, ← hys]
  rcases fs with _ | ⟨f0, _ | ⟨f1, _ | ⟨f2, _ | ⟨f3, _ | ⟨f4, _ | ⟨f5, _ | ⟨f6, fs⟩⟩⟩⟩⟩⟩⟩ <;> simp only [List.map_nil, List.map_cons, List.cons.injEq, Prod.mk.injEq, reduceCtorEq, and_true, and_false, List.nil_eq] at hf
  obtain ⟨⟨n0, t0, o0⟩, ⟨n1, t1, o1⟩, ⟨n2, t2, o2⟩, ⟨n3, t3, o3⟩, ⟨n4, t4, o4⟩, n5, t5, o5⟩ := hf
  refine eqFields_both n0 (by rw [t0, o0]; exact part_u8 g0) (by rw [t0, o0]; exact part_u8 k0) (by rw [t0, run_equalIn_int w 9998 5 .u8 .u8 _ _ Tryz.underlying5]; congr 1) ?_
  refine eqFields_both n1 (by rw [t1, o1]; exact part_key g1 (by omega)) (by rw [t1, o1]; exact part_key k1 (by omega)) (by rw [t1, eq34 _ _ hx.al hy.al w 9997]) ?_
  refine eqFields_both n2 (by rw [t2, o2]; exact part_key g2 (by omega)) (by rw [t2, o2]; exact part_key k2 (by omega)) (by rw [t2, eq34 _ _ hx.sl hy.sl w 9997]) ?_
  refine eqFields_both n3 (by rw [t3, o3]; exact part_u16 g3) (by rw [t3, o3]; exact part_u16 k3) (by rw [t3, run_equalIn_int w 9998 63 .u16 .u16 _ _ Tryz.underlying63]; congr 1) ?_
  refine eqFields_both n4 (by rw [t4, o4]; exact part_key g4 (by omega)) (by rw [t4, o4]; exact part_key k4 (by omega)) (by rw [t4, eq34 _ _ hx.ol hy.ol w 9997]) ?_
  refine eqFields_both n5 (by rw [t5, o5]; exact part_sig g5 (by omega)) (by rw [t5, o5]; exact part_sig k5 (by omega)) (by rw [t5, eq45 _ _ hx.gl hy.gl w 9997]) ?_
  simp [Op.eqFields]
end Go.Proofs.YtbhnfohoclcjdaaGreat
namespace Go.Proofs.YtbhnfohoclcjdaaGreat
open Go.RowKit Go.Dr Go.Kd
theorem zBn_ok : BnOk zBn := by
  have h0 : ∀ n, isBytes (List.replicate n (0 : Int)) := fun n y hy => by
    have := List.eq_of_mem_replicate hy
    omega
  exact ⟨by simp [zBn], by simp [zBn], by simp [zBn], by simp [zBn], by simp [zBn], by simp [zBn], by simp [zBn], by simp [zBn], h0 32, h0 32, h0 32, h0 64⟩
/-- The pieces of a shelf that may be packed. -/
def pkL (hs : Bool) (f : Bn) (ls : List Bn) (last : Nat) : List Bs := putB last 2 :: (if hs = true then bunB f else []) :: ls.map bunB
/-- A shelf may be packed: few bundles, and no first where it has none. -/
def pkOk (hs : Bool) (f : Bn) (ls : List Bn) : Prop := ls.length ≤ 8 ∧ (hs = false → f = zBn)
theorem pkL_fits {hs : Bool} {f : Bn} {ls : List Bn} {last : Nat} (hf : BnOk f) (hl : ∀ x ∈ ls, BnOk x) (h : ls.length ≤ 8) : fits (pkL hs f ls last) = true := by
  unfold fits pkL
  rw [Bool.and_eq_true, decide_eq_true_eq, List.all_eq_true]
  refine ⟨by simp only [List.length_cons, List.length_map]; omega, fun p hp => ?_⟩
  rw [decide_eq_true_eq]
  simp only [List.mem_cons, List.mem_map] at hp
  rcases hp with rfl | rfl | ⟨x, hx, rfl⟩
  · rw [putB_len]; omega
  · split
    · rw [bunB_length hf]; omega
    · simp
  · rw [bunB_length (hl x hx)]; omega
theorem dRd_bun {x : Bn} (hx : BnOk x) : dRd (bunB x) = x := by
  obtain ⟨e, h⟩ := rdOk_bun hx
  have hb := isBytes_bunB hx
  have h2 := (dBn_iff hb).2 h
  rw [dRd, if_pos h, e]
  simp only [bnOf, List.getD_cons_zero, List.getD_cons_succ]
  obtain ⟨d, hd⟩ := Int.eq_ofNat_of_zero_le hx.d0
  obtain ⟨i, hi⟩ := Int.eq_ofNat_of_zero_le hx.i0
  have d1 : d < 256 := by have := hx.d1; omega
  have i1 : i < 65536 := by have := hx.i1; omega
  have e1 : getB (putB d 1) = d := by simp [putB, getB]; omega
  have e2 : getB (putB i 2) = i := by simp [putB, getB, List.range_succ]; omega
  cases x
  simp only at hd hi
  subst hd
  subst hi
  simp only [Int.toNat_natCast, e1, e2]
end Go.Proofs.YtbhnfohoclcjdaaGreat
namespace Go.Proofs.YtbhnfohoclcjdaaGreat
open Go.RowKit Go.Dr Go.Kd
/-- What a shelf's bytes say: is there a first bundle, which, the others, the last number. -/
def unpk (B : Bs) : Option (Bool × Bn × List Bn × Nat) :=
  match splitB B with
  | some (a :: p :: l) => if a.length = 2 ∧ l.length ≤ 8 ∧ (p = [] ∨ rdOk (opP p) = true) ∧ (∀ q ∈ l, rdOk (opP q) = true) then some (!p.isEmpty, dRd p, l.map dRd, getB a) else none
  | _ => none
theorem dRd_nil : dRd [] = zBn := rfl
theorem dRd_ok {p : Bs} (hp : isBytes p) : BnOk (dRd p) := by
  unfold dRd
  split
  · rename_i h
    rw [← (dBn_eq (opP_bytes hp) h).1]
    exact dBn_ok (opP_bytes hp)
  · exact zBn_ok
theorem bunB_dRd {p : Bs} (hp : isBytes p) (h : rdOk (opP p) = true) : bunB (dRd p) = p := by
  rw [dRd, if_pos h, (dBn_eq (opP_bytes hp) h).2]
  exact (opP_back hp h).symm
/-- The document's shelf out of the pieces. -/
def dHs (ps : List Bs) : Bool := !(ps.tail.headD []).isEmpty
def dLast (ps : List Bs) : Nat := getB ((ps.headD []).take 4) % 65536
def dLs (ps : List Bs) : List Bn := ps.tail.tail.map dRd
def dFull (ps : List Bs) : List Bs := pkL (dHs ps) (dRd (ps.tail.headD [])) (dLs ps) (dLast ps)
theorem dRd_of_no {ps : List Bs} (h : dHs ps = false) : dRd (ps.tail.headD []) = zBn := by
  have : ps.tail.headD [] = [] := by simpa [dHs] using h
  rw [this, dRd_nil]
theorem isEmpty_bunB {x : Bn} (h : BnOk x) : (bunB x).isEmpty = false := by
  have := bunB_length h
  cases hb : bunB x with
  | nil => rw [hb] at this; cases this
  | cons => rfl
theorem unpk_yes {B : Bs} (hB : isBytes B) (h8 : (dLs (opP B)).length ≤ 8) (h : joinB (dFull (opP B)) = B) :
    unpk B = some (dHs (opP B), dRd ((opP B).tail.headD []), dLs (opP B), dLast (opP B)) := by
  have hps := opP_bytes hB
  have h1 := headD_bytes (tail_bytes hps)
  have okf := dRd_ok h1
  have okl : ∀ x ∈ dLs (opP B), BnOk x := fun x hx => by
    obtain ⟨q, hq, rfl⟩ := List.mem_map.1 hx
    exact dRd_ok (tail_bytes (tail_bytes hps) q hq)
  have hfit : fits (dFull (opP B)) = true := pkL_fits okf okl h8
  have hs : splitB B = some (dFull (opP B)) := by
    rw [← splitB_join hfit, h]
  have hop : opP B = dFull (opP B) := by
    conv => lhs; rw [opP, hs]
    rfl
  unfold unpk
  rw [hs]
  rw [dFull, pkL] at hop ⊢
  have hl2 : getB (putB (dLast (opP B)) 2) = dLast (opP B) := by
    have : dLast (opP B) < 65536 := Nat.mod_lt _ (by decide)
    simp [putB, getB, List.range_succ]
    omega
  have hml : ((dLs (opP B)).map bunB).map dRd = dLs (opP B) := by
    rw [List.map_map]
    conv => rhs; rw [← List.map_id (dLs (opP B))]
    exact List.map_congr_left fun x hx => dRd_bun (okl x hx)
  have hall : ∀ q ∈ (dLs (opP B)).map bunB, rdOk (opP q) = true := fun q hq => by
    obtain ⟨x, hx, rfl⟩ := List.mem_map.1 hq
    exact (rdOk_bun (okl x hx)).2
  cases hh : dHs (opP B) with
  | true =>
    simp only [if_true]
    rw [if_pos ⟨putB_len _ _, by rw [List.length_map]; exact h8, .inr (rdOk_bun okf).2, hall⟩, isEmpty_bunB okf, dRd_bun okf, hml, hl2]
    rfl
  | false =>
    simp only [Bool.false_eq_true, if_false]
    rw [if_pos ⟨putB_len _ _, by rw [List.length_map]; exact h8, .inl trivial, hall⟩, hml, hl2, dRd_nil, dRd_of_no hh]
    rfl
theorem unpk_back {B : Bs} (hB : isBytes B) {r : Bool × Bn × List Bn × Nat} (h : unpk B = some r) :
    opP B ≠ [] ∧ (dLs (opP B)).length ≤ 8 ∧ joinB (dFull (opP B)) = B := by
  unfold unpk at h
  split at h
  · rename_i a p l hs
    have hop : opP B = a :: p :: l := by rw [opP, hs]; rfl
    have hps := opP_bytes hB
    rw [hop] at hps ⊢
    split at h
    · rename_i hc
      obtain ⟨ha, hl, hp, hall⟩ := hc
      have hab := hps a (by simp)
      have hpb := hps p (by simp)
      have hga : getB a < 65536 := by have := getB_lt 2 a ha hab; omega
      refine ⟨by simp, by simpa [dLs] using hl, ?_⟩
      rw [(splitB_back hB hs).1]
      congr 1
      simp only [dFull, pkL, dHs, dLs, dLast, List.headD_cons, List.tail_cons]
      rw [List.take_of_length_le (by omega), Nat.mod_eq_of_lt hga, putB_getB2 ha hab]
      congr 1
      congr 1
      · cases p with
        | nil => rfl
        | cons x p =>
          have : rdOk (opP (x :: p)) = true := by
            rcases hp with hp | hp
            · cases hp
            · exact hp
          simp only [List.isEmpty_cons, Bool.not_false, if_true]
          exact bunB_dRd hpb this
      · rw [List.map_map]
        conv => rhs; rw [← List.map_id l]
        exact List.map_congr_left fun q hq => bunB_dRd (hps q (by simp [hq])) (hall q hq)
    · cases h
  · cases h
theorem unpk_ok {B : Bs} (hB : isBytes B) {hs : Bool} {f : Bn} {ls : List Bn} {last : Nat} (h : unpk B = some (hs, f, ls, last)) : BnOk f ∧ (∀ x ∈ ls, BnOk x) ∧ ls.length ≤ 8 ∧ (hs = false → f = zBn) ∧ last < 65536 := by
  obtain ⟨h1, h2, h3⟩ := unpk_back hB h
  have hy := unpk_yes hB h2 h3
  rw [hy] at h
  simp only [Option.some.injEq, Prod.mk.injEq] at h
  obtain ⟨rfl, rfl, rfl, rfl⟩ := h
  have hps := opP_bytes hB
  refine ⟨dRd_ok (headD_bytes (tail_bytes hps)), fun x hx => ?_, h2, dRd_of_no, Nat.mod_lt _ (by decide)⟩
  obtain ⟨q, hq, rfl⟩ := List.mem_map.1 hx
  exact dRd_ok (tail_bytes (tail_bytes hps) q hq)
/-- What was packed is read as it. -/
theorem unpk_pack {hs : Bool} {f : Bn} {ls : List Bn} {last : Nat} (hf : BnOk f) (hls : ∀ x ∈ ls, BnOk x) (h8 : ls.length ≤ 8) (hno : hs = false → f = zBn) (hla : last < 65536) :
    unpk (joinB (pkL hs f ls last)) = some (hs, f, ls, last) := by
  unfold unpk
  rw [splitB_join (pkL_fits hf hls h8), pkL]
  have hl2 : getB (putB last 2) = last := by
    simp [putB, getB, List.range_succ]
    omega
  have hml : (ls.map bunB).map dRd = ls := by
    rw [List.map_map]
    conv => rhs; rw [← List.map_id ls]
    exact List.map_congr_left fun x hx => dRd_bun (hls x hx)
  have hall : ∀ q ∈ ls.map bunB, rdOk (opP q) = true := fun q hq => by
    obtain ⟨x, hx, rfl⟩ := List.mem_map.1 hq
    exact (rdOk_bun (hls x hx)).2
  cases hs with
  | true =>
    simp only [if_true]
    rw [if_pos ⟨putB_len _ _, by rw [List.length_map]; exact h8, .inr (rdOk_bun hf).2, hall⟩, isEmpty_bunB hf, dRd_bun hf, hml, hl2]
    rfl
  | false =>
    simp only [Bool.false_eq_true, if_false]
    rw [if_pos ⟨putB_len _ _, by rw [List.length_map]; exact h8, .inl trivial, hall⟩, hml, hl2, dRd_nil, hno rfl]
    rfl
theorem unpk_nil : unpk [] = none := rfl
end Go.Proofs.YtbhnfohoclcjdaaGreat
