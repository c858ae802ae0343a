/- Joined: SoU, SoV, SoT. -/
import Derived.Test.YtombhkekocbfoaaZn
import Derived.Sort.Walk0
import Derived.Test.YtombhkekocbfoaaZp
import Derived.Test.YtombhkekocbfoaaRows
import Derived.Test.YtombhkekocbfoaaZb
import Derived.Test.YtombhkekocbfoaaZf
import Derived.Test.YtombhkekocbfoaaZh
import Derived.ProofKit
import Derived.OpenShut
import Derived.SizedLaws
import Derived.Deep.Slices
set_option linter.unusedVariables false
set_option linter.unusedSimpArgs false
namespace Go.St
open Go.Kd Go.Dr
/-- What Do still has to hand out. -/
def doF (n v : Bs) : Bool → List (Bs × Bs) → List (Bs × Bs)
  | done, [] => if done then [] else [(n, v)]
  | done, x :: L => (if done = false ∧ n < x.1 then [(n, v)] else []) ++ (if x.1 ≠ n then [x] else []) ++ doF n v (done || decide (n < x.1)) L
theorem doF_true {n v : Bs} : ∀ L : List (Bs × Bs), doF n v true L = delL n L := by
  intro L
  induction L with
  | nil => rfl
  | cons x L ih =>
    rw [doF, Bool.true_or, ih, delL, delL, List.filter_cons]
    by_cases h : x.1 = n
    · simp [h]
    · simp [h]
theorem delL_above {n : Bs} : ∀ {L : List (Bs × Bs)}, (∀ x ∈ L, n < x.1) → delL n L = L := by
  intro L h
  refine List.filter_eq_self.2 fun x hx => ?_
  have := h x hx
  simp only [ne_eq, decide_not, Bool.not_eq_true', decide_eq_false_iff_not]
  intro e
  rw [e] at this
  exact bs_irrefl _ this
theorem doF_false {n v : Bs} : ∀ {L : List (Bs × Bs)}, Sorted L → doF n v false L = putL n v L := by
  intro L
  induction L with
  | nil => intro _; rfl
  | cons x L ih =>
    intro hs
    obtain ⟨m, u⟩ := x
    have h2 := List.pairwise_cons.1 hs
    rw [doF, putL]
    simp only [true_and, Bool.false_or]
    by_cases hlt : n < m
    · have hne : m ≠ n := fun e => by rw [e] at hlt; exact bs_irrefl _ hlt
      rw [if_pos hlt, if_pos hlt, if_pos hne, decide_eq_true hlt, doF_true, delL_above fun x hx => bs_trans hlt (h2.1 x hx)]
      rfl
    · rw [if_neg hlt, if_neg hlt, decide_eq_false hlt, ih h2.2]
      by_cases he : n = m
      · subst he
        rw [if_neg (by simp), if_pos rfl]
        have : putL n v L = (n, v) :: L := by
          cases L with
          | nil => rfl
          | cons y L =>
            have := h2.1 y (by simp)
            rw [putL, if_pos this]
        rw [this]
        rfl
      · rw [if_pos (fun e => he e.symm), if_neg he]
        rfl
theorem doF_doC {c : Chg} {L : List (Bs × Bs)} (hs : Sorted L) : doF c.name c.val c.gone L = doC L c := by
  unfold doC
  cases hg : c.gone with
  | true => rw [if_pos rfl]; exact doF_true L
  | false => rw [if_neg (by simp)]; exact doF_false hs
end Go.St
namespace Go.Proofs.Ytombhkekocbfoaa
open Go.RowKit Go.Dr Go.Kd Go.St
theorem less_str {a b : Bs} (ha : Byt a) (hb : Byt b) : Op.bytesLess (strB a).toList (strB b).toList = decide (a < b) := by
  rw [bytesLess_eq, ByteArray.toList_eq, ByteArray.toList_eq]
  exact decide_eq_decide.2 (u8_lt ha hb)
/-- Slices among these values lie elsewhere than in these blocks. -/
def Away (av : List Nat) (us : List Value) : Prop := ∀ u ∈ us, ∀ q m d, u = Value.slice q m d → 0 < m → ∀ k, q.map (·.block) = some k → k ∉ av
/-- Changes that lie elsewhere than in these blocks. -/
def ChsA (w : World) (av : List Nat) (p : Option Addr) (n cap : Nat) (l : List Chg) : Prop := ∃ vs, Sv 3 w p n cap vs ∧ ChV w vs l ∧ Away av vs ∧ (0 < n → ∀ k, p.map (·.block) = some k → k ∉ av)
theorem ChsA.chs {w : World} {av : List Nat} {p : Option Addr} {n cap : Nat} {l : List Chg} (h : ChsA w av p n cap l) : Chs w p n cap l := by
  obtain ⟨vs, h1, h2, -⟩ := h
  exact ⟨vs, h1, h2⟩
theorem ChsA.fr0 {w w' : World} {av : List Nat} {p : Option Addr} {n cap : Nat} {l : List Chg} (h : ChsA w av p n cap l) (F : Fr [] w w') : ChsA w' av p n cap l := by
  obtain ⟨vs, h1, h2, h3⟩ := h
  exact ⟨vs, h1.fr0 F, h2.fr0 F, h3⟩
theorem Chs.away {w : World} {p : Option Addr} {n cap : Nat} {l : List Chg} (h : Chs w p n cap l) : ChsA w [] p n cap l := by
  obtain ⟨vs, h1, h2⟩ := h
  exact ⟨vs, h1, h2, (fun _ _ _ _ _ _ _ _ _ => by simp), fun _ _ _ => by simp⟩
theorem chV_turn {w w' : World} {fp : List Nat} (F : Fr fp w w') : ∀ {vs : List Value} {l : List Chg}, ChV w vs l → Away fp vs → ChV w' vs l := by
  intro vs l h
  induction h with
  | nil => intro _; exact .nil
  | cons h hs ih =>
    intro ha
    refine .cons ?_ (ih fun u hu => ha u (by simp [hu]))
    rename_i q m d c vs l
    rcases Nat.eq_zero_or_pos m with h0 | h0
    · subst h0; exact sl_zero h
    · exact sl_fr h F fun k hk => ha (.slice q m d) (by simp) q m d rfl h0 k hk
theorem ChV.lt {w : World} {vs : List Value} {l : List Chg} (h : ChV w vs l) : ∀ u ∈ vs, ∀ q m d, u = Value.slice q m d → 0 < m → ∀ k, q.map (·.block) = some k → k < w.heap.size := by
  induction h with
  | nil => intro u hu; cases hu
  | cons h hs ih =>
    intro u hu q m d e h0 k hk
    simp only [List.mem_cons] at hu
    rcases hu with hu | hu | hu | hu
    · subst e; cases hu
    · subst e
      cases hu
      obtain ⟨bb, off, cs, T, fr, rfl, fc, -⟩ := h.out h0
      simp only [Option.map_some, Option.some.injEq] at hk
      subst hk
      exact World.at_lt fc
    · subst e; cases hu
    · exact ih u hu q m d e h0 k hk
/-- What lies elsewhere than in a disk's blocks stays, and lies elsewhere behind it. -/
theorem ChsA.fr {w w' : World} {fp fp' : List Nat} {p : Option Addr} {n cap : Nat} {l : List Chg} (h : ChsA w fp p n cap l) (F : Fr fp w w') (N : News w fp fp') : ChsA w' fp' p n cap l := by
  obtain ⟨vs, h1, h2, h3, h4⟩ := h
  have hrow : n = 0 ∨ ∀ b, p.map (·.block) = some b → b ∉ fp := by
    rcases Nat.eq_zero_or_pos n with h0 | h0
    · exact .inl h0
    · exact .inr (h4 h0)
  refine ⟨vs, ?_, chV_turn F h2 h3, fun u hu q m d e h0 k hk hf => ?_, fun h0 k hk hf => ?_⟩
  · rcases hrow with h0 | h0
    · exact ⟨h1.len, h1.cap_, .inl h0, h1.nil, trivial⟩
    · exact h1.fr F h0
  · rcases N k hf with h5 | h5
    · exact h3 u hu q m d e h0 k hk h5
    · have := h2.lt u hu q m d e h0 k hk; omega
  · rcases N k hf with h5 | h5
    · exact h4 h0 k hk h5
    · rcases h1.row with h6 | ⟨b, off, cs, T, fr, rfl, hb, -⟩
      · omega
      · simp only [Option.map_some, Option.some.injEq] at hk
        subst hk
        have := World.at_lt hb; omega
theorem ChsA.at {w : World} {av : List Nat} {p : Option Addr} {n cap : Nat} {l : List Chg} (h : ChsA w av p n cap l) {j : Nat} (hj : j < n) : ∃ c q m d b off cs T fr, l[j]? = some c ∧ p = some ⟨b, off, none⟩ ∧ w.blk b = some (.cells cs T fr) ∧ off + j * 3 + 3 ≤ cs.size ∧ cs.extract (off + j * 3) (off + j * 3 + 3) = #[.string (strB c.name), .slice q m d, .bool c.gone] ∧ Sl .u8 w q m d c.val ∧ (0 < m → ∀ k, q.map (·.block) = some k → k ∉ av) := by
  have hl := h.chs.len
  obtain ⟨vs, h1, h2, h3, -⟩ := h
  obtain ⟨b, off, cs, T, fr, e1, e2, e3, e4, e5⟩ := h1.elem hj
  obtain ⟨c, hc⟩ : ∃ c, l[j]? = some c := ⟨_, List.getElem?_eq_getElem (by omega)⟩
  obtain ⟨q, m, d, h5, h4⟩ := h2.at j c hc
  refine ⟨c, q, m, d, b, off, cs, T, fr, hc, e1, e2, e4, by rw [e5, h5], h4, fun h0 k hk => h3 (.slice q m d) ?_ q m d rfl h0 k hk⟩
  have : Value.slice q m d ∈ (vs.drop (j * 3)).take 3 := by rw [h5]; simp
  exact List.mem_of_mem_drop (List.mem_of_mem_take this)
/-- Growing changes whose values lie where the call began. -/
structure GchF (w0 : World) (av : List Nat) (X : List (Nat × Obj)) (w : World) (q : Option Addr) (k c : Nat) (l : List Chg) : Prop where
  ex : ∃ us, BldV w0 X 32 3 w q k c us ∧ ChV w0 us l ∧ Away av us
section
variable {w0 w w' : World} {av : List Nat} {X : List (Nat × Obj)} {q p : Option Addr} {k c m d : Nat} {l : List Chg}
theorem GchF.nil (h : OwB w0 X w) : GchF w0 av X w none 0 0 [] := ⟨[], BldV.nil h, .nil, fun u hu => by cases hu⟩
theorem GchF.call (h : GchF w0 av X w q k c l) (F : Fr [] w w') : GchF w0 av X w' q k c l := by
  obtain ⟨us, B, S, A⟩ := h.ex
  exact ⟨us, B.call F, S, A⟩
theorem GchF.own (h : GchF w0 av X w q k c l) : OwB w0 X w := by
  obtain ⟨us, B, S, A⟩ := h.ex
  exact B.own
theorem GchF.chs (h : GchF w0 av X w q k c l) (hav : ∀ b ∈ av, b < w0.heap.size) : ChsA w av q k c l := by
  obtain ⟨us, B, S, A⟩ := h.ex
  exact ⟨us, B.sv, S.fr0 B.own.fr, A, fun _ g hg hm => by have := (B.new g hg).1; have := hav g hm; omega⟩
variable {ops : Array Oper} {rest : List Oper} {o : Oper} {a : Act} {Q : Exit → Act → World → Prop}
theorem wpList_app33F (hgd : o.guard = none) (s x : Operand) (ho : o.op = .call { callee := .builtin .append, args := #[s, x], argTypes := #[33, 33] })
    (hs : a.eval s = .slice q k c) {b : Nat} (hx : a.eval x = .slice (some ⟨b, 0, none⟩) 1 1) {fr : Nat × Nat} {y : Chg} (G : GchF w0 av X w q k c l) (S : Sl .u8 w0 p m d y.val) (hA : 0 < m → ∀ k, p.map (·.block) = some k → k ∉ av) (hb : w.blk b = some (.cells #[.string (strB y.name), .slice p m d, .bool y.gone] 32 fr)) (hbig : k + 1 ≤ 1000000)
    (h : ∀ q' c' w', GchF w0 av X w' q' (k + 1) c' (l ++ [y]) → wpList Try.prog ops Q rest (a.put o.dst (.slice q' (k + 1) c')) w') : wpList Try.prog ops Q (o :: rest) a w := by
  obtain ⟨us, B, hC, hAw⟩ := G.ex
  obtain ⟨i, hi, hz, hs1, hb1⟩ := info_parts info32
  have Sv3 : Sv 3 w (some ⟨b, 0, none⟩) 1 1 [.string (strB y.name), .slice p m d, .bool y.gone] :=
    ⟨rfl, Nat.le_refl 1, .inr ⟨b, 0, _, 32, fr, rfl, hb, by simp, by simp⟩, (fun h => by cases h), trivial⟩
  exact wpList_apdV hgd s x 33 33 ho Try.underlying33 hi hz hs1 (by omega) hb1 rfl hs B hx (Apd.ofSrc Try.underlying33 hi hz (by rw [hs1]; exact Sv3.src Try.underlying33 (by simp [Value.oneCell']))) (by omega) (by omega) fun q' c' w' B' => h q' c' w' ⟨us ++ [.string (strB y.name), .slice p m d, .bool y.gone], B', hC.append (.cons S .nil), fun u hu q2 m2 d2 e h0 k2 hk2 => by
    rcases List.mem_append.1 hu with hu | hu
    · exact hAw u hu q2 m2 d2 e h0 k2 hk2
    · subst e
      simp only [List.mem_cons, List.not_mem_nil, or_false] at hu
      rcases hu with h1 | h1 | h1
      · cases h1
      · cases h1; exact hA h0 k2 hk2
      · cases h1⟩
end
section
variable {w : World}
set_option maxRecDepth 100000 in
set_option maxHeartbeats 8000000 in
theorem do_f {av : List Nat} (hav : ∀ b ∈ av, b < w.heap.size) {p : Option Addr} {n cap : Nat} {L : List (Bs × Bs)} (T : ChsA w av p n cap (asC L)) (hL : ∀ x ∈ L, Byt x.1) (hS : Sorted L) (hn : n ≤ 100000) {q : Option Addr} {m d : Nat} {x : Chg} (S : Sl .u8 w q m d x.val) (hSA : 0 < m → ∀ k, q.map (·.block) = some k → k ∉ av) (hx : Byt x.name) :
    Calls Try.prog 49 #[.slice p n cap, .agg #[.string (strB x.name), .slice q m d, .bool x.gone]] w fun e w' => ∃ q' k c, e = .returned (.slice q' k c) ∧ ChsA w' av q' k c (asC (doC L x)) ∧ Fr [] w w' := by
  have HAV := Lib.hid hav
  have HSA := Lib.hid hSA
  have HT := Lib.hid T
  have HLB := Lib.hid hL
  have HXB := Lib.hid hx
  have HS := Lib.hid S
  have hlen : L.length = n := by have := T.chs.len; simpa [asC] using this
  have HLEN := Lib.hid hlen
  obtain ⟨R, hR⟩ : ∃ R, R = doC L x := ⟨_, rfl⟩
  have hR2 : R = doF x.name x.val x.gone L := hR.trans (doF_doC hS).symm
  rw [← hR]
  have HR := Lib.hid hR2
  obtain ⟨C, hC⟩ : ∃ C : Array Value, C = #[.string (strB x.name), .slice q m d, .bool x.gone] := ⟨_, rfl⟩
  rw [← hC]
  have szC : C.size = 3 := by rw [hC]; rfl
  have onC : ones C.toList = true := by rw [hC]; rfl
  have y0 := Array.getElem?_eq_some_iff.1 (show C[0]? = some (.string (strB x.name)) by rw [hC]; rfl)
  have y1 := Array.getElem?_eq_some_iff.1 (show C[1]? = some (.slice q m d) by rw [hC]; rfl)
  obtain ⟨g, hg⟩ : ∃ g, g = x.gone := ⟨_, rfl⟩
  have y2 := Array.getElem?_eq_some_iff.1 (show C[2]? = some (.bool g) by rw [hC, hg]; rfl)
  obtain ⟨X, hX⟩ : ∃ X, X = strB x.name := ⟨_, rfl⟩
  rw [← hX] at y0
  obtain ⟨y0', y0⟩ := y0
  obtain ⟨y1', y1⟩ := y1
  obtain ⟨y2', y2⟩ := y2
  have HC := Lib.hid hC
  have HG := Lib.hid hg
  have HX := Lib.hid hX
  clear T hL hx S hav hSA hlen hR hR2 hS hC hg hX
  go_enter Try.func49, Try.ntmps49
  go_upto_region 3 with (fail)
  refine OwB.named (Q := fun X => Code.wp _ _ _ _ X) ((OwB.start w).allocN (.cells C 32) w.heap.size rfl) ?_
  intro V hV
  obtain ⟨b3, hb3⟩ : ∃ b3, b3 = w.heap.size := ⟨_, rfl⟩
  rw [← hb3] at hV ⊢
  have HV := Lib.hid hV
  clear hV hb3
  go_wp2_with fail
  go_loopw [5, 6, 7] (fun v dv iv wy => ∃ (i : Nat) (q' : Option Addr) (k c : Nat) (dn : Bool) (out : List (Bs × Bs)), i ≤ n ∧ v = .slice q' k c ∧ dv = .bool dn ∧ iv = .int .i64 (i : Int) ∧ k ≤ 2 * i ∧ Hid (GchF w av [(b3, .cells C 32)] wy q' k c (asC out) ∧ out ++ doF x.name x.val dn (L.drop i) = R)) (fun _ _ iv _ => (n - intOf iv).toNat)
  case atStart => exact ⟨0, none, 0, 0, g, [], by omega, rfl, rfl, rfl, by omega, Lib.hid ⟨GchF.nil HV.out, by rw [HR.out, HG.out]; rfl⟩⟩
  case round =>
    obtain ⟨i, q', k, c, dn, out, hin, rfl, rfl, rfl, hk, hW⟩ := hrel
    by_cases hlt : i < n
    · have hd : decide ((i : Int) < (n : Int)) = true := by rw [decide_eq_true_eq]; omega
      obtain ⟨y, qy, my, dy, b, off, cs, TT, fr, hy, rfl, fb, hsz, hext, Sy, hya⟩ := HT.out.at hlt
      have fbw := hW.out.1.own.fr.get fb (by simp)
      have tb := World.at_lt fbw
      have f3 := hW.out.1.own.nth 0 rfl
      have t3 := World.at_lt f3
      have hxl : ∃ z, L[i]? = some z := ⟨_, List.getElem?_eq_getElem (by rw [HLEN.out]; exact hlt)⟩
      obtain ⟨z, hz⟩ := hxl
      have hyz : y = ⟨z.1, false, z.2⟩ := by
        have h := hy
        rw [asC, List.getElem?_map, hz] at h
        simpa using h.symm
      subst hyz
      obtain ⟨B, hB⟩ : ∃ B : Array Value, B = #[.string (strB z.1), .slice qy my dy, .bool false] := ⟨_, rfl⟩
      have hext2 : cs.extract (off + i * 3) (off + i * 3 + 3) = B := hext.trans hB.symm
      have szB : B.size = 3 := by rw [hB]; rfl
      have onB : ones B.toList = true := by rw [hB]; rfl
      obtain ⟨Y, hY⟩ : ∃ Y, Y = strB z.1 := ⟨_, rfl⟩
      have x0 : ∃ h : off + i * 3 < cs.size, cs[off + i * 3] = .string Y := by
        have h := congrArg (fun a => a[0]?) hext
        rw [Array.getElem?_extract_of_lt (by omega), ← hY] at h
        have h2 : some cs[off + i * 3 + 0] = some (Value.string Y) := h
        exact ⟨by omega, by simpa using h2⟩
      obtain ⟨x0', x0⟩ := x0
      have hzb := HLB.out z (List.mem_of_getElem? hz)
      have HZB := Lib.hid hzb
      have HY := Lib.hid hY
      have HBB := Lib.hid hB
      have HSY := Lib.hid Sy
      have HYA := Lib.hid hya
      have hdr : L.drop i = z :: L.drop (i + 1) := by
        obtain ⟨h1, h2⟩ := List.getElem?_eq_some_iff.1 hz
        rw [List.drop_eq_getElem_cons h1, h2]
      have HDR := Lib.hid hdr
      have ki : (i : Int) < (n : Int) := by omega
      have HFB := Lib.hid fb
      clear hext hy hz hzb hY hB Sy hya fb hdr
      obtain ⟨ye, hye⟩ : ∃ ye : Bool, ye = decide (z.1 = x.name) := ⟨_, rfl⟩
      have hyeq : (Y.toList == X.toList) = ye := by rw [HY.out, HX.out, beq_str HZB.out HXB.out, hye]
      have HYE := Lib.hid (show (!ye) = true ↔ z.1 ≠ x.name by rw [hye]; simp)
      obtain ⟨ls, hls⟩ : ∃ ls : Bool, ls = decide (x.name < z.1) := ⟨_, rfl⟩
      have hlss : Op.bytesLess X.toList Y.toList = ls := by rw [HY.out, HX.out, less_str HXB.out HZB.out, hls]
      have HLS := Lib.hid hls
      clear hye hls
      cases dn with
      | true =>
        have HI := Lib.hid (show out ++ ((if z.1 ≠ x.name then [z] else []) ++ doF x.name x.val true (L.drop (i + 1))) = R by
          rw [← hW.out.2, HDR.out, doF]; simp)
        have HGG := Lib.hid hW.out.1
        clear hW
        go_upto_region 6 with (fail)
        refine drawn_begin 12 (fun w' => w'.blk b3 = some (.cells C 32) ∧ w'.blk b = some (.cells cs TT fr)) (by kernel_rfl) ?_
        refine drawn_reads (fuel := 0) [0, 1, 2, 3, 4, 5, 6, 7, 8, 9, 10, 11] rfl (by kernel_rfl) ⟨f3, fbw⟩ ?_
        repeat (first | (refine rowK_step2 rfl rfl (fun K hK => ?_); go_wp2) | (refine rowK_step rfl (fun K hK => ?_); go_simp; refine hK _ ?_; clear hK K))
        refine rowK_nil ⟨?_, ?_⟩
        · first | (rintro w' ⟨e1, e2⟩) | (intro w' e1 e2)
          clear f3 fbw t3 tb
          have t3 := World.at_lt e1
          have tb := World.at_lt e2
          repeat (first | (refine rowWp_step2 rfl rfl (fun K hK => ?_); go_wp2) | (refine rowWp_step rfl (fun K hK => ?_); go_simp; refine hK _ ?_; clear hK K))
          exact rowWp_nil rfl
        refine drawn_end (ol := []) rfl (by kernel_rfl) ?_
        intro K hK
        go_upto_if 27 with (fail)
        refine named_world (A := fun X => GchF w av [(b3, .cells C 32)] X q' k c (asC out)) (Q := fun X => Code.wp _ _ _ _ X) (HGG.out.call (Fr.refl [] _).drew) ?_
        rintro V6 HG6
        have HGG := Lib.hid HG6
        have f3 := HG6.own.nth 0 rfl
        have t3 := World.at_lt f3
        have fbw := HG6.own.fr.get HFB.out (by simp)
        have tb := World.at_lt fbw
        clear HG6
        go_upto_region 9 with (fail)
        refine drawn_begin 8 (fun w' => w'.blk b3 = some (.cells C 32) ∧ w'.blk b = some (.cells cs TT fr)) (by kernel_rfl) ?_
        refine drawn_reads (fuel := 0) [0, 1, 2, 3, 4, 5, 6, 7] rfl (by kernel_rfl) ⟨f3, fbw⟩ ?_
        repeat (first | (refine rowK_step2 rfl rfl (fun K hK => ?_); go_wp2) | (refine rowK_step rfl (fun K hK => ?_); go_simp; refine hK _ ?_; clear hK K))
        refine rowK_nil ⟨?_, ?_⟩
        · first | (rintro w' ⟨e1, e2⟩) | (intro w' e1 e2)
          clear f3 fbw t3 tb
          have t3 := World.at_lt e1
          have tb := World.at_lt e2
          repeat (first | (refine rowWp_step2 rfl rfl (fun K hK => ?_); go_wp2) | (refine rowWp_step rfl (fun K hK => ?_); go_simp; refine hK _ ?_; clear hK K))
          exact rowWp_nil rfl
        refine drawn_end (ol := []) rfl (by kernel_rfl) ?_
        intro K hK
        go_upto_if 43 with (fail)
        refine named_world (A := fun X => GchF w av [(b3, .cells C 32)] X q' k c (asC (out))) (Q := fun X => Code.wp _ _ _ _ X) (HGG.out.call (Fr.refl [] _).drew) ?_
        rintro U HGU
        have HGU := Lib.hid HGU
        have fbw := HGU.out.own.fr.get HFB.out (by simp)
        have tb := World.at_lt fbw
        clear f3
        cases ye with
        | true =>
          have hI := HI.out
          rw [if_neg (by have := HYE.out; simpa using this), List.nil_append] at hI
          have HI := Lib.hid hI
          have HG2 := HGU
          clear hI
          go_wp2_with fail
          go_roundw
          case rel => exact ⟨i + 1, _, _, _, true, out, hlt, rfl, rfl, by first | rfl | simp, by omega, Lib.hid ⟨HG2.out, HI.out⟩⟩
          case measure => simp [intOf]; omega
        | false =>
          have hI := HI.out
          rw [if_pos (by have := HYE.out; simpa using this), ← List.append_assoc] at hI
          have HI := Lib.hid hI
          have HG2 := HGU
          clear hI
          go_wp2_with (refine wpList_app33F (y := ⟨z.1, false, z.2⟩) rfl _ _ rfl rfl rfl (HG2.out.call ((Fr.refl [] _).alloc _)) HSY.out HYA.out (by show World.blk _ _ = some (.cells #[.string (strB z.1), .slice qy my dy, .bool false] 32 _); rw [← HBB.out]; exact World.at_alloc_new _ _ _ (by simp)) (by omega) ?_)
          intro q9 c9 W9 G9
          have HG9 := Lib.hid G9
          clear G9 HG2
          go_wp2_with fail
          go_roundw
          case rel => exact ⟨i + 1, q9, _, c9, true, out ++ [z], hlt, rfl, rfl, by first | rfl | simp, by omega, Lib.hid ⟨by rw [asC, List.map_append]; exact HG9.out, HI.out⟩⟩
          case measure => simp [intOf]; omega
      | false =>
        have HGG := Lib.hid hW.out.1
        have hW2 := hW.out.2
        rw [HDR.out, doF] at hW2
        have HW2 := Lib.hid hW2
        clear hW hW2
        go_upto_region 6 with (fail)
        refine drawn_begin 12 (fun w' => w'.blk b3 = some (.cells C 32) ∧ w'.blk b = some (.cells cs TT fr)) (by kernel_rfl) ?_
        refine drawn_reads (fuel := 0) [0, 1, 2, 3, 4, 5, 6, 7, 8, 9, 10, 11] rfl (by kernel_rfl) ⟨f3, fbw⟩ ?_
        repeat (first | (refine rowK_step2 rfl rfl (fun K hK => ?_); go_wp2) | (refine rowK_step rfl (fun K hK => ?_); go_simp; refine hK _ ?_; clear hK K))
        refine rowK_nil ⟨?_, ?_⟩
        · first | (rintro w' ⟨e1, e2⟩) | (intro w' e1 e2)
          clear f3 fbw t3 tb
          have t3 := World.at_lt e1
          have tb := World.at_lt e2
          repeat (first | (refine rowWp_step2 rfl rfl (fun K hK => ?_); go_wp2) | (refine rowWp_step rfl (fun K hK => ?_); go_simp; refine hK _ ?_; clear hK K))
          exact rowWp_nil rfl
        refine drawn_end (ol := []) rfl (by kernel_rfl) ?_
        intro K hK
        go_upto_if 27 with (fail)
        refine named_world (A := fun X => GchF w av [(b3, .cells C 32)] X q' k c (asC out)) (Q := fun X => Code.wp _ _ _ _ X) (HGG.out.call (Fr.refl [] _).drew) ?_
        rintro V6 HG6
        have HGG := Lib.hid HG6
        have f3 := HG6.own.nth 0 rfl
        have t3 := World.at_lt f3
        have fbw := HG6.own.fr.get HFB.out (by simp)
        have tb := World.at_lt fbw
        clear HG6
        cases ls with
        | false =>
          have HI := Lib.hid (show out ++ ((if z.1 ≠ x.name then [z] else []) ++ doF x.name x.val false (L.drop (i + 1))) = R by
            have h1 := of_decide_eq_false HLS.out.symm
            rw [← HW2.out, decide_eq_false h1]; simp [h1])
          go_upto_region 9 with (fail)
          refine drawn_begin 8 (fun w' => w'.blk b3 = some (.cells C 32) ∧ w'.blk b = some (.cells cs TT fr)) (by kernel_rfl) ?_
          refine drawn_reads (fuel := 0) [0, 1, 2, 3, 4, 5, 6, 7] rfl (by kernel_rfl) ⟨f3, fbw⟩ ?_
          repeat (first | (refine rowK_step2 rfl rfl (fun K hK => ?_); go_wp2) | (refine rowK_step rfl (fun K hK => ?_); go_simp; refine hK _ ?_; clear hK K))
          refine rowK_nil ⟨?_, ?_⟩
          · first | (rintro w' ⟨e1, e2⟩) | (intro w' e1 e2)
            clear f3 fbw t3 tb
            have t3 := World.at_lt e1
            have tb := World.at_lt e2
            repeat (first | (refine rowWp_step2 rfl rfl (fun K hK => ?_); go_wp2) | (refine rowWp_step rfl (fun K hK => ?_); go_simp; refine hK _ ?_; clear hK K))
            exact rowWp_nil rfl
          refine drawn_end (ol := []) rfl (by kernel_rfl) ?_
          intro K hK
          go_upto_if 43 with (fail)
          refine named_world (A := fun X => GchF w av [(b3, .cells C 32)] X q' k c (asC (out))) (Q := fun X => Code.wp _ _ _ _ X) (HGG.out.call (Fr.refl [] _).drew) ?_
          rintro U HGU
          have HGU := Lib.hid HGU
          have fbw := HGU.out.own.fr.get HFB.out (by simp)
          have tb := World.at_lt fbw
          clear f3
          cases ye with
          | true =>
            have hI := HI.out
            rw [if_neg (by have := HYE.out; simpa using this), List.nil_append] at hI
            have HI := Lib.hid hI
            have HG2 := HGU
            clear hI
            go_wp2_with fail
            go_roundw
            case rel => exact ⟨i + 1, _, _, _, false, out, hlt, rfl, rfl, by first | rfl | simp, by omega, Lib.hid ⟨HG2.out, HI.out⟩⟩
            case measure => simp [intOf]; omega
          | false =>
            have hI := HI.out
            rw [if_pos (by have := HYE.out; simpa using this), ← List.append_assoc] at hI
            have HI := Lib.hid hI
            have HG2 := HGU
            clear hI
            go_wp2_with (refine wpList_app33F (y := ⟨z.1, false, z.2⟩) rfl _ _ rfl rfl rfl (HG2.out.call ((Fr.refl [] _).alloc _)) HSY.out HYA.out (by show World.blk _ _ = some (.cells #[.string (strB z.1), .slice qy my dy, .bool false] 32 _); rw [← HBB.out]; exact World.at_alloc_new _ _ _ (by simp)) (by omega) ?_)
            intro q9 c9 W9 G9
            have HG9 := Lib.hid G9
            clear G9 HG2
            go_wp2_with fail
            go_roundw
            case rel => exact ⟨i + 1, q9, _, c9, false, out ++ [z], hlt, rfl, rfl, by first | rfl | simp, by omega, Lib.hid ⟨by rw [asC, List.map_append]; exact HG9.out, HI.out⟩⟩
            case measure => simp [intOf]; omega
        | true =>
          have HI := Lib.hid (show (out ++ [(x.name, x.val)]) ++ ((if z.1 ≠ x.name then [z] else []) ++ doF x.name x.val true (L.drop (i + 1))) = R by
            have h1 := of_decide_eq_true HLS.out.symm
            rw [← HW2.out, decide_eq_true h1]; simp [h1])
          go_wp2_with (refine wpList_app33F (y := ⟨x.name, false, x.val⟩) rfl _ _ rfl rfl rfl (HGG.out.call ((Fr.refl [] _).alloc _)) HS.out HSA.out (by show World.blk _ _ = some (.cells #[.string (strB x.name), .slice q m d, .bool false] 32 _); rw [← HX.out]; exact World.at_alloc_new _ _ _ (by simp)) (by omega) ?_)
          intro q8 c8 W8 G8
          have HG8 := Lib.hid (show GchF w av [(b3, .cells C 32)] W8 q8 (k + 1) c8 (asC (out ++ [(x.name, x.val)])) by rw [asC, List.map_append]; exact G8)
          have f3 := G8.own.nth 0 rfl
          have t3 := World.at_lt f3
          have fbw := G8.own.fr.get HFB.out (by simp)
          have tb := World.at_lt fbw
          clear G8 HGG
          go_upto_region 9 with (fail)
          refine drawn_begin 8 (fun w' => w'.blk b3 = some (.cells C 32) ∧ w'.blk b = some (.cells cs TT fr)) (by kernel_rfl) ?_
          refine drawn_reads (fuel := 0) [0, 1, 2, 3, 4, 5, 6, 7] rfl (by kernel_rfl) ⟨f3, fbw⟩ ?_
          repeat (first | (refine rowK_step2 rfl rfl (fun K hK => ?_); go_wp2) | (refine rowK_step rfl (fun K hK => ?_); go_simp; refine hK _ ?_; clear hK K))
          refine rowK_nil ⟨?_, ?_⟩
          · first | (rintro w' ⟨e1, e2⟩) | (intro w' e1 e2)
            clear f3 fbw t3 tb
            have t3 := World.at_lt e1
            have tb := World.at_lt e2
            repeat (first | (refine rowWp_step2 rfl rfl (fun K hK => ?_); go_wp2) | (refine rowWp_step rfl (fun K hK => ?_); go_simp; refine hK _ ?_; clear hK K))
            exact rowWp_nil rfl
          refine drawn_end (ol := []) rfl (by kernel_rfl) ?_
          intro K hK
          go_upto_if 43 with (fail)
          refine named_world (A := fun X => GchF w av [(b3, .cells C 32)] X q8 (k + 1) c8 (asC ((out ++ [(x.name, x.val)])))) (Q := fun X => Code.wp _ _ _ _ X) (HG8.out.call (Fr.refl [] _).drew) ?_
          rintro U HGU
          have HGU := Lib.hid HGU
          have fbw := HGU.out.own.fr.get HFB.out (by simp)
          have tb := World.at_lt fbw
          clear f3
          cases ye with
          | true =>
            have hI := HI.out
            rw [if_neg (by have := HYE.out; simpa using this), List.nil_append] at hI
            have HI := Lib.hid hI
            have HG2 := HGU
            clear hI
            go_wp2_with fail
            go_roundw
            case rel => exact ⟨i + 1, _, _, _, true, (out ++ [(x.name, x.val)]), hlt, rfl, rfl, by first | rfl | simp, by omega, Lib.hid ⟨HG2.out, HI.out⟩⟩
            case measure => simp [intOf]; omega
          | false =>
            have hI := HI.out
            rw [if_pos (by have := HYE.out; simpa using this), ← List.append_assoc] at hI
            have HI := Lib.hid hI
            have HG2 := HGU
            clear hI
            go_wp2_with (refine wpList_app33F (y := ⟨z.1, false, z.2⟩) rfl _ _ rfl rfl rfl (HG2.out.call ((Fr.refl [] _).alloc _)) HSY.out HYA.out (by show World.blk _ _ = some (.cells #[.string (strB z.1), .slice qy my dy, .bool false] 32 _); rw [← HBB.out]; exact World.at_alloc_new _ _ _ (by simp)) (by omega) ?_)
            intro q9 c9 W9 G9
            have HG9 := Lib.hid G9
            clear G9 HG2
            go_wp2_with fail
            go_roundw
            case rel => exact ⟨i + 1, q9, _, c9, true, (out ++ [(x.name, x.val)]) ++ [z], hlt, rfl, rfl, by first | rfl | simp, by omega, Lib.hid ⟨by rw [asC, List.map_append]; exact HG9.out, HI.out⟩⟩
            case measure => simp [intOf]; omega
    · obtain rfl : i = n := by omega
      have hd : decide ((i : Int) < (i : Int)) = false := by simp
      have hdr : L.drop i = [] := List.drop_of_length_le (by rw [HLEN.out]; exact Nat.le_refl _)
      have hW2 := hW.out.2
      rw [hdr, doF] at hW2
      have HW2 := Lib.hid hW2
      have HGG := Lib.hid hW.out.1
      have f3 := hW.out.1.own.nth 0 rfl
      have t3 := World.at_lt f3
      clear hW hW2 hdr
      cases dn with
      | true =>
        have hout : out = R := by have := HW2.out; simpa using this
        go_wp2_with fail
        exact bodyPost_ret (results_tmp rfl _ _ _) rfl ⟨q', k, c, rfl, by rw [← hout]; exact (HGG.out.chs HAV.out), HGG.out.own.fr⟩
      | false =>
        have HO := Lib.hid (show out ++ [(x.name, x.val)] = R by have := HW2.out; simpa using this)
        go_wp2_with (refine wpList_app33F (y := ⟨x.name, false, x.val⟩) rfl _ _ rfl rfl rfl (HGG.out.call ((Fr.refl [] _).alloc _)) HS.out HSA.out (by show World.blk _ _ = some (.cells #[.string (strB x.name), .slice q m d, .bool false] 32 _); rw [← HX.out]; exact World.at_alloc_new _ _ _ (by simp)) (by omega) ?_)
        intro q8 c8 W8 G8
        have HG8 := Lib.hid (show GchF w av [(b3, .cells C 32)] W8 q8 (k + 1) c8 (asC (out ++ [(x.name, x.val)])) by rw [asC, List.map_append]; exact G8)
        clear G8 HGG f3 t3
        go_wp2_with fail
        exact bodyPost_ret (results_tmp rfl _ _ _) rfl ⟨q8, k + 1, c8, rfl, by rw [← HO.out]; exact (HG8.out.chs HAV.out), HG8.out.own.fr⟩
end
end Go.Proofs.Ytombhkekocbfoaa
namespace Go.St
open Go.Kd Go.Dr
theorem putL_le {n v : Bs} : ∀ L : List (Bs × Bs), (putL n v L).length ≤ L.length + 1 := by
  intro L
  induction L with
  | nil => exact Nat.le_refl _
  | cons x L ih =>
    rw [putL]
    split
    · simp
    · split
      · simp
      · simp; omega
theorem doC_le (L : List (Bs × Bs)) (c : Chg) : (doC L c).length ≤ L.length + 1 := by
  unfold doC
  split
  · exact Nat.le_trans (List.length_filter_le _ _) (Nat.le_succ _)
  · exact putL_le L
theorem allC_le : ∀ (l : List Chg) (L : List (Bs × Bs)), (allC L l).length ≤ L.length + l.length := by
  intro l
  induction l with
  | nil => intro L; exact Nat.le_refl _
  | cons c l ih =>
    intro L
    have h1 := ih (doC L c)
    have h2 := doC_le L c
    show (allC (doC L c) l).length ≤ _
    rw [List.length_cons]
    omega
end Go.St
namespace Go.Proofs.Ytombhkekocbfoaa
open Go.RowKit Go.Dr Go.Kd Go.St
theorem sum_cast (s x y : Nat) : ((s + 1 + min x 30000 + min y 30000 : Nat) : Int) = (s : Int) + 1 + min (x : Int) 30000 + min (y : Int) 30000 := by omega
section
variable {w : World}
set_option maxRecDepth 100000 in
set_option maxHeartbeats 8000000 in
theorem dall_f {av : List Nat} (hav : ∀ b ∈ av, b < w.heap.size) {p : Option Addr} {n cap : Nat} {L : List (Bs × Bs)} (T : ChsA w av p n cap (asC L)) (hL : ∀ x ∈ L, Byt x.1) (hS : Sorted L) (hn : n ≤ 40000) {q : Option Addr} {m d : Nat} {l : List Chg} (C : ChsA w av q m d l) (hl : ∀ c ∈ l, Byt c.name) (hm : m ≤ 40000) :
    Calls Try.prog 26 #[.slice p n cap, .slice q m d] w fun e w' => ∃ q' k c, e = .returned (.slice q' k c) ∧ ChsA w' av q' k c (asC (allC L l)) ∧ Fr [] w w' := by
  have HAV := Lib.hid hav
  have HT := Lib.hid T
  have HC := Lib.hid C
  have HLB := Lib.hid hL
  have HSO := Lib.hid hS
  have HCB := Lib.hid hl
  have hlen : L.length = n := by have := T.chs.len; simpa [asC] using this
  have HLEN := Lib.hid hlen
  have HM := Lib.hid C.chs.len
  clear hav T C hL hS hl hlen
  go_enter Try.func26, Try.ntmps26
  go_wp2_with fail
  go_loopw [0, 5] (fun v iv wy => ∃ (i : Nat) (q' : Option Addr) (k c : Nat), i ≤ m ∧ v = .slice q' k c ∧ iv = .int .i64 (i : Int) ∧ Hid (ChsA wy av q' k c (asC (allC L (l.take i))) ∧ Fr [] w wy)) (fun _ iv _ => (m - intOf iv).toNat)
  case atStart => exact ⟨0, p, n, cap, by omega, rfl, rfl, Lib.hid ⟨HT.out, Fr.refl _ _⟩⟩
  case round =>
    obtain ⟨i, q', k, c, hin, rfl, rfl, hW⟩ := hrel
    by_cases hlt : i < m
    · have hd : decide ((i : Int) < (m : Int)) = true := by rw [decide_eq_true_eq]; omega
      obtain ⟨x, q2, m2, d2, b, off, cs, TT, fr, hx, rfl, fb, hsz, hext, S2, hxa⟩ := (HC.out.fr0 hW.out.2).at hlt
      obtain ⟨B, hB⟩ : ∃ B : Array Value, B = #[.string (strB x.name), .slice q2 m2 d2, .bool x.gone] := ⟨_, rfl⟩
      rw [← hB] at hext
      have szB : B.size = 3 := by rw [hB]; rfl
      have onB : ones B.toList = true := by rw [hB]; rfl
      have htk : allC L (l.take (i + 1)) = doC (allC L (l.take i)) x := by
        rw [List.take_add_one, hx]
        exact allC_snoc
      have HTK := Lib.hid htk
      have hkl : k ≤ 100000 := by
        have h1 := hW.out.1.chs.len
        rw [asC, List.length_map] at h1
        have h2 := allC_le (l.take i) L
        rw [List.length_take, HLEN.out] at h2
        omega
      have hxb := HCB.out x (List.mem_of_getElem? hx)
      have HXB := Lib.hid hxb
      have HBB := Lib.hid hB
      have HS2 := Lib.hid S2
      have HXA := Lib.hid hxa
      have hbt : ∀ y ∈ allC L (l.take i), Byt y.1 := byt_allC HLB.out fun c hc => HCB.out c (List.mem_of_mem_take hc)
      have HBT := Lib.hid hbt
      have tb := World.at_lt fb
      have ki : (i : Int) < (m : Int) := by omega
      clear hx htk hxb hB S2 hxa hbt
      go_wp2_with fail
      rw [HBB.out]
      refine (do_f (fun b hb => Nat.lt_of_lt_of_le (HAV.out b hb) hW.out.2.size) hW.out.1 HBT.out (sorted_allC HSO.out) hkl HS2.out HXA.out HXB.out).mono ?_
      rintro en w2 ⟨q3, k3, c3, rfl, C3, F3⟩
      have HW3 := Lib.hid (show ChsA w2 av q3 k3 c3 (asC (allC L (l.take (i + 1)))) ∧ Fr [] w w2 from ⟨by rw [HTK.out]; exact C3, hW.out.2.trans F3⟩)
      clear C3 F3
      go_wp2_with fail
      go_roundw
      case rel => exact ⟨i + 1, q3, k3, c3, hlt, rfl, by first | rfl | simp, HW3⟩
      case measure => simp [intOf]; omega
    · obtain rfl : i = m := by omega
      have hd : decide ((i : Int) < (i : Int)) = false := by simp
      have htk : l.take i = l := List.take_of_length_le (by rw [HM.out]; exact Nat.le_refl _)
      rw [htk] at hW
      clear htk
      go_wp2_with fail
      exact bodyPost_ret (results_tmp rfl _ _ _) rfl ⟨q', k, c, rfl, hW.out.1, hW.out.2⟩
set_option maxRecDepth 100000 in
set_option maxHeartbeats 8000000 in
theorem small_f {p : Option Addr} {n cap : Nat} {l : List Chg} (T : Chs w p n cap l) (hn : n ≤ 9223372036854775807) :
    Calls Try.prog 25 #[.slice p n cap] w fun e w' => ∃ r, e = .returned (.bool r) ∧ Fr [] w w' ∧ (r = true → n < 30000) := by
  have HT := Lib.hid T
  clear T
  go_enter Try.func25, Try.ntmps25
  go_wp2_with fail
  go_loopw [3, 4] (fun sv iv wy => ∃ (i s : Nat), i ≤ n ∧ i ≤ s ∧ s ≤ 90001 ∧ sv = .int .i64 (s : Int) ∧ iv = .int .i64 (i : Int) ∧ Hid (Fr [] w wy)) (fun _ iv _ => (n - intOf iv).toNat)
  case atStart => exact ⟨0, 0, by omega, by omega, by omega, rfl, rfl, Lib.hid (Fr.refl _ _)⟩
  case round =>
    obtain ⟨i, s, hin, his, hs9, rfl, rfl, hW⟩ := hrel
    by_cases hlt : i < n
    · have hd : decide ((i : Int) < (n : Int)) = true := by rw [decide_eq_true_eq]; omega
      by_cases hs : s < 30000
      · have hds : decide ((s : Int) < 30000) = true := by rw [decide_eq_true_eq]; omega
        obtain ⟨x, q2, m2, d2, b, off, cs, TT, fr, hx, rfl, fb, hsz, hext, S2⟩ := (HT.out.fr0 hW.out).at hlt
        have e0 := congrArg (fun a => a[0]?) hext
        have e1 := congrArg (fun a => a[1]?) hext
        rw [Array.getElem?_extract_of_lt (by omega)] at e0 e1
        obtain ⟨X, hX⟩ : ∃ X, X = strB x.name := ⟨_, rfl⟩
        have x0 : ∃ h : off + i * 3 < cs.size, cs[off + i * 3] = .string X := ⟨by omega, by rw [hX]; simpa using e0⟩
        have x1 : ∃ h : off + i * 3 + 1 < cs.size, cs[off + i * 3 + 1] = .slice q2 m2 d2 := ⟨by omega, by simpa using e1⟩
        obtain ⟨x0', x0⟩ := x0
        obtain ⟨x1', x1⟩ := x1
        have tb := World.at_lt fb
        have ki : (i : Int) < (n : Int) := by omega
        clear e0 e1 hext hx S2 hX
        go_upto_region 5 with (fail)
        refine drawn_begin 18 (fun w' => w'.blk b = some (.cells cs TT fr)) (by kernel_rfl) ?_
        refine drawn_reads (fuel := 1) [0, 1, 2, 3, 4, 5, 6, 7, 8, 9, 10, 11, 12, 13, 14, 15, 16, 17] rfl (by kernel_rfl) fb ?_
        repeat (first | (refine rowK_step2 rfl rfl (fun K hK => ?_); go_wp2) | (refine rowK_step rfl (fun K hK => ?_); go_simp; refine hK _ ?_; clear hK K))
        refine rowK_nil ⟨fun w' e1 => ?_, ?_⟩
        · clear fb tb
          have tb := World.at_lt e1
          repeat (first | (refine rowWp_step2 rfl rfl (fun K hK => ?_); go_wp2) | (refine rowWp_step rfl (fun K hK => ?_); go_simp; refine hK _ ?_; clear hK K))
          exact rowWp_nil rfl
        refine drawn_end rfl (by kernel_rfl) ?_
        intro K hK
        have HF := Lib.hid (hW.out.drew)
        have HSM := Lib.hid (sum_cast s X.size m2)
        clear hW
        go_wp2_with fail
        go_roundw
        case rel => exact ⟨i + 1, s + 1 + min X.size 30000 + min m2 30000, hlt, by omega, by omega, by rw [HSM.out], by first | rfl | simp, HF⟩
        case measure => simp [intOf]; omega
      · have hds : decide ((s : Int) < 30000) = false := by rw [decide_eq_false_iff_not]; omega
        go_wp2_with fail
        refine bodyPost_ret (results_tmp rfl _ _ _) rfl ⟨_, rfl, hW.out, ?_⟩
        intro h
        cases h
    · obtain rfl : i = n := by omega
      have hd : decide ((i : Int) < (i : Int)) = false := by simp
      go_wp2_with fail
      refine bodyPost_ret (results_tmp rfl _ _ _) rfl ⟨_, rfl, hW.out, ?_⟩
      intro h
      simp at h
      omega
set_option maxRecDepth 100000 in
set_option maxHeartbeats 8000000 in
theorem same_f {p : Option Addr} {n cap : Nat} {la lb : List Chg} (A : Chs w p n cap la) {q : Option Addr} {m d : Nat} (B : Chs w q m d lb) (ha : ∀ c ∈ la, Byt c.name ∧ Byt c.val) (hb : ∀ c ∈ lb, Byt c.name ∧ Byt c.val) (hn : n ≤ 1000000) :
    Calls Try.prog 23 #[.slice p n cap, .slice q m d] w fun e w' => ∃ r, e = .returned (.bool r) ∧ Fr [] w w' ∧ (r = true ↔ la = lb) := by
  have HA := Lib.hid A
  have HB := Lib.hid B
  have HAB := Lib.hid ha
  have HBB := Lib.hid hb
  have HLA := Lib.hid A.len
  have HLB := Lib.hid B.len
  clear A B ha hb
  go_enter Try.func23, Try.ntmps23
  by_cases hnm : n = m
  · subst hnm
    have hne : ((n : Int) != (n : Int)) = false := by simp
    go_wp2_with fail
    go_loopw [5] (fun iv wy => ∃ i : Nat, i ≤ n ∧ iv = .int .i64 (i : Int) ∧ Hid (la.take i = lb.take i ∧ Fr [] w wy)) (fun iv _ => (n - intOf iv).toNat)
    case atStart => exact ⟨0, by omega, rfl, Lib.hid ⟨rfl, Fr.refl _ _⟩⟩
    case round =>
      obtain ⟨i, hin, rfl, hW⟩ := hrel
      by_cases hlt : i < n
      · have hd : decide ((i : Int) < (n : Int)) = true := by rw [decide_eq_true_eq]; omega
        obtain ⟨x, qx, mx, dx, b, off, cs, TT, fr, hx, rfl, fb, hsz, hext, Sx⟩ := (HA.out.fr0 hW.out.2).at hlt
        obtain ⟨y, qy, my, dy, b2, off2, cs2, TT2, fr2, hy, rfl, fb2, hsz2, hext2, Sy⟩ := (HB.out.fr0 hW.out.2).at hlt
        have e0 := congrArg (fun a => a[0]?) hext
        have e1 := congrArg (fun a => a[1]?) hext
        have e2 := congrArg (fun a => a[2]?) hext
        rw [Array.getElem?_extract_of_lt (by omega)] at e0 e1 e2
        have g0 := congrArg (fun a => a[0]?) hext2
        have g1 := congrArg (fun a => a[1]?) hext2
        have g2 := congrArg (fun a => a[2]?) hext2
        rw [Array.getElem?_extract_of_lt (by omega)] at g0 g1 g2
        obtain ⟨X, hX⟩ : ∃ X, X = strB x.name := ⟨_, rfl⟩
        obtain ⟨Y, hY⟩ : ∃ Y, Y = strB y.name := ⟨_, rfl⟩
        obtain ⟨gx, hgx⟩ : ∃ gx, gx = x.gone := ⟨_, rfl⟩
        obtain ⟨gy, hgy⟩ : ∃ gy, gy = y.gone := ⟨_, rfl⟩
        have x0 : ∃ h : off + i * 3 < cs.size, cs[off + i * 3] = .string X := ⟨by omega, by rw [hX]; simpa using e0⟩
        have x1 : ∃ h : off + i * 3 + 1 < cs.size, cs[off + i * 3 + 1] = .slice qx mx dx := ⟨by omega, by simpa using e1⟩
        have x2 : ∃ h : off + i * 3 + 2 < cs.size, cs[off + i * 3 + 2] = .bool gx := ⟨by omega, by rw [hgx]; simpa using e2⟩
        have y0 : ∃ h : off2 + i * 3 < cs2.size, cs2[off2 + i * 3] = .string Y := ⟨by omega, by rw [hY]; simpa using g0⟩
        have y1 : ∃ h : off2 + i * 3 + 1 < cs2.size, cs2[off2 + i * 3 + 1] = .slice qy my dy := ⟨by omega, by simpa using g1⟩
        have y2 : ∃ h : off2 + i * 3 + 2 < cs2.size, cs2[off2 + i * 3 + 2] = .bool gy := ⟨by omega, by rw [hgy]; simpa using g2⟩
        obtain ⟨x0', x0⟩ := x0
        obtain ⟨x1', x1⟩ := x1
        obtain ⟨x2', x2⟩ := x2
        obtain ⟨y0', y0⟩ := y0
        obtain ⟨y1', y1⟩ := y1
        obtain ⟨y2', y2⟩ := y2
        have tb := World.at_lt fb
        have tb2 := World.at_lt fb2
        have ki : (i : Int) < (n : Int) := by omega
        have hax := HAB.out x (List.mem_of_getElem? hx)
        have hby := HBB.out y (List.mem_of_getElem? hy)
        obtain ⟨ye, hye⟩ : ∃ ye : Bool, ye = decide (x.name = y.name) := ⟨_, rfl⟩
        have hyeq : (X.toList == Y.toList) = ye := by rw [hX, hY, beq_str hax.1 hby.1, hye]
        have HYE := Lib.hid hye
        have HAX := Lib.hid hax.2
        have HBY := Lib.hid hby.2
        have HSX := Lib.hid Sx
        have HSY := Lib.hid Sy
        have HX2 := Lib.hid hx
        have HY2 := Lib.hid hy
        have HGX := Lib.hid hgx
        have HGY := Lib.hid hgy
        have hno : x ≠ y → la ≠ lb := fun h e => by
          rw [e, hy] at hx
          exact h (Option.some.inj hx).symm
        have HNO := Lib.hid hno
        clear e0 e1 e2 g0 g1 g2 hext hext2 hx hy Sx Sy hX hY hgx hgy hax hby hye hno
        go_upto_region 6 with (fail)
        cases ye with
        | false =>
          have HN := Lib.hid (HNO.out (fun e => by have := HYE.out; rw [e] at this; simp at this))
          have HF := Lib.hid hW.out.2.drew
          clear hW
          refine drawn_begin 38 (fun w' => w'.blk b = some (.cells cs TT fr) ∧ w'.blk b2 = some (.cells cs2 TT2 fr2)) (by kernel_rfl) ?_
          refine drawn_reads (fuel := 0) [0, 1, 2, 3, 4, 5, 6, 7, 8, 9, 10, 11, 12, 13, 14, 15, 16, 17, 18, 19, 20, 21, 22, 23, 24, 25, 26, 27, 28, 29, 30, 31, 32, 33, 34, 35, 36, 37] rfl (by kernel_rfl) ⟨fb, fb2⟩ ?_
          repeat (first | (refine rowK_step2 rfl rfl (fun K hK => ?_); go_wp2) | (refine rowK_step rfl (fun K hK => ?_); go_simp; refine hK _ ?_; clear hK K))
          refine rowK_nil ⟨?_, ?_⟩
          · first | (rintro w' ⟨e1, e2⟩) | (intro w' e1 e2)
            clear fb fb2 tb tb2
            have tb := World.at_lt e1
            have tb2 := World.at_lt e2
            repeat (first | (refine rowWp_step2 rfl rfl (fun K hK => ?_); go_wp2) | (refine rowWp_step rfl (fun K hK => ?_); go_simp; refine hK _ ?_; clear hK K))
            exact rowWp_nil rfl
          refine drawn_end (ol := []) rfl (by kernel_rfl) ?_
          intro K hK
          go_wp2_with fail
          exact bodyPost_ret (results_tmp rfl _ _ _) rfl ⟨false, rfl, HF.out, by simp [HN.out]⟩
        | true =>
          by_cases hgg : gx = gy
          · subst hgg
            have hgne : (gx != gx) = false := by simp
            have HF0 := Lib.hid hW.out.2
            have HTK := Lib.hid hW.out.1
            clear hW
            refine drawn_begin 38 (fun w' => w'.blk b = some (.cells cs TT fr) ∧ w'.blk b2 = some (.cells cs2 TT2 fr2)) (by kernel_rfl) ?_
            refine drawn_reads (fuel := 3) [0, 1, 2, 3, 4, 5, 6, 7, 8, 9, 10, 11, 12, 13, 14, 15, 16, 17, 18, 19, 20, 21, 22, 23, 24, 25, 26, 27, 28, 29, 30, 31, 32, 33, 34] rfl (by kernel_rfl) ⟨fb, fb2⟩ ?_
            repeat (first | (refine rowK_step2 rfl rfl (fun K hK => ?_); go_wp2) | (refine rowK_step rfl (fun K hK => ?_); go_simp; refine hK _ ?_; clear hK K))
            refine rowK_nil ⟨?_, ?_⟩
            · first | (rintro w' ⟨e1, e2⟩) | (intro w' e1 e2)
              clear fb fb2 tb tb2
              have tb := World.at_lt e1
              have tb2 := World.at_lt e2
              repeat (first | (refine rowWp_step2 rfl rfl (fun K hK => ?_); go_wp2) | (refine rowWp_step rfl (fun K hK => ?_); go_simp; refine hK _ ?_; clear hK K))
              exact rowWp_nil rfl
            refine drawn_next 35 (fuel := 2) rfl (by kernel_rfl) ?_
            intro K hK
            go_wp2_with fail
            have FD : Fr [] wr wr.drew := (Fr.refl [] wr).drew
            refine (bytes_f (A := x.val) (B := y.val) (HSX.out.fr0 FD) (HSY.out.fr0 FD) HAX.out HBY.out).mono ?_
            rintro en w2 ⟨rfl, F2⟩
            have F2' := FD.trans F2
            have HF2 := Lib.hid (HF0.out.trans F2')
            have fb := F2'.get fb (by simp)
            have fb2 := F2'.get fb2 (by simp)
            obtain ⟨vv, hvv⟩ : ∃ vv : Bool, vv = decide (x.val = y.val) := ⟨_, rfl⟩
            rw [← hvv]
            have HVV := Lib.hid hvv
            clear F2 F2' FD hvv tb tb2
            have tb := World.at_lt fb
            have tb2 := World.at_lt fb2
            go_wp2_with fail
            refine ⟨⟨fb, fb2⟩, ?_⟩
            refine drawn_reads (fuel := 0) [36, 37] rfl (by kernel_rfl) ⟨fb, fb2⟩ ?_
            repeat (first | (refine rowK_step2 rfl rfl (fun K hK => ?_); go_wp2) | (refine rowK_step rfl (fun K hK => ?_); go_simp; refine hK _ ?_; clear hK K))
            refine rowK_nil ⟨?_, ?_⟩
            · first | (rintro w' ⟨e1, e2⟩) | (intro w' e1 e2)
              clear fb fb2 tb tb2
              have tb := World.at_lt e1
              have tb2 := World.at_lt e2
              repeat (first | (refine rowWp_step2 rfl rfl (fun K hK => ?_); go_wp2) | (refine rowWp_step rfl (fun K hK => ?_); go_simp; refine hK _ ?_; clear hK K))
              exact rowWp_nil rfl
            refine drawn_end (ol := []) rfl (by kernel_rfl) ?_
            intro K hK
            cases vv with
            | false =>
              have HN := Lib.hid (HNO.out (fun e => by have := HVV.out; rw [e] at this; simp at this))
              go_wp2_with fail
              exact bodyPost_ret (results_tmp rfl _ _ _) rfl ⟨false, rfl, HF2.out, by simp [HN.out]⟩
            | true =>
              have HEQ := Lib.hid (show la.take (i + 1) = lb.take (i + 1) by
                have h1 : x.name = y.name := of_decide_eq_true HYE.out.symm
                have h2 : x.val = y.val := of_decide_eq_true HVV.out.symm
                have h3 : x.gone = y.gone := HGX.out.symm.trans HGY.out
                have h4 : x = y := by cases x; cases y; simp_all
                rw [List.take_add_one, List.take_add_one, HTK.out, HX2.out, HY2.out, h4])
              go_wp2_with fail
              go_roundw
              case rel => exact ⟨i + 1, hlt, by first | rfl | simp, Lib.hid ⟨HEQ.out, HF2.out⟩⟩
              case measure => simp [intOf]; omega
          · have hgne : (gx != gy) = true := by rw [bne_iff_ne]; exact hgg
            have HN := Lib.hid (HNO.out (fun e => hgg (by rw [HGX.out, HGY.out, e])))
            have HF := Lib.hid hW.out.2.drew
            clear hW
            refine drawn_begin 38 (fun w' => w'.blk b = some (.cells cs TT fr) ∧ w'.blk b2 = some (.cells cs2 TT2 fr2)) (by kernel_rfl) ?_
            refine drawn_reads (fuel := 0) [0, 1, 2, 3, 4, 5, 6, 7, 8, 9, 10, 11, 12, 13, 14, 15, 16, 17, 18, 19, 20, 21, 22, 23, 24, 25, 26, 27, 28, 29, 30, 31, 32, 33, 34, 35, 36, 37] rfl (by kernel_rfl) ⟨fb, fb2⟩ ?_
            repeat (first | (refine rowK_step2 rfl rfl (fun K hK => ?_); go_wp2) | (refine rowK_step rfl (fun K hK => ?_); go_simp; refine hK _ ?_; clear hK K))
            refine rowK_nil ⟨?_, ?_⟩
            · first | (rintro w' ⟨e1, e2⟩) | (intro w' e1 e2)
              clear fb fb2 tb tb2
              have tb := World.at_lt e1
              have tb2 := World.at_lt e2
              repeat (first | (refine rowWp_step2 rfl rfl (fun K hK => ?_); go_wp2) | (refine rowWp_step rfl (fun K hK => ?_); go_simp; refine hK _ ?_; clear hK K))
              exact rowWp_nil rfl
            refine drawn_end (ol := []) rfl (by kernel_rfl) ?_
            intro K hK
            go_wp2_with fail
            exact bodyPost_ret (results_tmp rfl _ _ _) rfl ⟨false, rfl, HF.out, by simp [HN.out]⟩
      · obtain rfl : i = n := by omega
        have hd : decide ((i : Int) < (i : Int)) = false := by simp
        have HE := Lib.hid (show la = lb by
          have h := hW.out.1
          rw [List.take_of_length_le (by rw [HLA.out]; exact Nat.le_refl _), List.take_of_length_le (by rw [HLB.out]; exact Nat.le_refl _)] at h
          exact h)
        go_wp2_with fail
        exact bodyPost_ret (results_tmp rfl _ _ _) rfl ⟨true, rfl, hW.out.2, by simp [HE.out]⟩
  · have hne : ((n : Int) != (m : Int)) = true := by rw [bne_iff_ne]; omega
    have HNE := Lib.hid (show ¬ la = lb from fun e => hnm (by rw [← HLA.out, e, HLB.out]))
    have HF := Lib.hid (Fr.refl [] w)
    go_wp2_with fail
    exact bodyPost_ret (results_tmp rfl _ _ _) rfl ⟨false, rfl, HF.out, by simp [HNE.out]⟩
end
end Go.Proofs.Ytombhkekocbfoaa
namespace Go.Proofs.Ytombhkekocbfoaa
open Go.ChangeShapes Go.WideShapes Go.ChangeAt Go.RowKit Go.Dr Go.Kd Go.St
theorem own : ownKnob Try.prog.godebug = none := by kernel_rfl
theorem laidOut : laidOutB Try.prog = true := by kernel_rfl
theorem Fr.below {W W' : World} (h : Fr [] W W') : Below W.heap.size W W' :=
  ⟨h.os, h.tape, h.output, h.size, fun k hk => h.at_ k hk (by simp)⟩
theorem cells5 : Try.prog.cellsOf 5 = 1 := by kernel_rfl
theorem bytes5 : Try.prog.bytesOf 5 = 1 := by kernel_rfl
theorem wf_u8 {n : Int} (h : (Lit.int .u8 n).wf = true) : 0 ≤ n ∧ n ≤ 255 := by
  simp [Lit.wf, IntKind.min, IntKind.max, IntKind.signed, IntKind.bits] at h; omega
theorem slice_cell {P : Program} {w : World} {r : Reach} {base u e : Nat} {v : Value} (h : Cell.okWide P w r base u v) (hu : P.underlying u = some (.slice e)) : ∃ p n c, v = .slice p n c := by
  unfold Cell.okWide at h
  rw [hu] at h
  cases v <;> simp only [Cell.ok, hu] at h <;> first | exact h.elim | exact ⟨_, _, _, rfl⟩ | skip
/-- Every text is some bytes. -/
theorem str_all (s : ByteArray) : ∃ n : List Int, (∀ x ∈ n, 0 ≤ x ∧ x < 256) ∧ s = strB n := by
  refine ⟨s.data.toList.map fun b => (b.toNat : Int), fun x hx => ?_, ?_⟩
  · obtain ⟨b, -, rfl⟩ := List.mem_map.1 hx
    have := b.toNat_lt
    omega
  · obtain ⟨d⟩ := s
    unfold strB
    congr 1
    apply Array.ext'
    simp only [List.map_map]
    refine (List.map_id _).symm.trans (List.map_congr_left fun b _ => ?_)
    simp [Function.comp]
section
variable {H : Type} {enc : TypeId × Value → H} {w : World} {base : Nat} {spare : Nat → Bool} {held : Bool}
/-- Cells that are there, one behind the other. -/
theorem cellsN {a : Addr} {cs : List Value} {n : Nat} (h : w.cells? base a n = some cs) : cs.length = n ∧ ∀ i v, cs[i]? = some v → w.cell? (a.add i) = some v := by
  unfold World.cells? at h
  split at h
  · have hl := mapM_some_length h
    refine ⟨by simpa using hl, fun i v hv => ?_⟩
    have hi : i < n := by
      have := (List.getElem?_eq_some_iff.1 hv).1
      simp only [List.length_range] at hl; omega
    have := mapM_some_get h i i (by simp [hi])
    rw [this]; exact hv
  · cases h

set_option maxRecDepth 100000 in
theorem spot_of22 {r : Reach} {b0 : Nat} {v : Value} (h : Cell.okWide Try.prog w r b0 22 v) : ∀ a n c, v = .slice (some a) n c → a.spot = none := fun a n c e => by
  subst e
  unfold Cell.okWide at h
  rw [Try.underlying22] at h
  simp only [Cell.ok, Try.underlying22] at h
  exact h.2.2.2.1
set_option maxRecDepth 100000 in
theorem open22 {r : Reach} {b0 : Nat} {v : Value} {d : DataW H} {ps : List MemPlace} (hval : Value.okWide Try.prog w r b0 22 v) (hd : DataW.Trod enc Try.prog w base spare held 22 v d ps) :
    ∃ p n c l, v = .slice p n c ∧ Sl .u8 w p n c l ∧ isBytes l ∧ (n = 0 ∨ ∃ es sp, d = .slice es sp ∧ es.length = n) := by
  unfold Value.okWide at hval
  rw [Try.underlying22] at hval
  obtain ⟨p, N0, c, rfl⟩ := slice_cell hval Try.underlying22
  obtain ⟨fuel, hf⟩ := hd
  have hsp := spot_of22 hval
  rcases Go.Deep.open_slice Try.underlying22 hf with ⟨hcs, _⟩ | ⟨a, len, cap, m, n, D, Pl, hcs, _, hlc, hcm, hmm, hx0, hel⟩
  · replace hcs : [Value.slice p N0 c] = [.slice none 0 0] := hcs
    simp only [List.cons.injEq, and_true] at hcs
    exact ⟨none, 0, 0, [], hcs, ⟨rfl, Nat.le_refl 0, .inl rfl, fun _ => rfl, by simp⟩, by simp [isBytes], .inl rfl⟩
  · replace hcs : [Value.slice p N0 c] = [.slice (some a) len cap] := hcs
    simp only [List.cons.injEq, and_true] at hcs
    have hle : len ≤ m := by rw [hmm]; split <;> omega
    have hspot : a.spot = none := hsp _ _ _ hcs
    obtain ⟨b, off, spot⟩ := a
    replace hspot : spot = none := hspot
    subst hspot
    have key : ∀ i, i < len → ∃ x : Int, (0 ≤ x ∧ x < 256) ∧ w.cell? ⟨b, off + i, none⟩ = some (.int .u8 x) := fun i hi => by
      obtain ⟨cs, hc, ht⟩ := hel i (by omega)
      rw [cells5] at hc
      obtain ⟨hl4, hcell⟩ := cellsN hc
      obtain ⟨y, hy, _, q⟩ := DataW.trod_int Try.underlying5 ht
      subst hy
      have := wf_u8 q
      refine ⟨y, ⟨this.1, by omega⟩, ?_⟩
      have h := hcell 0 _ rfl
      rw [Go.Deep.add_add, Addr.add_mid] at h
      simpa using h
    obtain ⟨f, hf'⟩ := Classical.axiomOfChoice (r := fun (i : Nat) (x : Int) => i < len → (0 ≤ x ∧ x < 256) ∧ w.cell? ⟨b, off + i, none⟩ = some (.int .u8 x)) (fun i => by
      by_cases hi : i < len
      · obtain ⟨x, h⟩ := key i hi; exact ⟨x, fun _ => h⟩
      · exact ⟨0, fun h => absurd h hi⟩)
    refine ⟨some ⟨b, off, none⟩, len, cap, (List.range len).map f, hcs, ⟨by simp, hlc, ?_, by simp, by simp⟩, fun x hx => ?_, .inr ⟨_, _, congrArg Prod.fst hx0, by simp⟩⟩
    · rcases Nat.eq_zero_or_pos len with h0 | h0
      · exact .inl h0
      · right
        have hb := (hf' 0 h0).2
        rw [World.cell?_at] at hb
        cases hbl : w.blk b with
        | none => rw [hbl] at hb; simp at hb
        | some o =>
          cases o with
          | cells cs T fr =>
            have hall : ∀ i, i < len → cs[off + i]? = some (.int .u8 (f i)) := fun i hi => by
              have h := (hf' i hi).2
              rw [World.cell?_at, hbl] at h
              exact h
            have hlast := (Array.getElem?_eq_some_iff.1 (hall (len - 1) (by omega))).1
            refine ⟨b, off, cs, T, fr, rfl, hbl, by omega, ?_⟩
            apply List.ext_getElem?
            intro k
            rcases Nat.lt_or_ge k len with hk | hk
            · rw [Array.getElem?_toList, Array.getElem?_extract_of_lt (by omega), ← Array.getElem?_eq_getElem, hall k hk]
              simp [hk]
            · rw [List.getElem?_eq_none (by rw [Array.length_toList, Array.size_extract]; omega), List.getElem?_eq_none (by simp; omega)]
          | _ => rw [hbl] at hb; simp at hb
    · obtain ⟨i, hi, rfl⟩ := List.mem_map.1 hx
      exact (hf' i (List.mem_range.1 hi)).1
end
theorem and_true' {a b : Bool} (h : a = true) (k : b = true) : (a && b) = true := by rw [h, k]; rfl
theorem mapsRowedFact : (mapsRowed Try.pinned.checked.prog) = true := by kernel_rfl
theorem mayEnterFact : (Try.pinned.checked.prog.mayEnter) = true := by kernel_rfl
theorem liftsFact : ((Rows.storeOwnRow.lifted == Try.pinned.checked.prog.liftsFinal)) = true := by kernel_rfl
theorem makeFact : ((Try.pinned.checked.prog.make == some Rows.storeOwnRow.make)) = true := by kernel_rfl
end Go.Proofs.Ytombhkekocbfoaa
