/- The document's SHA-512. -/
import Derived.Test.YtakhmmnklkckpaaShG
namespace Go.Proofs.Ytakhmmnklkckpaa
open Go.RowKit Go.Dr
section
variable {w : World}
set_option maxRecDepth 100000 in
set_option maxHeartbeats 8000000 in
theorem dhash_f {p : Option Addr} {n cap : Nat} {B : List Int} (S : Sl .u8 w p n cap B) (hB : Byt B) (hn : n ≤ 70368744177664) :
    Calls Try.prog 111 #[.slice p n cap, .int .u64 64] w fun e w' => ∃ b c, e = .returned (.slice (some ⟨b, 0, none⟩) 64 c) ∧ Sl .u8 w' (some ⟨b, 0, none⟩) 64 c (sumF B) ∧ w.heap.size ≤ b ∧ Fr [] w w' := by
  have HS := Lib.hid S
  have HB := Lib.hid hB
  have HN := Lib.hid S.len
  clear S hB
  go_enter Try.func111, Try.ntmps111
  go_wp2_with fail
  refine first_f.mono ?_
  rintro e w1 ⟨bh, rfl, hh1, hh2, F1⟩
  simp only []
  go_wp2_with fail
  refine rounds_f.mono ?_
  rintro e w2 ⟨bk, rfl, hk1, hk2, F2⟩
  simp only []
  have hO1 := Lib.hid ((((OwB.start w).call F1).room hh1 (OwB.fresh (OwB.start w) hh2) hh2).call F2)
  have hO2 := Lib.hid (hO1.out.room hk1 (fun hm => by simp only [List.map_cons, List.map_nil, List.mem_singleton] at hm; have := World.at_lt hh1; omega) (Nat.le_trans F1.size hk2))
  clear hO1 hh1 hh2 hk1 hk2 F1 F2
  have hO3 := hO2.out.allocN (.cells (ints .u64 sL) 74) w2.heap.size rfl
  have hB0 := Lib.hid (Bld.nil (k := .u8) (e := 5) hO3)
  have hS1 := Lib.hid (HS.out.fr0 hO3.fr)
  clear hO3
  go_wp2_with (first | (refine wpList_bsV (t := 138) (m := 12) (v := .slice (some ⟨w2.heap.size, 0, none⟩) 12 12) (w' := w2.alloc (.cells (ints .u64 sL) 74)) rfl rfl (by kernel_rfl) ?_) | (refine wpList_app8 rfl (.tmp 39) (.tmp 40) rfl rfl hB0.out rfl hS1.out (by omega) ?_; intro p1 c1 w3 B1; rw [Nat.zero_add, List.nil_append] at B1; have hB1 := Lib.hid B1; clear B1) | (refine wpList_app8o rfl (.tmp 42) (.tmp 43) rfl rfl hB1.out rfl (by omega) ?_; intro p2 c2 w4 B2; have hB2 := Lib.hid B2; clear B2))
  clear hB0 hB1 hS1 hO2
  generalize w2.heap.size = bs at hB2 ⊢
  obtain ⟨L3, hL3⟩ : ∃ L3 : List (Nat × Obj), L3 = [(bs, .cells (ints .u64 sL) 74), (bk, .cells (ints .u64 kL) 25), (bh, .cells (ints .u64 iL) 25)] := ⟨_, rfl⟩
  rw [← hL3] at hB2
  have HL3 := Lib.hid hL3
  clear hL3
  obtain ⟨z0, hz0⟩ : ∃ z0, z0 = zN B.length := ⟨_, rfl⟩
  have hz : z0 < 128 ∧ (n + 1 + z0) % 128 = 112 := by have := HN.out; unfold zN at hz0; omega
  obtain ⟨hz1, hz2⟩ := hz
  have HZ := Lib.hid hz0
  have HZ2 := Lib.hid hz2
  clear hz0 hz2
  go_loopw [11] (fun v wr => ∃ (z y : Nat) (p : Option Addr) (c : Nat), z ≤ z0 ∧ Hid (y = n + 1 + z) ∧ v = .slice p y c ∧ Hid (Bld w L3 .u8 5 wr p y c (B ++ [128] ++ zs z))) (fun v _ => n + 1 + z0 - slLen v)
  case atStart => exact ⟨0, n + 1, p2, c2, by omega, Lib.hid rfl, rfl, Lib.hid (by rw [show zs 0 = [] from rfl, List.append_nil]; exact hB2.out)⟩
  case round =>
    clear hB2
    obtain ⟨z, y, p3, c3, hzz, hy, rfl, hB3⟩ := hrel
    by_cases hlt2 : z < z0
    · have hd : ((y : Int) % 128 != 112) = true := by have := hy.out; have := HZ2.out; rw [bne_iff_ne]; omega
      have hyb : y + 1 ≤ 140737488355328 := by have := hy.out; omega
      go_wp2_with (refine wpList_app8o rfl (.tmp 54) (.tmp 55) rfl rfl hB3.out rfl hyb ?_; intro p4 c4 w5 B4; have hB4 := Lib.hid B4; clear B4)
      go_roundw
      case rel => exact ⟨z + 1, y + 1, p4, c4, hlt2, Lib.hid (by have := hy.out; omega), rfl, Lib.hid (by have := hB4.out; rw [List.append_assoc, ← zs_succ] at this; exact this)⟩
      case measure => have := hy.out; simp only [slLen]; omega
    · obtain rfl : z = z0 := by omega
      have hd : ((y : Int) % 128 != 112) = false := by have := hy.out; have := HZ2.out; rw [bne_eq_false_iff_eq]; omega
      clear hlt2 hzz
      go_wp2_with fail
      go_loopw [11, 12] (fun v iv wr => ∃ (j t : Nat) (i : Int) (p : Option Addr) (c : Nat), j ≤ 16 ∧ Hid (t = y + j) ∧ Hid (i = 15 - (j : Int)) ∧ iv = .int .i64 i ∧ v = .slice p t c ∧ Hid (Bld w L3 .u8 5 wr p t c (B ++ [128] ++ zs z ++ (zs 8 ++ lenL B.length 8).take j))) (fun _ iv _ => (intOf iv + 1).toNat)
      case atStart => exact ⟨0, y, 15, p3, c3, by omega, Lib.hid rfl, Lib.hid rfl, rfl, rfl, Lib.hid (by rw [List.take_zero, List.append_nil]; exact hB3.out)⟩
      case round =>
        clear hB3
        obtain ⟨j, t, i, p5, c5, hj, ht, hi, rfl, rfl, hB5⟩ := hrel
        by_cases hlt3 : j < 16
        · obtain ⟨u, hu⟩ : ∃ u : Nat, i = (u : Int) := ⟨15 - j, by have := hi.out; omega⟩
          subst hu
          have hu7 : u ≤ 15 := by have := hi.out; omega
          have htb : t + 1 ≤ 140737488355328 := by have := ht.out; have := hy.out; omega
          have hd : decide ((0 : Int) ≤ (u : Int)) = true := by rw [decide_eq_true_eq]; omega
          have hT := take_byteAt B.length j hlt3
          have HT := Lib.hid hT
          clear hT
          by_cases hlt4 : u < 8
          · have hd4 : decide ((u : Int) < 8) = true := by rw [decide_eq_true_eq]; omega
            go_wp2_with (refine wpList_app8o rfl (.tmp 75) (.tmp 77) rfl rfl hB5.out rfl htb ?_; intro p6 c6 w6 B6; have hB6 := Lib.hid B6; clear B6)
            go_roundw
            case rel =>
              refine ⟨j + 1, t + 1, (u : Int) - 1, p6, c6, hlt3, Lib.hid (by have := ht.out; omega), Lib.hid (by have := hi.out; omega), rfl, rfl, Lib.hid ?_⟩
              have h6 := hB6.out
              have e : (n : Int) * 8 / 2 ^ (8 * u) % 256 = byteAt B.length j := by
                have hu : u = 15 - j := by have := hi.out; omega
                rw [byteAt, if_neg (by omega), lenB, HN.out, hu]
              rw [e, List.append_assoc, HT.out] at h6
              exact h6
            case measure => simp only [intOf]; omega
          · have hd4 : decide ((u : Int) < 8) = false := by rw [decide_eq_false_iff_not]; omega
            go_wp2_with (refine wpList_app8o rfl (.tmp 75) (.tmp 77) rfl rfl hB5.out rfl htb ?_; intro p6 c6 w6 B6; have hB6 := Lib.hid B6; clear B6)
            go_roundw
            case rel =>
              refine ⟨j + 1, t + 1, (u : Int) - 1, p6, c6, hlt3, Lib.hid (by have := ht.out; omega), Lib.hid (by have := hi.out; omega), rfl, rfl, Lib.hid ?_⟩
              have h6 := hB6.out
              have e : (0 : Int) = byteAt B.length j := by
                have hu : u = 15 - j := by have := hi.out; omega
                rw [byteAt, if_pos (by omega)]
              rw [e, List.append_assoc, HT.out] at h6
              exact h6
            case measure => simp only [intOf]; omega
        · obtain rfl : j = 16 := by omega
          obtain rfl : i = -1 := by have := hi.out; omega
          have hd : decide ((0 : Int) ≤ -1) = false := by decide
          obtain ⟨T, hT⟩ : ∃ T, T = B ++ [128] ++ zs z ++ (zs 8 ++ lenL B.length 8).take 16 := ⟨_, rfl⟩
          rw [← hT] at hB5
          have hT2 : T = padF B := by rw [hT, padF, HZ.out, List.take_of_length_le (by simp [length_lenL, length_zs])]; simp only [List.append_assoc]
          have hTl : T.length = t := hB5.out.len
          have hTm : t % 128 = 0 := by have := ht.out; have := hy.out; have := HZ2.out; omega
          have htb : t ≤ 140737488355328 := by have := ht.out; have := hy.out; omega
          obtain ⟨g, rfl⟩ := hB5.out.row.some_of (by have := ht.out; omega)
          obtain ⟨r, hO6, hcr⟩ := hB5.out.room
          clear hcr
          have hbyt : Byt T := by rw [hT2]; exact byt_padF HB.out
          have HT2 := Lib.hid hT2
          have HTl := Lib.hid hTl
          have HTm := Lib.hid hTm
          have HBT := Lib.hid hbyt
          rw [HL3.out] at hO6
          have HO6 := Lib.hid hO6
          clear hT hT2 hTl hTm hO6 hbyt hB5
          go_wp2_with fail
          go_loopw [14] (fun v wr => ∃ j a : Nat, Hid (a = 128 * j) ∧ a ≤ t ∧ v = .int .i64 (a : Int) ∧ Hid (OwB w [(g, .cells (rowR .u8 T r) 5), (bs, .cells (ints .u64 sL) 74), (bk, .cells (ints .u64 kL) 25), (bh, .cells (ints .u64 (hR T j)) 25)] wr)) (fun v _ => (t - intOf v).toNat)
          case atStart => exact ⟨0, 0, Lib.hid rfl, by omega, rfl, HO6⟩
          case round =>
            clear HO6
            obtain ⟨j, a, ha, hat, rfl, hO7⟩ := hrel
            obtain ⟨H, hH⟩ : ∃ H, H = hR T j := ⟨_, rfl⟩
            rw [← hH] at hO7
            have hHl : H.length = 8 := by rw [hH]; exact length_hR _ _
            have hHw : Wrd H := by rw [hH]; exact wrd_hR _ _
            have HH := Lib.hid hH
            have HHW := Lib.hid hHw
            clear hH hHw
            by_cases hlt5 : a < t
            · refine Eq.mp (congrArg (fun c => Code.wp Try.prog c _ _ _) (show dbody = _ from by kernel_rfl)) (dround_d hlt5 htb ha.out HTl.out HTm.out HBT.out HH.out hO7.out ?_)
              intro y15 y16 y17 y18 y19 y20 y21 y22 y79 y80 y81 y82 y83 y84 y85 y86 y87 y88 y89 y90 y91 y92 y93 y94 y95 y96 y97 y98 y99 y100 y101 y102 y103 y104 y105 y106 y107 y108 y109 y110 y111 y112 y113 y114 y115 y116 y117 y118 y119 y120 y121 y122 y123 y124 y125 y126 y127 y128 y129 y130 y131 y132 y133 y134 y135 y136 y137 y138 y139 y140 y141 y142 y143 y144 y145 y146 y147 y148 y149 y150 y151 y152 y153 y154 y155 y156 y157 y158 y159 y160 y161 y162 y163 y164 y165 y166 y167 y168 y169 y170 y171 y172 y173 y174 y175 y176 y177 y178 y179 y180 y181 y182 y183 y184 y185 y186 y187 y188 y189 y190 y191 y192 y193 y194 y195 y196 y197 y198 y199 y200 y201 y202 y203 y204 y205 y206 y207 y208 y209 y210 y211 y212 y213 y214 y215 y216 y217 y218 y219 y220 y221 y222 y223 y224 y225 y226 y227 y228 y229 y230 y231 y232 y233 y234 y235 y236 y237 y238 y239 y240 y241 y242 y243 y244 y245 y246 y247 y248 y249 y250 y251 y252 y253 y254 y255 y256 y257 y258 y259 y260 y261 y262 y263 y264 y265 y266 y267 y268 y269 y270 y271 y272 y273 y274 y275 y276 y277 y278 y279 y280 y281 y282 y283 y284 y285 y286 y287 y288 y289 y290 y291 y292 y293 y294 y295 y296 y297 y298 y299 y300 y301 y302 y303 y304 y305 y306 y307 y308 y309 y310 y311 y312 y313 w9 h9
              have hat2 : a + 128 ≤ t := by have := HTm.out; have := ha.out; omega
              have HN2 := Lib.hid h9
              clear h9
              refine ⟨⟨_, _, _, _, _, _, _, _, _, _, _, _, _, _, _, _, _, _, _, _, _, _, _, _, _, _, _, _, _, _, _, _, _, _, _, _, _, _, _, _, _, _, _, _, _, _, _, _, _, _, _, _, _, _, _, _, _, _, _, _, _, _, _, _, _, _, _, _, _, _, _, _, _, _, _, _, _, _, _, _, _, _, _, _, _, _, _, _, _, _, _, _, _, _, _, _, _, _, _, _, _, _, _, _, _, _, _, _, _, _, _, _, _, _, _, _, _, _, _, _, _, _, _, _, _, _, _, _, _, _, _, _, _, _, _, _, _, _, _, _, _, _, _, _, _, _, _, _, _, _, _, _, _, _, _, _, _, _, _, _, _, _, _, _, _, _, _, _, _, _, _, _, _, _, _, _, _, _, _, _, _, _, _, _, _, _, _, _, _, _, _, _, _, _, _, _, _, _, _, _, _, _, _, _, _, _, _, _, _, _, _, _, _, _, _, _, _, _, _, _, _, _, _, _, _, _, _, _, _, _, _, _, _, _, _, _, _, _, _, _, _, _, _, _, ?rel, rfl⟩, ?measure⟩
              case rel => exact ⟨j + 1, a + 128, Lib.hid (by have := ha.out; omega), hat2, by simp, HN2⟩
              case measure => simp [intOf]; omega
            · as_aux_lemma =>
                obtain rfl : a = t := by omega
                have hd : decide (a < a) = false := by rw [decide_eq_false_iff_not]; omega
                have hHs : H = sumW B := by
                  have h1 := blkN_mul B
                  have h2 := HTl.out
                  rw [HT2.out] at h2
                  rw [HH.out, HT2.out, sumW, show j = blkN B from by have := ha.out; omega]
                have HHS := Lib.hid hHs
                have hB0 := Lib.hid (Bld.nil (k := .u8) (e := 5) hO7.out)
                clear hHs hO7
                go_wp2_with fail
                go_loopw [23, 24] (fun v iv wr => ∃ (i y : Nat) (p : Option Addr) (c : Nat), i ≤ 8 ∧ Hid (y = 8 * i) ∧ iv = .int .i64 (i : Int) ∧ v = .slice p y c ∧ Hid (Bld w [(g, .cells (rowR .u8 T r) 5), (bs, .cells (ints .u64 sL) 74), (bk, .cells (ints .u64 kL) 25), (bh, .cells (ints .u64 H) 25)] .u8 5 wr p y c ((List.range y).map (outB H)))) (fun _ iv _ => (8 - intOf iv).toNat)
                case atStart => exact ⟨0, 0, none, 0, by omega, Lib.hid rfl, rfl, rfl, hB0⟩
                case round =>
                  clear hB0
                  obtain ⟨i, y, p1, c1, hi, hy, rfl, rfl, hB1⟩ := hrel
                  by_cases hlt6 : i < 8
                  · have hd6 : decide ((i : Int) < 8) = true := by rw [decide_eq_true_eq]; omega
                    go_wp2_with fail
                    go_loopw [23, 25] (fun v jv wr => ∃ (q y : Nat) (x : Int) (p : Option Addr) (c : Nat), q ≤ 8 ∧ Hid (y = 8 * i + q) ∧ Hid (x = 7 - (q : Int)) ∧ jv = .int .i64 x ∧ v = .slice p y c ∧ Hid (Bld w [(g, .cells (rowR .u8 T r) 5), (bs, .cells (ints .u64 sL) 74), (bk, .cells (ints .u64 kL) 25), (bh, .cells (ints .u64 H) 25)] .u8 5 wr p y c ((List.range y).map (outB H)))) (fun _ jv _ => (intOf jv + 1).toNat)
                    case atStart => exact ⟨0, y, 7, p1, c1, by omega, hy, Lib.hid rfl, rfl, rfl, hB1⟩
                    case round =>
                      clear hB1
                      obtain ⟨q, y, x, p1, c1, hq, hy2, hx, rfl, rfl, hB1⟩ := hrel
                      by_cases hlt7 : q < 8
                      · obtain ⟨u, hu⟩ : ∃ u : Nat, x = (u : Int) := ⟨7 - q, by have := hx.out; omega⟩
                        subst hu
                        have hd7 : decide ((0 : Int) ≤ (u : Int)) = true := by rw [decide_eq_true_eq]; omega
                        have hu7 : u ≤ 7 := by have := hx.out; omega
                        have hyb : y + 1 ≤ 140737488355328 := by have := hy2.out; omega
                        have g0 := hB1.out.own.nth 3 rfl
                        go_wp2_with (refine wpList_app8o rfl (.tmp 324) (.tmp 334) rfl rfl hB1.out rfl hyb ?_; intro p6 c6 w6 B6; have hB6 := Lib.hid B6; clear B6)
                        go_roundw
                        case rel =>
                          refine ⟨q + 1, y + 1, (u : Int) - 1, p6, c6, by omega, Lib.hid (by have := hy2.out; omega), Lib.hid (by have := hx.out; omega), rfl, rfl, Lib.hid ?_⟩
                          have h6 := hB6.out
                          have e : el H i / 2 ^ (8 * u) % 256 = outB H y := by
                            have h1 := hy2.out
                            have h2 := hx.out
                            rw [outB, show y / 8 = i from by omega, show 56 - y % 8 * 8 = 8 * u from by omega]
                          rw [e] at h6
                          rw [List.range_succ, List.map_append]
                          exact h6
                        case measure => simp only [intOf]; omega
                      · obtain rfl : q = 8 := by omega
                        obtain rfl : x = -1 := by have := hx.out; omega
                        have hd7 : decide ((0 : Int) ≤ -1) = false := by decide
                        go_wp2_with fail
                        go_roundw
                        case rel => exact ⟨i + 1, y, p1, c1, by omega, Lib.hid (by have := hy2.out; omega), by simp, rfl, hB1⟩
                        case measure => simp [intOf]; omega
                  · obtain rfl : i = 8 := by omega
                    have hd6 : decide ((8 : Int) < 8) = false := by decide
                    obtain rfl : y = 64 := by have := hy.out; omega
                    obtain ⟨b, rfl⟩ := hB1.out.row.some_of (by omega)
                    go_wp2_with fail
                    go_ret
                    refine ⟨b, c1, rfl, ?_, (hB1.out.new b rfl).1, hB1.out.own.fr⟩
                    have h6 := hB1.out.sl
                    rw [HHS.out] at h6
                    exact h6
end
end Go.Proofs.Ytakhmmnklkckpaa
