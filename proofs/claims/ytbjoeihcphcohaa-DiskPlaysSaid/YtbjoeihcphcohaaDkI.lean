/- Walk of the statement DiskOwn. -/
import Derived.Test.YtbjoeihcphcohaaDkH
namespace Go.Proofs.Ytbjoeihcphcohaa
open Go.RowKit Go.Dr

theorem own_facts (b : List Int) (h : b.length = 64) : argM (newM 1) 0 b = false ∧ (writeM (newM 1) 0 b).1 = 0 ∧ readM (writeM (newM 1) 0 b).2 0 = (0, b) ∧ (writeM (newM 1) 0 b).2.kept.length = 64 := by
  have e0 : newM 1 = ⟨1, zs 64, zs 64, [], -1, false⟩ := rfl
  rw [e0]
  have h1 : argM ⟨1, zs 64, zs 64, [], -1, false⟩ 0 b = false := by simp [argM, h]
  have h2 : livesM ⟨1, zs 64, zs 64, [], -1, false⟩ = true := by decide
  refine ⟨h1, ?_, ?_, ?_⟩
  · simp [writeM, h1, h2]
  · simp only [writeM, h1, h2, Bool.false_eq_true, ↓reduceIte]
    have e : blockOf (lay (zs 64) 0 b) 0 = b := by
      simp [lay, blockOf, h, zs, List.take_of_length_le]
    simp [readM, noBlock, aliveM, e]
  · simp only [writeM, h1, h2, Bool.false_eq_true, ↓reduceIte]
    decide
theorem byt_blockB (f s : Int) : Byt (blockB f s) := by
  intro x hx
  simp only [blockB, List.mem_map] at hx
  obtain ⟨i, _, rfl⟩ := hx
  omega

section
variable {w : World}
set_option maxRecDepth 100000 in
set_option maxHeartbeats 4000000 in
theorem own_walk (f : Int) (h0 : 0 ≤ f) (h1 : f ≤ 255) : Calls Try.prog 4 #[.int .u8 f] w fun e w' => e = .returned (.bool true) ∧ Fr [] w w' := by
  have hlen : (blockB f 64).length = 64 := by rw [length_blockB]; rfl
  have hbyt := byt_blockB f 64
  obtain ⟨g1, g2, g3, g4⟩ := own_facts (blockB f 64) hlen
  have G := Lib.hid (And.intro hlen (And.intro hbyt (And.intro g1 (And.intro g2 (And.intro g3 g4)))))
  clear g1 g2 g3 g4 hlen hbyt
  go_enter Try.func4, Try.ntmps4
  go_wp2_with fail
  refine (alive_law w).mono ?_
  rintro e w1 ⟨rfl, F1⟩
  go_wp2_with fail
  refine (new_m 1 w1).mono ?_
  rintro e w2 ⟨d, fp, rfl, D2, F2, N2⟩
  have M2 : News w [] fp := fun k hk => by rcases N2 k hk with h | h; cases h; right; have := F1.size; omega
  have G2 := F1.trans F2
  clear F1 F2 N2
  have HM := Lib.hid M2
  have HD := Lib.hid D2
  have HG := Lib.hid G2
  clear M2 D2 G2
  go_wp2_with fail
  refine (block_any 0 0 f 64 (by omega) (by omega) h0 h1).mono ?_
  rintro e w3 ⟨bv, bb, rfl, B, F3, hbb⟩
  have D3 := HD.out.frame F3 (fun _ _ h => by cases h)
  have nb : bb ∉ fp := fun h => by have := HD.out.lt _ h; omega
  have G3 := HM.out.fr HG.out (F3.mono (fun _ h => by cases h))
  have sb : w.heap.size ≤ bb := by have := HG.out.size; omega
  clear HD HG F3 hbb
  have HB := Lib.hid B
  have HD := Lib.hid D3
  have HG := Lib.hid G3
  clear B D3 G3
  simp only []
  go_wp2_with fail
  refine (write_any HD.out 0 bv bb (blockB f 64) HB.out nb (by rw [G.out.1]; decide) (by decide)).mono ?_
  rintro e w4 ⟨he, fp4, D4, F4, N4⟩
  rw [G.out.2.2.2.1] at he
  subst he
  have B4 := HB.out.frame F4 nb
  have nb4 := N4.notin nb HB.out.lt
  have G4 := HM.out.fr HG.out F4
  have M4 := HM.out.trans N4 HG.out.size
  obtain ⟨m, hm⟩ : ∃ m, (writeM (newM 1) 0 (blockB f 64)).2 = m := ⟨_, rfl⟩
  rw [hm] at D4
  have gr := G.out.2.2.2.2.1
  have gk := G.out.2.2.2.2.2
  rw [hm] at gr gk
  obtain ⟨cap, cur, T, rfl, hb, hx⟩ := B4.get 64 G.out.1
  have hx3 := hx 3 (by decide)
  have z3 : 3 < cur.size := (Array.getElem?_eq_some_iff.mp hx3).1
  have GR := Lib.hid gr
  have GK := Lib.hid gk
  have HD4 := Lib.hid D4
  have HG4 := Lib.hid G4
  have HM4 := Lib.hid M4
  have Hb := Lib.hid hb
  have lb := World.at_lt hb
  obtain ⟨v3, hv3⟩ : ∃ v3, (blockB f 64).getD 3 0 = v3 := ⟨_, rfl⟩
  rw [hv3] at hx3
  obtain ⟨_, yhx3⟩ := Array.getElem?_eq_some_iff.mp hx3
  clear D4 G4 M4 gr gk hm hx B4 F4 N4 HB HD HG HM hv3
  go_wp2_with fail
  refine calls_at ?_
  intro w5 hw5
  have D5 : DiskAt w5 d m fp4 := HD4.out.frame (gp := [bb]) (by rw [hw5]; exact (Fr.refl _ _).put _ _ (by simp)) (fun k hk h => by
      simp only [List.mem_cons, List.not_mem_nil, or_false] at h
      subst h
      exact nb4 hk)
  have G5 : Fr [] w w5 := by rw [hw5]; exact HG4.out.put _ _ (fun h => by omega)
  clear hw5 HG4 HD4 hb Hb lb hx3
  refine (read_any D5 0).mono ?_
  rintro e w6 ⟨v6, he, hv6, F6⟩
  rw [GR.out] at he hv6
  subst he
  rcases hv6 with ⟨_, h0⟩ | ⟨b6, B6, s6⟩
  · exact absurd (congrArg List.length h0) (by rw [G.out.1]; decide)
  obtain ⟨c6, cur6, T6, rfl, hb6, hx6⟩ := B6.get 64 G.out.1
  have hx65 := hx6 5 (by decide)
  have z5 : 5 < cur6.size := (Array.getElem?_eq_some_iff.mp hx65).1
  have n6 : b6 ∉ fp4 := fun h => by have := D5.lt _ h; omega
  have s6' : w.heap.size ≤ b6 := by have := G5.size; omega
  have D6 := D5.frame F6 (fun _ _ h => by cases h)
  have G6 := HM4.out.fr G5 (F6.mono (fun _ h => by cases h))
  have l6 := World.at_lt hb6
  obtain ⟨v5, hv5⟩ : ∃ v5, (blockB f 64).getD 5 0 = v5 := ⟨_, rfl⟩
  rw [hv5] at hx65
  obtain ⟨_, yhx65⟩ := Array.getElem?_eq_some_iff.mp hx65
  have HD6 := Lib.hid D6
  have HG6 := Lib.hid G6
  clear hv5 hx6 B6 D5 F6 G5 D6 G6 s6
  go_wp2_with fail
  refine calls_at ?_
  intro w7 hw7
  have D7 : DiskAt w7 d m fp4 := HD6.out.frame (gp := [b6]) (by rw [hw7]; exact (Fr.refl _ _).put _ _ (by simp)) (fun k hk h => by
      simp only [List.mem_cons, List.not_mem_nil, or_false] at h
      subst h
      exact n6 hk)
  have G7 : Fr [] w w7 := by rw [hw7]; exact HG6.out.put _ _ (fun h => by omega)
  clear hw7 HG6 HD6 hb6 l6 hx65
  refine (kept_any D7).mono ?_
  rintro e w8 ⟨v8, b8, rfl, B8, F8, s8⟩
  obtain ⟨c8, cur8, T8, rfl, hb8, hx8⟩ := B8.get 64 GK.out
  have hx80 := hx8 0 (by decide)
  have z0 : 0 < cur8.size := (Array.getElem?_eq_some_iff.mp hx80).1
  have n8 : b8 ∉ fp4 := fun h => by have := D7.lt _ h; omega
  have s8' : w.heap.size ≤ b8 := by have := G7.size; omega
  have D8 := D7.frame F8 (fun _ _ h => by cases h)
  have G8 := HM4.out.fr G7 (F8.mono (fun _ h => by cases h))
  have l8 := World.at_lt hb8
  obtain ⟨v0, hv0⟩ : ∃ v0, m.kept.getD 0 0 = v0 := ⟨_, rfl⟩
  rw [hv0] at hx80
  obtain ⟨_, yhx80⟩ := Array.getElem?_eq_some_iff.mp hx80
  have HD8 := Lib.hid D8
  have HG8 := Lib.hid G8
  clear hv0 hx8 B8 D7 F8 G7 D8 G8 s8
  go_wp2_with fail
  refine calls_at ?_
  intro w9 hw9
  have D9 : DiskAt w9 d m fp4 := HD8.out.frame (gp := [b8]) (by rw [hw9]; exact (Fr.refl _ _).put _ _ (by simp)) (fun k hk h => by
      simp only [List.mem_cons, List.not_mem_nil, or_false] at h
      subst h
      exact n8 hk)
  have G9 : Fr [] w w9 := by rw [hw9]; exact HG8.out.put _ _ (fun h => by omega)
  clear hw9 HG8 HD8 hb8 l8 hx80
  refine (read_any D9 0).mono ?_
  rintro e wa ⟨va, he, hva, Fa⟩
  rw [GR.out] at he hva
  subst he
  rcases hva with ⟨_, h0⟩ | ⟨ba, Ba, sa⟩
  · exact absurd (congrArg List.length h0) (by rw [G.out.1]; decide)
  have Ga := HM4.out.fr G9 (Fa.mono (fun _ h => by cases h))
  have HBa := Lib.hid Ba
  have HGa := Lib.hid Ga
  clear Ba Fa G9 D9 sa Ga
  go_wp2_with fail
  refine (block_any 0 0 f 64 (by omega) (by omega) h0 h1).mono ?_
  rintro e wb ⟨bv, bc, rfl, Bb, Fb, hbb⟩
  have Gb := HGa.out.trans Fb
  have HBb := Lib.hid Bb
  have HGb := Lib.hid Gb
  have Ba' := HBa.out.frame Fb (by simp)
  have HBa' := Lib.hid Ba'
  clear Bb Fb Gb Ba' HBa
  go_wp2_with fail
  refine (bytes_any (.inr ⟨_, HBa'.out⟩) (.inr ⟨_, HBb.out⟩) G.out.2.1 G.out.2.1).mono ?_
  rintro e wc ⟨rfl, rfl⟩
  simp only [beq_self_eq_true]
  go_wp2
  go_ret
  exact ⟨rfl, HGb.out⟩
end
end Go.Proofs.Ytbjoeihcphcohaa
