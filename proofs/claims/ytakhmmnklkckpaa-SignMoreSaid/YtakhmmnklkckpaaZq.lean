/- What points say: the curve -x x + y y = 1 + d x x y y in the group of EdwB, for the code's points and for the document's; their bytes. Which bytes are a point, and which one. Multiples reckoned: L times the base is the zero point. -/
import Derived.Test.YtakhmmnklkckpaaZp
import Derived.Test.YtakhmmnklkckpaaZd
namespace Go.Proofs.Ytakhmmnklkckpaa
open Go.RowKit
theorem dE_val : dE.val = 37095705934669439343138083508754565189542113879843219016388785533085940283555 := by kernel_rfl
theorem not_sq_of_half {a : Fp} {n : Nat} (hn : a.val = n) (h0 : n ≠ 0) (h : mpow 57896044618658097711785492504343953926634992332820282019728792003956564819949 256 1 n pHalf = 57896044618658097711785492504343953926634992332820282019728792003956564819948) : ¬ IsSq a := fun hs => by
  have h1 := euler_of_sq (fun e => h0 (by rw [← hn, e]; rfl)) hs
  have h2 : pw a pHalf = -1 := by
    apply Fin.ext
    rw [val_pw, hn, pow_mod_of h (by unfold pHalf; omega)]
    rfl
  exact one_ne_neg (h1.symm.trans h2)
theorem not_sq_dE : ¬ IsSq dE := not_sq_of_half dE_val (by decide) (by kernel_rfl)
theorem dE_ne : dE ≠ 0 := fun h => not_sq_dE (h ▸ isSq_zero)
/-- The curve's number, turned. -/
def dC : Fp := -inv dE
theorem d_D : dE * dC = -1 := by
  have h := mul_inv dE_ne
  unfold dC
  obtain ⟨i, hi⟩ : ∃ i, i = inv dE := ⟨_, rfl⟩
  rw [← hi] at h ⊢
  obtain ⟨d, hd⟩ : ∃ d, d = dE := ⟨_, rfl⟩
  rw [← hd] at h ⊢
  clear hi hd
  grobner
theorem not_sq_dC : ¬ IsSq dC := fun ⟨x, hx⟩ => not_sq_dE ⟨im * inv x, by
  have h := d_D
  rw [← hx] at h
  have hx0 : x ≠ 0 := fun e => by rw [e] at h; exact zero_ne_one (by grobner)
  have hi := mul_inv hx0
  have h2 := im_im
  obtain ⟨i, hii⟩ : ∃ i, i = inv x := ⟨_, rfl⟩
  rw [← hii] at hi ⊢
  obtain ⟨d, hd⟩ : ∃ d, d = dE := ⟨_, rfl⟩
  rw [← hd] at h ⊢
  obtain ⟨m, hm⟩ : ∃ m, m = im := ⟨_, rfl⟩
  rw [← hm] at h2 ⊢
  clear hii hd hm hx0 hx
  grobner⟩
theorem two_neF : toFp 2 ≠ 0 := by decide
section
variable {X Y Z T X1 Y1 Z1 T1 X2 Y2 Z2 T2 : Fp} {P Q : Pt}
/-- A point of the code says P. -/
structure CSays (X Y Z T : Fp) (P : Pt) : Prop where
  z : Z ≠ 0
  x : im * X = P.1 * Z
  y : Y = P.2 * Z
  t : T * Z = X * Y
  on : On dC P
/-- A point of the document says P. -/
structure DSays (X Y Z : Fp) (P : Pt) : Prop where
  z : Z ≠ 0
  x : im * X = P.1 * Z
  y : Y = P.2 * Z
  on : On dC P
theorem csays_zero : CSays 0 1 1 0 pz := ⟨fun h => zero_ne_one h.symm, by unfold pz; grobner, by unfold pz; grobner, by grobner, on_pz⟩
theorem dsays_zero : DSays 0 1 1 pz := ⟨fun h => zero_ne_one h.symm, by unfold pz; grobner, by unfold pz; grobner, on_pz⟩
def padX (t d X1 Y1 Z1 T1 X2 Y2 Z2 T2 : Fp) : Fp := (((Y1 + X1) * (Y2 + X2)) - ((Y1 - X1) * (Y2 - X2))) * (((Z1 * t) * Z2) - ((T1 * t) * (d * T2)))
def padY (t d X1 Y1 Z1 T1 X2 Y2 Z2 T2 : Fp) : Fp := (((Z1 * t) * Z2) + ((T1 * t) * (d * T2))) * (((Y1 + X1) * (Y2 + X2)) + ((Y1 - X1) * (Y2 - X2)))
def padZ (t d Z1 T1 Z2 T2 : Fp) : Fp := (((Z1 * t) * Z2) - ((T1 * t) * (d * T2))) * (((Z1 * t) * Z2) + ((T1 * t) * (d * T2)))
def padT (X1 Y1 X2 Y2 : Fp) : Fp := (((Y1 + X1) * (Y2 + X2)) - ((Y1 - X1) * (Y2 - X2))) * (((Y1 + X1) * (Y2 + X2)) + ((Y1 - X1) * (Y2 - X2)))
theorem two_eq : toFp 2 = 1 + 1 := by decide
theorem imt {m X Y Z T p q : Fp} (hz : Z ≠ 0) (hx : m * X = p * Z) (hy : Y = q * Z) (ht : T * Z = X * Y) : m * T = p * q * Z := by
  refine eq_of_mul hz ?_
  have e : m * T * Z = m * (T * Z) := by grobner
  rw [e, ht, hy]
  have e2 : m * (X * (q * Z)) = m * X * q * Z := by clear e hx ht hy; grobner
  rw [e2, hx]
  clear e e2 hx ht hy
  grobner
theorem csays_add (h1 : CSays X1 Y1 Z1 T1 P) (h2 : CSays X2 Y2 Z2 T2 Q) : CSays (padX (toFp 2) dE X1 Y1 Z1 T1 X2 Y2 Z2 T2) (padY (toFp 2) dE X1 Y1 Z1 T1 X2 Y2 Z2 T2) (padZ (toFp 2) dE Z1 T1 Z2 T2) (padT X1 Y1 X2 Y2) (pad dC P Q) := by
  have hon := pad_on not_sq_dC h1.on h2.on
  obtain ⟨u, v, hu, hv, e⟩ := pad_def not_sq_dC h1.on h2.on
  have t1 := imt h1.z h1.x h1.y h1.t
  have t2 := imt h2.z h2.x h2.y h2.t
  have z1 := h1.z
  have z2 := h2.z
  have x1 := h1.x
  have x2 := h2.x
  have y1 := h1.y
  have y2 := h2.y
  have hD := d_D
  have hi := im_im
  have hDn := ne_zero_of not_sq_dC
  have h2n := two_neF
  rw [two_eq] at h2n ⊢
  clear h1 h2
  obtain ⟨p1, p2⟩ := P
  obtain ⟨q1, q2⟩ := Q
  simp only [] at *
  obtain ⟨d, hd⟩ : ∃ d, d = dE := ⟨_, rfl⟩
  obtain ⟨D, hDD⟩ : ∃ D, D = dC := ⟨_, rfl⟩
  obtain ⟨m, hm⟩ : ∃ m, m = im := ⟨_, rfl⟩
  rw [← hd] at hD ⊢
  rw [← hDD] at hD hu hv hon e hDn
  rw [← hm] at hi x1 x2 t1 t2
  clear hd
  have KD := Lib.hid hDD
  have Km := Lib.hid hm
  clear hDD hm
  obtain ⟨f, hf⟩ : ∃ f, f = p1 * p2 * q1 * q2 := ⟨_, rfl⟩
  rw [← hf] at hu hv
  -- the four pieces
  obtain ⟨E, hE⟩ : ∃ E, E = ((Y1 + X1) * (Y2 + X2)) - ((Y1 - X1) * (Y2 - X2)) := ⟨_, rfl⟩
  obtain ⟨H, hH⟩ : ∃ H, H = ((Y1 + X1) * (Y2 + X2)) + ((Y1 - X1) * (Y2 - X2)) := ⟨_, rfl⟩
  obtain ⟨F, hF⟩ : ∃ F, F = ((Z1 * (1 + 1)) * Z2) - ((T1 * (1 + 1)) * (d * T2)) := ⟨_, rfl⟩
  obtain ⟨G, hG⟩ : ∃ G, G = ((Z1 * (1 + 1)) * Z2) + ((T1 * (1 + 1)) * (d * T2)) := ⟨_, rfl⟩
  unfold padX padY padZ padT
  rw [← hE, ← hH, ← hF, ← hG]
  have kE : m * E = (1 + 1) * (p1 * q2 + p2 * q1) * (Z1 * Z2) := by
    have e1 : m * E = (1 + 1) * (m * X1 * Y2 + Y1 * (m * X2)) := by rw [hE]; clear hE hH hF hG hf hu hv hD hi x1 x2 t1 t2 y1 y2; grobner
    rw [e1, x1, x2, y1, y2]; clear e1 hE hH hF hG hf hu hv hD hi x1 x2 t1 t2 y1 y2; grobner
  have kH : H = (1 + 1) * (p2 * q2 - p1 * q1) * (Z1 * Z2) := by
    have e1 : H = (1 + 1) * (Y1 * Y2 - m * X1 * (m * X2)) := by rw [hH]; clear hE hH hF hG hf hu hv hD x1 x2 t1 t2 y1 y2 kE; grobner
    rw [e1, x1, x2, y1, y2]; clear e1 hE hH hF hG hf hu hv hD hi x1 x2 t1 t2 y1 y2 kE; grobner
  have kt : D * ((T1 * (1 + 1)) * (d * T2)) = (1 + 1) * f * (Z1 * Z2) := by
    have e1 : D * ((T1 * (1 + 1)) * (d * T2)) = (1 + 1) * (m * T1) * (m * T2) := by
      clear hE hH hF hG hf hu hv x1 x2 t1 t2 y1 y2 kE kH; grobner
    rw [e1, t1, t2, hf]; clear e1 hE hH hF hG hf hu hv hD hi x1 x2 t1 t2 y1 y2 kE kH; grobner
  have kF : D * F = (1 + 1) * (D - f) * (Z1 * Z2) := by
    have e1 : D * F = D * (Z1 * (1 + 1) * Z2) - D * ((T1 * (1 + 1)) * (d * T2)) := by rw [hF]; clear hE hH hF hG hf hu hv hD hi x1 x2 t1 t2 y1 y2 kE kH kt; grobner
    rw [e1, kt]; clear e1 hE hH hF hG hf hu hv hD hi x1 x2 t1 t2 y1 y2 kE kH kt; grobner
  have kG : D * G = (1 + 1) * (D + f) * (Z1 * Z2) := by
    have e1 : D * G = D * (Z1 * (1 + 1) * Z2) + D * ((T1 * (1 + 1)) * (d * T2)) := by rw [hG]; clear hE hH hF hG hf hu hv hD hi x1 x2 t1 t2 y1 y2 kE kH kt kF; grobner
    rw [e1, kt]; clear e1 hE hH hF hG hf hu hv hD hi x1 x2 t1 t2 y1 y2 kE kH kt kF; grobner
  have hz := ne_mul h2n (ne_mul z1 z2)
  have kFv : D * F * v = (1 + 1) * (Z1 * Z2) := by
    have e1 : (1 + 1) * (D - f) * (Z1 * Z2) * v = (1 + 1) * (Z1 * Z2) * ((D - f) * v) := by clear hE hH hF hG hf hu hv hD hi x1 x2 t1 t2 y1 y2 kE kH kt kF kG; grobner
    rw [kF, e1, hv]; clear e1 hE hH hF hG hf hu hv hD hi x1 x2 t1 t2 y1 y2 kE kH kt kF kG; grobner
  have kGu : D * G * u = (1 + 1) * (Z1 * Z2) := by
    have e1 : (1 + 1) * (D + f) * (Z1 * Z2) * u = (1 + 1) * (Z1 * Z2) * ((D + f) * u) := by clear hE hH hF hG hf hu hv hD hi x1 x2 t1 t2 y1 y2 kE kH kt kF kG kFv; grobner
    rw [kG, e1, hu]; clear e1 hE hH hF hG hf hu hv hD hi x1 x2 t1 t2 y1 y2 kE kH kt kF kG kFv; grobner
  have hFn : F ≠ 0 := fun h => hz (by rw [← kFv, h]; clear hE hH hF hG hf hu hv hD hi x1 x2 t1 t2 y1 y2 kE kH kt kF kG kFv kGu h; grobner)
  have hGn : G ≠ 0 := fun h => hz (by rw [← kGu, h]; clear hE hH hF hG hf hu hv hD hi x1 x2 t1 t2 y1 y2 kE kH kt kF kG kFv kGu h; grobner)
  clear hE hH hF hG hf hu hv hD hi x1 x2 t1 t2 y1 y2 kt kF kG
  refine ⟨ne_mul hFn hGn, ?_, ?_, ?_, by rw [← KD.out]; exact hon⟩
  · rw [← KD.out, ← Km.out, e]
    simp only []
    have e1 : m * (E * F) = m * E * F := by clear kE kH kFv kGu; grobner
    have e2 : D * (p1 * q2 + p2 * q1) * u * (F * G) = D * G * u * (p1 * q2 + p2 * q1) * F := by clear e1 kE kH kFv kGu; grobner
    rw [e1, kE, e2, kGu]
    clear e1 e2 kE kH kFv kGu; grobner
  · rw [← KD.out, e]
    simp only []
    have e2 : D * (p2 * q2 - p1 * q1) * v * (F * G) = D * F * v * (p2 * q2 - p1 * q1) * G := by clear kE kH kFv kGu; grobner
    rw [e2, kFv, kH]
    clear e2 kE kH kFv kGu; grobner
  · clear kE kH kFv kGu; grobner
def sumPX (X1 Y1 Z1 X2 Y2 Z2 d : Fp) : Fp := Z1 * Z2 * (Z1 * Z2 * (Z1 * Z2) - d * (X1 * X2 * (Y1 * Y2))) * (X1 * Y2 + Y1 * X2)
def sumPY (X1 Y1 Z1 X2 Y2 Z2 d : Fp) : Fp := Z1 * Z2 * (Z1 * Z2 * (Z1 * Z2) + d * (X1 * X2 * (Y1 * Y2))) * (Y1 * Y2 + X1 * X2)
def sumPZ (X1 Y1 Z1 X2 Y2 Z2 d : Fp) : Fp := (Z1 * Z2 * (Z1 * Z2) + d * (X1 * X2 * (Y1 * Y2))) * (Z1 * Z2 * (Z1 * Z2) - d * (X1 * X2 * (Y1 * Y2)))
theorem dsays_add (h1 : DSays X1 Y1 Z1 P) (h2 : DSays X2 Y2 Z2 Q) : DSays (sumPX X1 Y1 Z1 X2 Y2 Z2 dE) (sumPY X1 Y1 Z1 X2 Y2 Z2 dE) (sumPZ X1 Y1 Z1 X2 Y2 Z2 dE) (pad dC P Q) := by
  have hon := pad_on not_sq_dC h1.on h2.on
  obtain ⟨u, v, hu, hv, e⟩ := pad_def not_sq_dC h1.on h2.on
  have z1 := h1.z
  have z2 := h2.z
  have x1 := h1.x
  have x2 := h2.x
  have y1 := h1.y
  have y2 := h2.y
  have hD := d_D
  have hi := im_im
  have hDn := ne_zero_of not_sq_dC
  clear h1 h2
  obtain ⟨p1, p2⟩ := P
  obtain ⟨q1, q2⟩ := Q
  simp only [] at *
  obtain ⟨d, hd⟩ : ∃ d, d = dE := ⟨_, rfl⟩
  obtain ⟨D, hDD⟩ : ∃ D, D = dC := ⟨_, rfl⟩
  obtain ⟨m, hm⟩ : ∃ m, m = im := ⟨_, rfl⟩
  rw [← hd] at hD ⊢
  rw [← hDD] at hD hu hv hon e hDn
  rw [← hm] at hi x1 x2
  clear hd
  have KD := Lib.hid hDD
  have Km := Lib.hid hm
  clear hDD hm
  obtain ⟨f, hf⟩ : ∃ f, f = p1 * p2 * q1 * q2 := ⟨_, rfl⟩
  rw [← hf] at hu hv
  obtain ⟨W, hW⟩ : ∃ W, W = X1 * Y2 + Y1 * X2 := ⟨_, rfl⟩
  obtain ⟨H, hH⟩ : ∃ H, H = Y1 * Y2 + X1 * X2 := ⟨_, rfl⟩
  obtain ⟨z, hzz⟩ : ∃ z, z = Z1 * Z2 := ⟨_, rfl⟩
  obtain ⟨M, hM⟩ : ∃ M, M = Z1 * Z2 * (Z1 * Z2) + d * (X1 * X2 * (Y1 * Y2)) := ⟨_, rfl⟩
  obtain ⟨N, hN⟩ : ∃ N, N = Z1 * Z2 * (Z1 * Z2) - d * (X1 * X2 * (Y1 * Y2)) := ⟨_, rfl⟩
  unfold sumPX sumPY sumPZ
  rw [← hM, ← hN, ← hW, ← hH]
  have kW : m * W = (p1 * q2 + p2 * q1) * (Z1 * Z2) := by
    have e1 : m * W = m * X1 * Y2 + Y1 * (m * X2) := by rw [hW]; clear hW hH hM hN hf hu hv hD hi x1 x2 y1 y2 hzz; grobner
    rw [e1, x1, x2, y1, y2]; clear e1 hW hH hM hN hf hu hv hD hi x1 x2 y1 y2 hzz; grobner
  have kH : H = (p2 * q2 - p1 * q1) * (Z1 * Z2) := by
    have e1 : H = Y1 * Y2 - m * X1 * (m * X2) := by rw [hH]; clear hW hH hM hN hf hu hv hD x1 x2 y1 y2 hzz kW; grobner
    rw [e1, x1, x2, y1, y2]; clear e1 hW hH hM hN hf hu hv hD hi x1 x2 y1 y2 hzz kW; grobner
  have kt : D * (d * (X1 * X2 * (Y1 * Y2))) = f * (Z1 * Z2 * (Z1 * Z2)) := by
    have e1 : D * (d * (X1 * X2 * (Y1 * Y2))) = m * X1 * (m * X2) * (Y1 * Y2) := by clear hW hH hM hN hf hu hv x1 x2 y1 y2 hzz kW kH; grobner
    rw [e1, x1, x2, y1, y2, hf]; clear e1 hW hH hM hN hf hu hv hD hi x1 x2 y1 y2 hzz kW kH; grobner
  have kM : D * M = (D + f) * (Z1 * Z2 * (Z1 * Z2)) := by
    have e1 : D * M = D * (Z1 * Z2 * (Z1 * Z2)) + D * (d * (X1 * X2 * (Y1 * Y2))) := by rw [hM]; clear hW hH hM hN hf hu hv hD hi x1 x2 y1 y2 hzz kW kH kt; grobner
    rw [e1, kt]; clear e1 hW hH hM hN hf hu hv hD hi x1 x2 y1 y2 hzz kW kH kt; grobner
  have kN : D * N = (D - f) * (Z1 * Z2 * (Z1 * Z2)) := by
    have e1 : D * N = D * (Z1 * Z2 * (Z1 * Z2)) - D * (d * (X1 * X2 * (Y1 * Y2))) := by rw [hN]; clear hW hH hM hN hf hu hv hD hi x1 x2 y1 y2 hzz kW kH kt kM; grobner
    rw [e1, kt]; clear e1 hW hH hM hN hf hu hv hD hi x1 x2 y1 y2 hzz kW kH kt kM; grobner
  rw [← hzz] at kW kH kM kN ⊢
  have hz : z ≠ 0 := hzz ▸ ne_mul z1 z2
  have hz2 := ne_mul hz hz
  have kMu : D * M * u = z * z := by
    have e1 : (D + f) * (z * z) * u = z * z * ((D + f) * u) := by clear hW hH hM hN hf hu hv hD hi x1 x2 y1 y2 hzz kW kH kt kM kN; grobner
    rw [kM, e1, hu]; clear e1 hW hH hM hN hf hu hv hD hi x1 x2 y1 y2 hzz kW kH kt kM kN; grobner
  have kNv : D * N * v = z * z := by
    have e1 : (D - f) * (z * z) * v = z * z * ((D - f) * v) := by clear hW hH hM hN hf hu hv hD hi x1 x2 y1 y2 hzz kW kH kt kM kN kMu; grobner
    rw [kN, e1, hv]; clear e1 hW hH hM hN hf hu hv hD hi x1 x2 y1 y2 hzz kW kH kt kM kN kMu; grobner
  clear hW hH hM hN hf hu hv hD hi x1 x2 y1 y2 hzz kt kM kN
  have hMn : M ≠ 0 := fun h => hz2 (by rw [← kMu, h]; clear kW kH kMu kNv h; grobner)
  have hNn : N ≠ 0 := fun h => hz2 (by rw [← kNv, h]; clear kW kH kMu kNv h; grobner)
  refine ⟨ne_mul hMn hNn, ?_, ?_, by rw [← KD.out]; exact hon⟩
  · rw [← KD.out, ← Km.out, e]
    simp only []
    have e1 : m * (z * N * W) = m * W * z * N := by clear kW kH kMu kNv; grobner
    have e2 : D * (p1 * q2 + p2 * q1) * u * (M * N) = D * M * u * (p1 * q2 + p2 * q1) * N := by clear e1 kW kH kMu kNv; grobner
    rw [e1, kW, e2, kMu]
    clear e1 e2 kW kH kMu kNv; grobner
  · rw [← KD.out, e]
    simp only []
    have e2 : D * (p2 * q2 - p1 * q1) * v * (M * N) = D * N * v * (p2 * q2 - p1 * q1) * M := by clear kW kH kMu kNv; grobner
    rw [e2, kNv, kH]
    clear e2 kW kH kMu kNv; grobner
theorem csays_neg (h : CSays X Y Z T P) : CSays (-X) Y Z (-T) (pn P) := by
  refine ⟨h.z, ?_, h.y, ?_, on_pn h.on⟩
  · have := h.x
    show im * -X = -P.1 * Z
    obtain ⟨m, hm⟩ : ∃ m, m = im := ⟨_, rfl⟩
    rw [← hm] at this ⊢
    grobner
  · have := h.t
    grobner
theorem dsays_neg (h : DSays X Y Z P) : DSays (-X) Y Z (pn P) := by
  refine ⟨h.z, ?_, h.y, on_pn h.on⟩
  have := h.x
  show im * -X = -P.1 * Z
  obtain ⟨m, hm⟩ : ∃ m, m = im := ⟨_, rfl⟩
  rw [← hm] at this ⊢
  grobner
/-- The bytes of x and y. -/
def encB (x y : Fp) : List Int := (bytesF y).set 31 (el (bytesF y) 31 + 128 * ((x.val : Int) % 2))
def encP (P : Pt) : List Int := encB (-(im * P.1)) P.2
theorem quotX (hz : Z ≠ 0) (hx : im * X = P.1 * Z) : X * inv Z = -(im * P.1) := by
  have h := im_im
  have hi := mul_inv hz
  obtain ⟨m, hm⟩ : ∃ m, m = im := ⟨_, rfl⟩
  obtain ⟨i, hii⟩ : ∃ i, i = inv Z := ⟨_, rfl⟩
  rw [← hm] at h hx ⊢
  rw [← hii] at hi ⊢
  have e : X * i = -(m * (m * X) * i) := by clear hx hi hm hii; grobner
  rw [e, hx]
  have e2 : -(m * (P.1 * Z) * i) = -(m * P.1) * (Z * i) := by clear e hx hi hm hii h; grobner
  rw [e2, hi]
  clear e e2 hx hi hm hii h
  grobner
theorem quotY (hz : Z ≠ 0) (hy : Y = P.2 * Z) : Y * inv Z = P.2 := by
  have hi := mul_inv hz
  obtain ⟨i, hii⟩ : ∃ i, i = inv Z := ⟨_, rfl⟩
  rw [← hii] at hi ⊢
  rw [hy]
  have e : P.2 * Z * i = P.2 * (Z * i) := by clear hi hii; grobner
  rw [e, hi]
  clear e hi hii
  grobner
theorem CSays.enc (h : CSays X Y Z T P) : encB (X * inv Z) (Y * inv Z) = encP P := by rw [quotX h.z h.x, quotY h.z h.y, encP]
theorem DSays.enc (h : DSays X Y Z P) : encB (X * inv Z) (Y * inv Z) = encP P := by rw [quotX h.z h.x, quotY h.z h.y, encP]
end
/-- The number of 32 bytes. -/
def numB (S : List Int) : Nat := (le S).toNat
theorem el_le : ∀ (l : List Int) (i : Nat), Byt l → el l i = le l / 256 ^ i % 256
  | [], i, _ => by rw [le, Int.zero_ediv]; rfl
  | a :: l, 0, h => by
    have := h a (List.mem_cons_self ..)
    rw [el_zero, le, Int.pow_zero, Int.ediv_one]; omega
  | a :: l, i + 1, h => by
    have ha := h a (List.mem_cons_self ..)
    rw [el_succ, el_le l i (fun y hy => h y (List.mem_cons_of_mem _ hy)), le, Int.pow_succ, Int.mul_comm (256 ^ i) 256, ← Int.ediv_ediv_of_nonneg (by omega)]
    congr 2
    omega
theorem le_nonneg : ∀ (l : List Int), Byt l → 0 ≤ le l
  | [], _ => by rw [le]; omega
  | a :: l, h => by
    have ha := h a (List.mem_cons_self ..)
    have := le_nonneg l (fun y hy => h y (List.mem_cons_of_mem _ hy))
    rw [le]; omega
theorem numB_lt {S : List Int} (hS : S.length = 32) (h : Byt S) : numB S < 2 ^ 256 := by
  have := le_lt S h
  rw [hS] at this
  have h0 := le_nonneg S h
  unfold numB
  have e : (256 : Int) ^ 32 = 2 ^ 256 := by decide
  rw [e] at this
  omega
theorem kbit_num {S : List Int} (h : Byt S) (i : Nat) : kbit S i = decide (numB S / 2 ^ i % 2 = 1) := by
  have h0 := le_nonneg S h
  obtain ⟨n, hn⟩ : ∃ n : Nat, le S = n := ⟨(le S).toNat, by omega⟩
  have e : el S (i / 8) = ((n / 256 ^ (i / 8) % 256 : Nat) : Int) := by
    rw [el_le S _ h, hn, Int.natCast_emod, Int.natCast_ediv, Int.natCast_pow]
    rfl
  unfold kbit numB
  rw [e, hn]
  have hp : (2 : Int) ^ (i % 8) = ((2 ^ (i % 8) : Nat) : Int) := by rw [Int.natCast_pow]; rfl
  rw [hp, Int.toNat_natCast, ← Int.natCast_ediv]
  have key : n / 256 ^ (i / 8) % 256 / 2 ^ (i % 8) % 2 = n / 2 ^ i % 2 := by
    have e1 : (256 : Nat) ^ (i / 8) = 2 ^ (8 * (i / 8)) := by rw [Nat.pow_mul]
    rw [e1]
    have e2 : n / 2 ^ i = n / 2 ^ (8 * (i / 8)) / 2 ^ (i % 8) := by
      rw [Nat.div_div_eq_div_mul, ← Nat.pow_add]
      congr 2; omega
    rw [e2]
    obtain ⟨q, hq⟩ : ∃ q, q = n / 2 ^ (8 * (i / 8)) := ⟨_, rfl⟩
    rw [← hq]
    have h8 : i % 8 < 8 := Nat.mod_lt _ (by omega)
    obtain ⟨r, hr⟩ : ∃ r, r = i % 8 := ⟨_, rfl⟩
    rw [← hr] at h8 ⊢
    have : r = 0 ∨ r = 1 ∨ r = 2 ∨ r = 3 ∨ r = 4 ∨ r = 5 ∨ r = 6 ∨ r = 7 := by omega
    rcases this with rfl | rfl | rfl | rfl | rfl | rfl | rfl | rfl <;> omega
  rw [decide_eq_decide, ← key]
  omega
theorem half_num (n i : Nat) : n / 2 ^ i = 2 * (n / 2 ^ (i + 1)) + n / 2 ^ i % 2 := by
  rw [Nat.pow_succ, ← Nat.div_div_eq_div_mul]; omega
theorem low_num (n i : Nat) : n % 2 ^ (i + 1) = n % 2 ^ i + 2 ^ i * (n / 2 ^ i % 2) := Nat.mod_pow_succ
/-- One more bit from the top. -/
theorem mul_top {P : Pt} (hP : On dC P) (n i : Nat) : mulP dC (n / 2 ^ i) P = if n / 2 ^ i % 2 = 1 then pad dC (pad dC (mulP dC (n / 2 ^ (i + 1)) P) (mulP dC (n / 2 ^ (i + 1)) P)) P else pad dC (mulP dC (n / 2 ^ (i + 1)) P) (mulP dC (n / 2 ^ (i + 1)) P) := by
  have h := half_num n i
  rw [← mulP_add not_sq_dC hP]
  split
  · rename_i h1
    rw [show n / 2 ^ i = (n / 2 ^ (i + 1) + n / 2 ^ (i + 1)) + 1 from by omega, mulP]
  · rename_i h1
    rw [show n / 2 ^ i = (n / 2 ^ (i + 1) + n / 2 ^ (i + 1)) from by omega]
/-- One more bit from below. -/
theorem mul_low {P : Pt} (hP : On dC P) (n i : Nat) : mulP dC (n % 2 ^ (i + 1)) P = if n / 2 ^ i % 2 = 1 then pad dC (mulP dC (n % 2 ^ i) P) (mulP dC (2 ^ i) P) else mulP dC (n % 2 ^ i) P := by
  have h := low_num n i
  split
  · rename_i h1
    rw [h, h1, Nat.mul_one, mulP_add not_sq_dC hP]
  · rename_i h1
    rw [h, show n / 2 ^ i % 2 = 0 from by omega, Nat.mul_zero, Nat.add_zero]
theorem mul_twice {P : Pt} (hP : On dC P) (i : Nat) : mulP dC (2 ^ (i + 1)) P = pad dC (mulP dC (2 ^ i) P) (mulP dC (2 ^ i) P) := by
  rw [← mulP_add not_sq_dC hP, Nat.pow_succ]; congr 1; omega
end Go.Proofs.Ytakhmmnklkckpaa
namespace Go.Proofs.Ytakhmmnklkckpaa
open Go.RowKit
/-- The bytes without their topmost bit; that bit. -/
def lowB (b : List Int) : List Int := b.set 31 (el b 31 % 128)
def oddB (b : List Int) : Bool := decide (128 ≤ el b 31)
def decXX (y : Fp) : Fp := (y * y - 1) * inv (dE * (y * y) + 1)
def decY (b : List Int) : Fp := fromB (lowB b)
def decR (b : List Int) : Fp := rootF (decXX (decY b))
def decOk (b : List Int) : Bool := decide (bytesF (decY b) = lowB b) && (rootOk (decXX (decY b)) && !(oddB b && decide (decR b = 0)))
def decX (b : List Int) : Fp := if oddB b then -decR b else decR b
def decP (b : List Int) : Pt := (im * decX b, decY b)
theorem rootF_sq {x : Fp} (h : rootOk x = true) : rootF x * rootF x = x := by
  have h1 : rCand x * rCand x = x := of_decide_eq_true h
  rw [rootF, if_pos h, evenOf]
  split
  · obtain ⟨r, hr⟩ : ∃ r, r = rCand x := ⟨_, rfl⟩
    rw [← hr] at h1 ⊢
    clear hr
    grobner
  · exact h1
theorem evenOf_even (x : Fp) : (evenOf x).val % 2 = 0 := by
  by_cases h : x = 0
  · subst h; decide
  · have h1 := val_neg_ne h
    unfold evenOf oddF
    by_cases h2 : x.val % 2 = 1
    · rw [decide_eq_true h2, if_pos rfl]; unfold pN at h1; omega
    · rw [decide_eq_false h2, if_neg Bool.false_ne_true]; omega
theorem rootF_even2 (x : Fp) : (rootF x).val % 2 = 0 := by
  unfold rootF
  split
  · exact evenOf_even _
  · rfl
theorem den_ne (y : Fp) : dE * (y * y) + 1 ≠ 0 := fun h => not_sq_dC ⟨y, by
  have h1 := d_D
  have h2 := mul_inv dE_ne
  unfold dC at h1 ⊢
  obtain ⟨i, hi⟩ : ∃ i, i = inv dE := ⟨_, rfl⟩
  rw [← hi] at h1 h2 ⊢
  obtain ⟨d, hd⟩ : ∃ d, d = dE := ⟨_, rfl⟩
  rw [← hd] at h h1 h2
  clear hi hd h1
  have e : y * y = d * i * (y * y) := by rw [h2]; clear h h2; grobner
  rw [e]
  have e2 : d * i * (y * y) = i * (d * (y * y) + 1) - i := by clear h h2 e; grobner
  rw [e2, h]
  clear h h2 e e2
  grobner⟩
theorem on_dec {x y : Fp} (h : x * x = decXX y) : On dC (im * x, y) := by
  have h1 := mul_inv (den_ne y)
  have h2 := d_D
  have h3 := im_im
  unfold decXX at h
  show OnC dC (im * x) y
  unfold OnC
  obtain ⟨i, hi⟩ : ∃ i, i = inv (dE * (y * y) + 1) := ⟨_, rfl⟩
  rw [← hi] at h h1
  obtain ⟨d, hd⟩ : ∃ d, d = dE := ⟨_, rfl⟩
  rw [← hd] at h1 h2
  obtain ⟨D, hD⟩ : ∃ D, D = dC := ⟨_, rfl⟩
  rw [← hD] at h2 ⊢
  obtain ⟨m, hm⟩ : ∃ m, m = im := ⟨_, rfl⟩
  rw [← hm] at h3 ⊢
  clear hi hd hD hm
  have e1 : x * x * (d * (y * y) + 1) = y * y - 1 := by
    rw [h]
    have e : (y * y - 1) * i * (d * (y * y) + 1) = (y * y - 1) * ((d * (y * y) + 1) * i) := by clear h h1 h2 h3; grobner
    rw [e, h1]
    clear e h h1 h2 h3
    grobner
  have e2 : m * x * (m * x) = -(x * x) := by clear e1 h h1 h2; grobner
  rw [e2]
  clear e2 h h1 h3
  obtain ⟨v, hv⟩ : ∃ v, v = x * x := ⟨_, rfl⟩
  rw [← hv] at e1 ⊢
  clear hv
  grobner
theorem decOk_iff {b : List Int} : decOk b = true ↔ bytesF (decY b) = lowB b ∧ rootOk (decXX (decY b)) = true ∧ (oddB b = true → decR b ≠ 0) := by
  unfold decOk
  rw [Bool.and_eq_true, Bool.and_eq_true, decide_eq_true_eq, Bool.not_eq_true', Bool.and_eq_false_iff, decide_eq_false_iff_not]
  constructor
  · rintro ⟨h1, h2, h3⟩
    exact ⟨h1, h2, fun h => h3.resolve_left (by rw [h]; decide)⟩
  · rintro ⟨h1, h2, h3⟩
    refine ⟨h1, h2, ?_⟩
    cases ho : oddB b
    · exact .inl rfl
    · exact .inr (h3 ho)
theorem decX_sq {b : List Int} (h : rootOk (decXX (decY b)) = true) : decX b * decX b = decXX (decY b) := by
  have h1 := rootF_sq h
  unfold decX
  have h2 : decR b = rootF (decXX (decY b)) := rfl
  rw [← h2] at h1
  split
  · obtain ⟨r, hr⟩ : ∃ r, r = decR b := ⟨_, rfl⟩
    rw [← hr] at h1 ⊢
    rw [← h1]
    clear hr h1 h2
    grobner
  · exact h1
theorem csays_dec {b : List Int} (h : rootOk (decXX (decY b)) = true) : CSays (decX b) (decY b) 1 (decX b * decY b) (decP b) :=
  ⟨fun e => zero_ne_one e.symm, by show im * decX b = im * decX b * 1; grobner, by show decY b = decY b * 1; grobner, by grobner, on_dec (decX_sq h)⟩
theorem dsays_dec {b : List Int} (h : rootOk (decXX (decY b)) = true) : DSays (decX b) (decY b) 1 (decP b) :=
  ⟨fun e => zero_ne_one e.symm, by show im * decX b = im * decX b * 1; grobner, by show decY b = decY b * 1; grobner, on_dec (decX_sq h)⟩
theorem encP_im (x y : Fp) : encP (im * x, y) = encB x y := by
  unfold encP
  simp only []
  have h := im_im
  rw [show -(im * (im * x)) = x from by
    obtain ⟨m, hm⟩ : ∃ m, m = im := ⟨_, rfl⟩
    rw [← hm] at h ⊢
    clear hm
    grobner]
/-- Its bytes are those. -/
theorem enc_dec {b : List Int} (hl : b.length = 32) (hb : Byt b) (h : decOk b = true) : encP (decP b) = b := by
  obtain ⟨h1, h2, h3⟩ := decOk_iff.1 h
  unfold decP
  rw [encP_im, encB, h1]
  have hr := rootF_even2 (decXX (decY b))
  have hd : decR b = rootF (decXX (decY b)) := rfl
  rw [← hd] at hr
  have h31 := byt_el hb 31
  have hx : ((decX b).val : Int) % 2 = el b 31 / 128 := by
    unfold decX
    by_cases ho : 128 ≤ el b 31
    · have hob : oddB b = true := decide_eq_true ho
      rw [hob, if_pos rfl]
      have := val_neg_ne (h3 hob)
      unfold pN at this
      omega
    · have hob : oddB b = false := decide_eq_false ho
      rw [hob, if_neg Bool.false_ne_true]
      omega
  rw [hx]
  unfold lowB
  rw [el_set_same _ _ _ (by omega), List.set_set]
  have e : el b 31 % 128 + 128 * (el b 31 / 128) = el b 31 := by omega
  rw [e]
  exact el_ext (by simp) fun k hk => by
    rw [el_set _ _ _ _ (by omega)]
    split
    · rename_i hh; rw [hh]
    · rfl
/-- The base's bytes, the base. -/
def bsB : List Int := [88, 102, 102, 102, 102, 102, 102, 102, 102, 102, 102, 102, 102, 102, 102, 102, 102, 102, 102, 102, 102, 102, 102, 102, 102, 102, 102, 102, 102, 102, 102, 102]
theorem byt_bsB : Byt bsB := fun y hy => by
  simp only [bsB, List.mem_cons, List.not_mem_nil, or_false] at hy
  omega
def bsX : Fp := toFp 15112221349535400772501151409588531511454012693041857206046113283949847762202
def bsY : Fp := toFp 46316835694926478169428394003475163141307993866256225615783033603165251855960
theorem bs_low : lowB bsB = bsB := by kernel_rfl
theorem bs_y : decY bsB = bsY := by kernel_rfl
theorem bs_bytes : bytesF bsY = bsB := by kernel_rfl
theorem bs_den : (dE * (bsY * bsY) + 1) * toFp 36615873626505047815401509688526422966742341385236691817538452001808239043262 = 1 := by kernel_rfl
theorem bs_sq : (bsY * bsY - 1) * toFp 36615873626505047815401509688526422966742341385236691817538452001808239043262 = bsX * bsX := by kernel_rfl
theorem bs_even : oddF bsX = false := by kernel_rfl
theorem bs_xx : decXX bsY = bsX * bsX := by rw [decXX, inv_of bs_den, bs_sq]
theorem bs_root : rootOk (decXX bsY) = true ∧ rootF (decXX bsY) = bsX := by
  rw [bs_xx]
  refine ⟨(root_sq bsX).1, ?_⟩
  rw [(root_sq bsX).2, evenOf, bs_even, if_neg Bool.false_ne_true]
theorem bs_odd : oddB bsB = false := by kernel_rfl
theorem bs_ok : decOk bsB = true := decOk_iff.2 ⟨by rw [bs_y, bs_low, bs_bytes], by rw [bs_y]; exact bs_root.1, fun h => by rw [bs_odd] at h; cases h⟩
theorem bs_decX : decX bsB = bsX := by
  rw [decX, bs_odd, if_neg Bool.false_ne_true, decR, bs_y, bs_root.2]
def bsP : Pt := decP bsB
theorem on_bsP : On dC bsP := on_dec (decX_sq (decOk_iff.1 bs_ok).2.1)
theorem z1_bytes : bytesF 1 = b1 1 := by kernel_rfl
theorem enc01 : encB 0 1 = b1 1 := by
  unfold encB
  rw [z1_bytes]
  rfl
theorem im0 (m : Fp) : -(m * 0) = 0 := by grobner
theorem encP_mk (x y : Fp) : encP (x, y) = encB (-(im * x)) y := rfl
theorem encP_01 : encP (0, 1) = encB (-(im * 0)) 1 := encP_mk 0 1
theorem encB_im0 : encB (-(im * 0)) 1 = encB 0 1 := congrArg (fun z => encB z 1) (im0 im)
theorem encP_pz : encP pz = encP (0, 1) := rfl
/-- The zero point's bytes. -/
theorem enc_pz : encP pz = b1 1 := encP_pz.trans (encP_01.trans (encB_im0.trans enc01))
theorem z1_y : decY (b1 1) = 1 := by kernel_rfl
theorem z1_low : lowB (b1 1) = b1 1 := by kernel_rfl
theorem z1_xx : decXX 1 = 0 * 0 := by
  unfold decXX
  obtain ⟨i, hi⟩ : ∃ i, i = inv (dE * (1 * 1) + 1) := ⟨_, rfl⟩
  rw [← hi]
  clear hi
  grobner
theorem z1_odd : oddB (b1 1) = false := by kernel_rfl
theorem z1_ok : decOk (b1 1) = true := decOk_iff.2 ⟨by rw [z1_y, z1_low, z1_bytes], by rw [z1_y, z1_xx]; exact (root_sq 0).1, fun h => by rw [z1_odd] at h; cases h⟩
/-- What Decode gives, told by its steps: none, or the point. -/
def lowC (b : List Int) : List Int := b.set 31 (bits BinOp.and IntKind.u8 (el b 31) 127)
theorem lowC_eq {b : List Int} (hb : Byt b) : lowC b = lowB b := by rw [lowC, lowB, and127 (byt_el hb 31)]
def BadV (b C : List Int) (y r : Fp) (ro : Bool) : Prop := ¬ bytesF y = C ∨ bytesF y = C ∧ ro = false ∨ bytesF y = C ∧ ro = true ∧ el b 31 / 128 = 1 ∧ bytesF r = b1 0
def GoodV (b C : List Int) (y r : Fp) (ro : Bool) (X : Fp) : Prop := bytesF y = C ∧ ro = true ∧ (el b 31 / 128 = 0 ∧ X = r ∨ el b 31 / 128 = 1 ∧ ¬ bytesF r = b1 0 ∧ X = -r)
def DecV (b C : List Int) (y r : Fp) (ro : Bool) (v : Value) (ok : Bool) : Prop :=
  (BadV b C y r ro ∧ ok = false ∧ v = .agg (ptC (zs 5) (zs 5) (zs 5) (zs 5) false)) ∨
  ∃ X, GoodV b C y r ro X ∧ ok = true ∧ ∃ k l m n, v = .agg (ptC k l m n true) ∧ Is k X ∧ Is l y ∧ Is m 1 ∧ Is n (X * y)
theorem odd_iff {b : List Int} (hb : Byt b) : oddB b = true ↔ el b 31 / 128 = 1 := by
  have := byt_el hb 31
  rw [oddB, decide_eq_true_eq]; omega
theorem bytes_zero {r : Fp} : bytesF r = b1 0 ↔ r = 0 := by
  rw [← bytesF_0]; exact bytesF_inj
theorem bad_dec {b : List Int} (hb : Byt b) (h : BadV b (lowB b) (decY b) (decR b) (rootOk (decXX (decY b)))) : decOk b = false := by
  cases hq : decOk b
  · rfl
  · obtain ⟨h1, h2, h3⟩ := decOk_iff.1 hq
    rcases h with h | ⟨_, h⟩ | ⟨_, _, h4, h5⟩
    · exact (h h1).elim
    · rw [h2] at h; cases h
    · exact (h3 ((odd_iff hb).2 h4) (bytes_zero.1 h5)).elim
theorem good_dec {b : List Int} (hb : Byt b) {X : Fp} (h : GoodV b (lowB b) (decY b) (decR b) (rootOk (decXX (decY b))) X) : decOk b = true ∧ X = decX b := by
  obtain ⟨h1, h2, h⟩ := h
  rcases h with ⟨h3, h4⟩ | ⟨h3, h4, h5⟩
  · have ho : oddB b = false := by
      cases hq : oddB b
      · rfl
      · have := (odd_iff hb).1 hq; omega
    exact ⟨decOk_iff.2 ⟨h1, h2, fun e => by rw [ho] at e; cases e⟩, by rw [h4, decX, ho, if_neg Bool.false_ne_true]⟩
  · have ho := (odd_iff hb).2 h3
    exact ⟨decOk_iff.2 ⟨h1, h2, fun _ e => h4 (bytes_zero.2 e)⟩, by rw [h5, decX, ho, if_pos rfl]⟩
/-- What Decode gives: the point, or the zero point. -/
def decPt (b : List Int) : Pt := if decOk b then decP b else pz
end Go.Proofs.Ytakhmmnklkckpaa
namespace Go.Proofs.Ytakhmmnklkckpaa
open Go.RowKit
def dN : Nat := 37095705934669439343138083508754565189542113879843219016388785533085940283555
/-- The sum's numbers go on to f. -/
def padN (X1 Y1 Z1 T1 X2 Y2 Z2 T2 : Nat) (f : Nat → Nat → Nat → Nat → Bool) : Bool :=
  force (mulN (subN Y1 X1) (subN Y2 X2)) fun a => force (mulN (addN Y1 X1) (addN Y2 X2)) fun b => force (mulN (mulN T1 2) (mulN dN T2)) fun c => force (mulN (mulN Z1 2) Z2) fun d =>
    force (subN b a) fun e => force (subN d c) fun k => force (addN d c) fun g => force (addN b a) fun h =>
      force (mulN e k) fun x => force (mulN g h) fun y => force (mulN k g) fun z => force (mulN e h) fun t => f x y z t
theorem two_val : (toFp 2).val = 2 := by kernel_rfl
theorem dE_valN : dE.val = dN := by kernel_rfl
theorem padN_val (X1 Y1 Z1 T1 X2 Y2 Z2 T2 : Fp) (f : Nat → Nat → Nat → Nat → Bool) :
    padN X1.val Y1.val Z1.val T1.val X2.val Y2.val Z2.val T2.val f = f (padX (toFp 2) dE X1 Y1 Z1 T1 X2 Y2 Z2 T2).val (padY (toFp 2) dE X1 Y1 Z1 T1 X2 Y2 Z2 T2).val (padZ (toFp 2) dE Z1 T1 Z2 T2).val (padT X1 Y1 X2 Y2).val := by
  unfold padN padX padY padZ padT
  simp only [force_eq, mulN_val, addN_val, subN_val, two_val, dE_valN]
/-- The multiple's numbers, by k bits from the top, go on to f. -/
def runC (n x0 y0 z0 t0 : Nat) (f : Nat → Nat → Nat → Nat → Bool) : Nat → Nat → Nat → Nat → Nat → Bool
  | 0, x, y, z, t => f x y z t
  | k + 1, x, y, z, t => padN x y z t x y z t fun x y z t => cond (Nat.beq (n / 2 ^ k % 2) 1) (padN x y z t x0 y0 z0 t0 (runC n x0 y0 z0 t0 f k)) (runC n x0 y0 z0 t0 f k x y z t)
theorem runC_says {P : Pt} {X0 Y0 Z0 T0 : Fp} (h0 : CSays X0 Y0 Z0 T0 P) (n : Nat) (f : Nat → Nat → Nat → Nat → Bool) : ∀ (k : Nat) (X Y Z T : Fp), CSays X Y Z T (mulP dC (n / 2 ^ k) P) →
    ∃ X' Y' Z' T', CSays X' Y' Z' T' (mulP dC n P) ∧ runC n X0.val Y0.val Z0.val T0.val f k X.val Y.val Z.val T.val = f X'.val Y'.val Z'.val T'.val
  | 0, X, Y, Z, T, h => ⟨X, Y, Z, T, by rwa [Nat.pow_zero, Nat.div_one] at h, rfl⟩
  | k + 1, X, Y, Z, T, h => by
    have h2 := csays_add h h
    have hm := mul_top h0.on n k
    rw [runC, padN_val]
    by_cases hb : n / 2 ^ k % 2 = 1
    · rw [if_pos hb] at hm
      rw [show Nat.beq (n / 2 ^ k % 2) 1 = true from by rw [hb]; rfl]
      simp only [cond_true]
      have h3 := csays_add h2 h0
      rw [← hm] at h3
      rw [padN_val]
      exact runC_says h0 n f k _ _ _ _ h3
    · rw [if_neg hb] at hm
      rw [← hm] at h2
      rw [show Nat.beq (n / 2 ^ k % 2) 1 = false from by
        cases hq : Nat.beq (n / 2 ^ k % 2) 1
        · rfl
        · exact (hb (Nat.eq_of_beq_eq_true hq)).elim]
      simp only [cond_false]
      exact runC_says h0 n f k _ _ _ _ h2
/-- The order of the base. -/
def ordL : Nat := 7237005577332262213973186563042994240857116359379907606001950938285454250989
def bsTN : Nat := 46827403850823179245072216630277197565144205554125654976674165829533817101731
theorem bs_t : decX bsB * decY bsB = toFp (bsTN : Int) := by rw [bs_decX, bs_y]; kernel_rfl
theorem csays_bs : CSays bsX bsY 1 (toFp (bsTN : Int)) bsP := by
  have h := csays_dec (decOk_iff.1 bs_ok).2.1
  rw [bs_t, bs_decX, bs_y] at h
  exact h
theorem val_of (n : Nat) (h : n < pQ) : (toFp (n : Int)).val = n := by
  have := val_toFp (n : Int)
  unfold prI at this; unfold pQ at h
  omega
theorem bsX_val : bsX.val = 15112221349535400772501151409588531511454012693041857206046113283949847762202 := by kernel_rfl
theorem bsY_val : bsY.val = 46316835694926478169428394003475163141307993866256225615783033603165251855960 := by kernel_rfl
/-- So many times the base, reckoned, from 256 bits on. -/
theorem bs_reckoned (n k : Nat) (hn : n < 2 ^ k) (f : Nat → Nat → Nat → Nat → Bool)
    (h : runC n 15112221349535400772501151409588531511454012693041857206046113283949847762202 46316835694926478169428394003475163141307993866256225615783033603165251855960 1 bsTN f k 0 1 1 0 = true) :
    ∃ X Y Z T, CSays X Y Z T (mulP dC n bsP) ∧ f X.val Y.val Z.val T.val = true := by
  obtain ⟨X, Y, Z, T, h1, h2⟩ := runC_says csays_bs n f k 0 1 1 0 (by rw [Nat.div_eq_of_lt hn, mulP]; exact csays_zero)
  refine ⟨X, Y, Z, T, h1, ?_⟩
  rw [bsX_val, bsY_val, show (1 : Fp).val = 1 from rfl, show (0 : Fp).val = 0 from rfl, val_of _ (by decide), h] at h2
  exact h2.symm
theorem ord_bs : mulP dC ordL bsP = pz := by
  obtain ⟨X, Y, Z, T, h, hf⟩ := bs_reckoned ordL 253 (by decide) (fun x y z _ => Nat.beq x 0 && Nat.beq y z) (by kernel_rfl)
  rw [Bool.and_eq_true] at hf
  have hx : X = 0 := Fin.ext (Nat.eq_of_beq_eq_true hf.1)
  have hy : Y = Z := Fin.ext (Nat.eq_of_beq_eq_true hf.2)
  obtain ⟨P, hP⟩ : ∃ P, P = mulP dC ordL bsP := ⟨_, rfl⟩
  rw [← hP] at h ⊢
  have e1 := h.x
  have e2 := h.y
  have hz := h.z
  rw [hx] at e1
  rw [hy] at e2
  clear hP h hf
  have p1 : P.1 = 0 := eq_of_mul hz (by
    rw [← e1]
    obtain ⟨m, hm⟩ : ∃ m, m = im := ⟨_, rfl⟩
    rw [← hm]
    clear hm e1 e2
    grobner)
  have p2 : P.2 = 1 := eq_of_mul hz (by rw [← e2]; clear e1 e2; grobner)
  exact Prod.ext p1 p2
end Go.Proofs.Ytakhmmnklkckpaa
