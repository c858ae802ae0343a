/- What a device knows of itself: New, Public. -/
import Derived.Test.YtbhnfohoclcjdaaKeC
set_option linter.unusedVariables false
set_option linter.unusedSimpArgs false
namespace Go
open Go.Dr
/-! ### Account: 99 cells -/
def cAccount (agree : List Int) (sign : List Int) (fid : Value) (fsec : List Int) (left : Value) (next : Value) : List Value := agree.map (Value.int .u8) ++ (sign.map (Value.int .u8) ++ ([fid] ++ (fsec.map (Value.int .u8) ++ ([left] ++ ([next])))))
theorem cAccount_length (agree : List Int) (sign : List Int) (fid : Value) (fsec : List Int) (left : Value) (next : Value) (hagree : agree.length = 32) (hsign : sign.length = 32) (hfsec : fsec.length = 32) : (cAccount agree sign fid fsec left next).length = 99 := by simp [cAccount, hagree, hsign, hfsec]
theorem cAccount_one (agree : List Int) (sign : List Int) (fid : Value) (fsec : List Int) (left : Value) (next : Value) (ofid : fid.oneCell' = true) (oleft : left.oneCell' = true) (onext : next.oneCell' = true) : ∀ u ∈ (cAccount agree sign fid fsec left next), u.oneCell' = true := by
  intro u hu
  simp only [cAccount, List.mem_append, List.mem_singleton, List.mem_map] at hu
  rcases hu with ⟨_, _, rfl⟩ | ⟨_, _, rfl⟩ | rfl | ⟨_, _, rfl⟩ | rfl | rfl
  · rfl
  · rfl
  · exact ofid
  · rfl
  · exact oleft
  · exact onext
theorem cAccount_ext_agree (agree : List Int) (sign : List Int) (fid : Value) (fsec : List Int) (left : Value) (next : Value) (hagree : agree.length = 32) (hsign : sign.length = 32) (hfsec : fsec.length = 32) : (cAccount agree sign fid fsec left next).toArray.extract 0 32 = (agree.map (Value.int .u8)).toArray := by
  rw [show (cAccount agree sign fid fsec left next) = ([]) ++ (agree.map (Value.int .u8) ++ (sign.map (Value.int .u8) ++ ([fid] ++ (fsec.map (Value.int .u8) ++ ([left] ++ ([next])))))) by simp [cAccount]]
  exact seg_ext (by simp [hagree, hsign, hfsec]) (by simp [hagree, hsign, hfsec])
theorem cAccount_spl_agree (agree : List Int) (sign : List Int) (fid : Value) (fsec : List Int) (left : Value) (next : Value) (z : List Int) (hagree : agree.length = 32) (hsign : sign.length = 32) (hfsec : fsec.length = 32) (hz : z.length = 32) : spl (cAccount agree sign fid fsec left next).toArray 0 (z.map (Value.int .u8)) = (cAccount z sign fid fsec left next).toArray := by
  rw [show (cAccount agree sign fid fsec left next) = ([]) ++ (agree.map (Value.int .u8) ++ (sign.map (Value.int .u8) ++ ([fid] ++ (fsec.map (Value.int .u8) ++ ([left] ++ ([next])))))) by simp [cAccount]]
  rw [show (cAccount z sign fid fsec left next) = ([]) ++ (z.map (Value.int .u8) ++ (sign.map (Value.int .u8) ++ ([fid] ++ (fsec.map (Value.int .u8) ++ ([left] ++ ([next])))))) by simp [cAccount]]
  exact seg_spl (by simp [hagree, hsign, hfsec]) (by simp [hagree, hz])
theorem cAccount_el_agree (agree : List Int) (sign : List Int) (fid : Value) (fsec : List Int) (left : Value) (next : Value) (hagree : agree.length = 32) (hsign : sign.length = 32) (hfsec : fsec.length = 32) {j : Nat} (hj : j < 32) : (cAccount agree sign fid fsec left next).toArray[0 + j]? = some (.int .u8 (el agree j)) := by
  rw [show (cAccount agree sign fid fsec left next) = ([]) ++ (agree.map (Value.int .u8) ++ (sign.map (Value.int .u8) ++ ([fid] ++ (fsec.map (Value.int .u8) ++ ([left] ++ ([next])))))) by simp [cAccount]]
  exact seg_el (by simp [hagree, hsign, hfsec]) (by rw [hagree]; exact hj)
theorem cAccount_put_agree (agree : List Int) (sign : List Int) (fid : Value) (fsec : List Int) (left : Value) (next : Value) (hagree : agree.length = 32) (hsign : sign.length = 32) (hfsec : fsec.length = 32) {j : Nat} (hj : j < 32) (z : Int) : (cAccount agree sign fid fsec left next).toArray.setIfInBounds (0 + j) (.int .u8 z) = (cAccount (agree.set j z) sign fid fsec left next).toArray := by
  rw [show (cAccount agree sign fid fsec left next) = ([]) ++ (agree.map (Value.int .u8) ++ (sign.map (Value.int .u8) ++ ([fid] ++ (fsec.map (Value.int .u8) ++ ([left] ++ ([next])))))) by simp [cAccount]]
  rw [show (cAccount (agree.set j z) sign fid fsec left next) = ([]) ++ ((agree.set j z).map (Value.int .u8) ++ (sign.map (Value.int .u8) ++ ([fid] ++ (fsec.map (Value.int .u8) ++ ([left] ++ ([next])))))) by simp [cAccount]]
  exact seg_put (by simp [hagree, hsign, hfsec]) (by rw [hagree]; exact hj)
theorem cAccount_ext_sign (agree : List Int) (sign : List Int) (fid : Value) (fsec : List Int) (left : Value) (next : Value) (hagree : agree.length = 32) (hsign : sign.length = 32) (hfsec : fsec.length = 32) : (cAccount agree sign fid fsec left next).toArray.extract 32 64 = (sign.map (Value.int .u8)).toArray := by
  rw [show (cAccount agree sign fid fsec left next) = (agree.map (Value.int .u8)) ++ (sign.map (Value.int .u8) ++ ([fid] ++ (fsec.map (Value.int .u8) ++ ([left] ++ ([next]))))) by simp [cAccount]]
  exact seg_ext (by simp [hagree, hsign, hfsec]) (by simp [hagree, hsign, hfsec])
theorem cAccount_spl_sign (agree : List Int) (sign : List Int) (fid : Value) (fsec : List Int) (left : Value) (next : Value) (z : List Int) (hagree : agree.length = 32) (hsign : sign.length = 32) (hfsec : fsec.length = 32) (hz : z.length = 32) : spl (cAccount agree sign fid fsec left next).toArray 32 (z.map (Value.int .u8)) = (cAccount agree z fid fsec left next).toArray := by
  rw [show (cAccount agree sign fid fsec left next) = (agree.map (Value.int .u8)) ++ (sign.map (Value.int .u8) ++ ([fid] ++ (fsec.map (Value.int .u8) ++ ([left] ++ ([next]))))) by simp [cAccount]]
  rw [show (cAccount agree z fid fsec left next) = (agree.map (Value.int .u8)) ++ (z.map (Value.int .u8) ++ ([fid] ++ (fsec.map (Value.int .u8) ++ ([left] ++ ([next]))))) by simp [cAccount]]
  exact seg_spl (by simp [hagree, hsign, hfsec]) (by simp [hsign, hz])
theorem cAccount_el_sign (agree : List Int) (sign : List Int) (fid : Value) (fsec : List Int) (left : Value) (next : Value) (hagree : agree.length = 32) (hsign : sign.length = 32) (hfsec : fsec.length = 32) {j : Nat} (hj : j < 32) : (cAccount agree sign fid fsec left next).toArray[32 + j]? = some (.int .u8 (el sign j)) := by
  rw [show (cAccount agree sign fid fsec left next) = (agree.map (Value.int .u8)) ++ (sign.map (Value.int .u8) ++ ([fid] ++ (fsec.map (Value.int .u8) ++ ([left] ++ ([next]))))) by simp [cAccount]]
  exact seg_el (by simp [hagree, hsign, hfsec]) (by rw [hsign]; exact hj)
theorem cAccount_put_sign (agree : List Int) (sign : List Int) (fid : Value) (fsec : List Int) (left : Value) (next : Value) (hagree : agree.length = 32) (hsign : sign.length = 32) (hfsec : fsec.length = 32) {j : Nat} (hj : j < 32) (z : Int) : (cAccount agree sign fid fsec left next).toArray.setIfInBounds (32 + j) (.int .u8 z) = (cAccount agree (sign.set j z) fid fsec left next).toArray := by
  rw [show (cAccount agree sign fid fsec left next) = (agree.map (Value.int .u8)) ++ (sign.map (Value.int .u8) ++ ([fid] ++ (fsec.map (Value.int .u8) ++ ([left] ++ ([next]))))) by simp [cAccount]]
  rw [show (cAccount agree (sign.set j z) fid fsec left next) = (agree.map (Value.int .u8)) ++ ((sign.set j z).map (Value.int .u8) ++ ([fid] ++ (fsec.map (Value.int .u8) ++ ([left] ++ ([next]))))) by simp [cAccount]]
  exact seg_put (by simp [hagree, hsign, hfsec]) (by rw [hsign]; exact hj)
theorem cAccount_ext_fid (agree : List Int) (sign : List Int) (fid : Value) (fsec : List Int) (left : Value) (next : Value) (hagree : agree.length = 32) (hsign : sign.length = 32) (hfsec : fsec.length = 32) : (cAccount agree sign fid fsec left next).toArray.extract 64 65 = ([fid]).toArray := by
  rw [show (cAccount agree sign fid fsec left next) = (agree.map (Value.int .u8) ++ (sign.map (Value.int .u8))) ++ ([fid] ++ (fsec.map (Value.int .u8) ++ ([left] ++ ([next])))) by simp [cAccount]]
  exact seg_ext (by simp [hagree, hsign, hfsec]) (by simp [hagree, hsign, hfsec])
theorem cAccount_get_fid (agree : List Int) (sign : List Int) (fid : Value) (fsec : List Int) (left : Value) (next : Value) (hagree : agree.length = 32) (hsign : sign.length = 32) (hfsec : fsec.length = 32) : (cAccount agree sign fid fsec left next).toArray[64]? = some fid := by
  rw [show (cAccount agree sign fid fsec left next) = (agree.map (Value.int .u8) ++ (sign.map (Value.int .u8))) ++ ([fid] ++ (fsec.map (Value.int .u8) ++ ([left] ++ ([next])))) by simp [cAccount]]
  exact seg_get (by simp [hagree, hsign, hfsec])
theorem cAccount_set_fid (agree : List Int) (sign : List Int) (fid : Value) (fsec : List Int) (left : Value) (next : Value) (z : Value) (hagree : agree.length = 32) (hsign : sign.length = 32) (hfsec : fsec.length = 32) : (cAccount agree sign fid fsec left next).toArray.setIfInBounds 64 z = (cAccount agree sign z fsec left next).toArray := by
  rw [show (cAccount agree sign fid fsec left next) = (agree.map (Value.int .u8) ++ (sign.map (Value.int .u8))) ++ ([fid] ++ (fsec.map (Value.int .u8) ++ ([left] ++ ([next])))) by simp [cAccount]]
  rw [show (cAccount agree sign z fsec left next) = (agree.map (Value.int .u8) ++ (sign.map (Value.int .u8))) ++ ([z] ++ (fsec.map (Value.int .u8) ++ ([left] ++ ([next])))) by simp [cAccount]]
  exact seg_set (by simp [hagree, hsign, hfsec])
theorem cAccount_ext_fsec (agree : List Int) (sign : List Int) (fid : Value) (fsec : List Int) (left : Value) (next : Value) (hagree : agree.length = 32) (hsign : sign.length = 32) (hfsec : fsec.length = 32) : (cAccount agree sign fid fsec left next).toArray.extract 65 97 = (fsec.map (Value.int .u8)).toArray := by
  rw [show (cAccount agree sign fid fsec left next) = (agree.map (Value.int .u8) ++ (sign.map (Value.int .u8) ++ ([fid]))) ++ (fsec.map (Value.int .u8) ++ ([left] ++ ([next]))) by simp [cAccount]]
  exact seg_ext (by simp [hagree, hsign, hfsec]) (by simp [hagree, hsign, hfsec])
theorem cAccount_spl_fsec (agree : List Int) (sign : List Int) (fid : Value) (fsec : List Int) (left : Value) (next : Value) (z : List Int) (hagree : agree.length = 32) (hsign : sign.length = 32) (hfsec : fsec.length = 32) (hz : z.length = 32) : spl (cAccount agree sign fid fsec left next).toArray 65 (z.map (Value.int .u8)) = (cAccount agree sign fid z left next).toArray := by
  rw [show (cAccount agree sign fid fsec left next) = (agree.map (Value.int .u8) ++ (sign.map (Value.int .u8) ++ ([fid]))) ++ (fsec.map (Value.int .u8) ++ ([left] ++ ([next]))) by simp [cAccount]]
  rw [show (cAccount agree sign fid z left next) = (agree.map (Value.int .u8) ++ (sign.map (Value.int .u8) ++ ([fid]))) ++ (z.map (Value.int .u8) ++ ([left] ++ ([next]))) by simp [cAccount]]
  exact seg_spl (by simp [hagree, hsign, hfsec]) (by simp [hfsec, hz])
theorem cAccount_el_fsec (agree : List Int) (sign : List Int) (fid : Value) (fsec : List Int) (left : Value) (next : Value) (hagree : agree.length = 32) (hsign : sign.length = 32) (hfsec : fsec.length = 32) {j : Nat} (hj : j < 32) : (cAccount agree sign fid fsec left next).toArray[65 + j]? = some (.int .u8 (el fsec j)) := by
  rw [show (cAccount agree sign fid fsec left next) = (agree.map (Value.int .u8) ++ (sign.map (Value.int .u8) ++ ([fid]))) ++ (fsec.map (Value.int .u8) ++ ([left] ++ ([next]))) by simp [cAccount]]
  exact seg_el (by simp [hagree, hsign, hfsec]) (by rw [hfsec]; exact hj)
theorem cAccount_put_fsec (agree : List Int) (sign : List Int) (fid : Value) (fsec : List Int) (left : Value) (next : Value) (hagree : agree.length = 32) (hsign : sign.length = 32) (hfsec : fsec.length = 32) {j : Nat} (hj : j < 32) (z : Int) : (cAccount agree sign fid fsec left next).toArray.setIfInBounds (65 + j) (.int .u8 z) = (cAccount agree sign fid (fsec.set j z) left next).toArray := by
  rw [show (cAccount agree sign fid fsec left next) = (agree.map (Value.int .u8) ++ (sign.map (Value.int .u8) ++ ([fid]))) ++ (fsec.map (Value.int .u8) ++ ([left] ++ ([next]))) by simp [cAccount]]
  rw [show (cAccount agree sign fid (fsec.set j z) left next) = (agree.map (Value.int .u8) ++ (sign.map (Value.int .u8) ++ ([fid]))) ++ ((fsec.set j z).map (Value.int .u8) ++ ([left] ++ ([next]))) by simp [cAccount]]
  exact seg_put (by simp [hagree, hsign, hfsec]) (by rw [hfsec]; exact hj)
theorem cAccount_ext_left (agree : List Int) (sign : List Int) (fid : Value) (fsec : List Int) (left : Value) (next : Value) (hagree : agree.length = 32) (hsign : sign.length = 32) (hfsec : fsec.length = 32) : (cAccount agree sign fid fsec left next).toArray.extract 97 98 = ([left]).toArray := by
  rw [show (cAccount agree sign fid fsec left next) = (agree.map (Value.int .u8) ++ (sign.map (Value.int .u8) ++ ([fid] ++ (fsec.map (Value.int .u8))))) ++ ([left] ++ ([next])) by simp [cAccount]]
  exact seg_ext (by simp [hagree, hsign, hfsec]) (by simp [hagree, hsign, hfsec])
theorem cAccount_get_left (agree : List Int) (sign : List Int) (fid : Value) (fsec : List Int) (left : Value) (next : Value) (hagree : agree.length = 32) (hsign : sign.length = 32) (hfsec : fsec.length = 32) : (cAccount agree sign fid fsec left next).toArray[97]? = some left := by
  rw [show (cAccount agree sign fid fsec left next) = (agree.map (Value.int .u8) ++ (sign.map (Value.int .u8) ++ ([fid] ++ (fsec.map (Value.int .u8))))) ++ ([left] ++ ([next])) by simp [cAccount]]
  exact seg_get (by simp [hagree, hsign, hfsec])
theorem cAccount_set_left (agree : List Int) (sign : List Int) (fid : Value) (fsec : List Int) (left : Value) (next : Value) (z : Value) (hagree : agree.length = 32) (hsign : sign.length = 32) (hfsec : fsec.length = 32) : (cAccount agree sign fid fsec left next).toArray.setIfInBounds 97 z = (cAccount agree sign fid fsec z next).toArray := by
  rw [show (cAccount agree sign fid fsec left next) = (agree.map (Value.int .u8) ++ (sign.map (Value.int .u8) ++ ([fid] ++ (fsec.map (Value.int .u8))))) ++ ([left] ++ ([next])) by simp [cAccount]]
  rw [show (cAccount agree sign fid fsec z next) = (agree.map (Value.int .u8) ++ (sign.map (Value.int .u8) ++ ([fid] ++ (fsec.map (Value.int .u8))))) ++ ([z] ++ ([next])) by simp [cAccount]]
  exact seg_set (by simp [hagree, hsign, hfsec])
theorem cAccount_ext_next (agree : List Int) (sign : List Int) (fid : Value) (fsec : List Int) (left : Value) (next : Value) (hagree : agree.length = 32) (hsign : sign.length = 32) (hfsec : fsec.length = 32) : (cAccount agree sign fid fsec left next).toArray.extract 98 99 = ([next]).toArray := by
  rw [show (cAccount agree sign fid fsec left next) = (agree.map (Value.int .u8) ++ (sign.map (Value.int .u8) ++ ([fid] ++ (fsec.map (Value.int .u8) ++ ([left]))))) ++ ([next] ++ ([])) by simp [cAccount]]
  exact seg_ext (by simp [hagree, hsign, hfsec]) (by simp [hagree, hsign, hfsec])
theorem cAccount_get_next (agree : List Int) (sign : List Int) (fid : Value) (fsec : List Int) (left : Value) (next : Value) (hagree : agree.length = 32) (hsign : sign.length = 32) (hfsec : fsec.length = 32) : (cAccount agree sign fid fsec left next).toArray[98]? = some next := by
  rw [show (cAccount agree sign fid fsec left next) = (agree.map (Value.int .u8) ++ (sign.map (Value.int .u8) ++ ([fid] ++ (fsec.map (Value.int .u8) ++ ([left]))))) ++ ([next] ++ ([])) by simp [cAccount]]
  exact seg_get (by simp [hagree, hsign, hfsec])
theorem cAccount_set_next (agree : List Int) (sign : List Int) (fid : Value) (fsec : List Int) (left : Value) (next : Value) (z : Value) (hagree : agree.length = 32) (hsign : sign.length = 32) (hfsec : fsec.length = 32) : (cAccount agree sign fid fsec left next).toArray.setIfInBounds 98 z = (cAccount agree sign fid fsec left z).toArray := by
  rw [show (cAccount agree sign fid fsec left next) = (agree.map (Value.int .u8) ++ (sign.map (Value.int .u8) ++ ([fid] ++ (fsec.map (Value.int .u8) ++ ([left]))))) ++ ([next] ++ ([])) by simp [cAccount]]
  rw [show (cAccount agree sign fid fsec left z) = (agree.map (Value.int .u8) ++ (sign.map (Value.int .u8) ++ ([fid] ++ (fsec.map (Value.int .u8) ++ ([left]))))) ++ ([z] ++ ([])) by simp [cAccount]]
  exact seg_set (by simp [hagree, hsign, hfsec])
/-! ### Once: 33 cells -/
def cOnce (id : Value) (sec : List Int) : List Value := [id] ++ (sec.map (Value.int .u8))
theorem cOnce_length (id : Value) (sec : List Int) (hsec : sec.length = 32) : (cOnce id sec).length = 33 := by simp [cOnce, hsec]
theorem cOnce_one (id : Value) (sec : List Int) (oid : id.oneCell' = true) : ∀ u ∈ (cOnce id sec), u.oneCell' = true := by
  intro u hu
  simp only [cOnce, List.mem_append, List.mem_singleton, List.mem_map] at hu
  rcases hu with rfl | ⟨_, _, rfl⟩
  · exact oid
  · rfl
theorem cOnce_ext_id (id : Value) (sec : List Int) (hsec : sec.length = 32) : (cOnce id sec).toArray.extract 0 1 = ([id]).toArray := by
  rw [show (cOnce id sec) = ([]) ++ ([id] ++ (sec.map (Value.int .u8))) by simp [cOnce]]
  exact seg_ext (by simp [hsec]) (by simp [hsec])
theorem cOnce_get_id (id : Value) (sec : List Int) (hsec : sec.length = 32) : (cOnce id sec).toArray[0]? = some id := by
  rw [show (cOnce id sec) = ([]) ++ ([id] ++ (sec.map (Value.int .u8))) by simp [cOnce]]
  exact seg_get (by simp [hsec])
theorem cOnce_set_id (id : Value) (sec : List Int) (z : Value) (hsec : sec.length = 32) : (cOnce id sec).toArray.setIfInBounds 0 z = (cOnce z sec).toArray := by
  rw [show (cOnce id sec) = ([]) ++ ([id] ++ (sec.map (Value.int .u8))) by simp [cOnce]]
  rw [show (cOnce z sec) = ([]) ++ ([z] ++ (sec.map (Value.int .u8))) by simp [cOnce]]
  exact seg_set (by simp [hsec])
theorem cOnce_ext_sec (id : Value) (sec : List Int) (hsec : sec.length = 32) : (cOnce id sec).toArray.extract 1 33 = (sec.map (Value.int .u8)).toArray := by
  rw [show (cOnce id sec) = ([id]) ++ (sec.map (Value.int .u8) ++ ([])) by simp [cOnce]]
  exact seg_ext (by simp [hsec]) (by simp [hsec])
theorem cOnce_spl_sec (id : Value) (sec : List Int) (z : List Int) (hsec : sec.length = 32) (hz : z.length = 32) : spl (cOnce id sec).toArray 1 (z.map (Value.int .u8)) = (cOnce id z).toArray := by
  rw [show (cOnce id sec) = ([id]) ++ (sec.map (Value.int .u8) ++ ([])) by simp [cOnce]]
  rw [show (cOnce id z) = ([id]) ++ (z.map (Value.int .u8) ++ ([])) by simp [cOnce]]
  exact seg_spl (by simp [hsec]) (by simp [hsec, hz])
theorem cOnce_el_sec (id : Value) (sec : List Int) (hsec : sec.length = 32) {j : Nat} (hj : j < 32) : (cOnce id sec).toArray[1 + j]? = some (.int .u8 (el sec j)) := by
  rw [show (cOnce id sec) = ([id]) ++ (sec.map (Value.int .u8) ++ ([])) by simp [cOnce]]
  exact seg_el (by simp [hsec]) (by rw [hsec]; exact hj)
theorem cOnce_put_sec (id : Value) (sec : List Int) (hsec : sec.length = 32) {j : Nat} (hj : j < 32) (z : Int) : (cOnce id sec).toArray.setIfInBounds (1 + j) (.int .u8 z) = (cOnce id (sec.set j z)).toArray := by
  rw [show (cOnce id sec) = ([id]) ++ (sec.map (Value.int .u8) ++ ([])) by simp [cOnce]]
  rw [show (cOnce id (sec.set j z)) = ([id]) ++ ((sec.set j z).map (Value.int .u8) ++ ([])) by simp [cOnce]]
  exact seg_put (by simp [hsec]) (by rw [hsec]; exact hj)
end Go
namespace Go.Proofs.Ytbhnfohoclcjdaa
open Go.RowKit Go.Dr Go.Kd
/-- An account without one-time keys. -/
abbrev acC (a b c : List Int) : Array Value := (cAccount a b (.int .u16 0) c (.slice none 0 0) (.int .u16 1)).toArray
theorem foldl_shift (off : Nat) : ∀ (xs : List Value) (k : Nat) (base : Array Value), (xs.zipIdx (k + 1)).foldl (fun cs x => cs.setIfInBounds (off + x.2) x.1) base = (xs.zipIdx k).foldl (fun cs x => cs.setIfInBounds (off + 1 + x.2) x.1) base
  | [], _, _ => rfl
  | x :: xs, k, base => by
    rw [List.zipIdx_cons, List.zipIdx_cons, List.foldl_cons, List.foldl_cons, foldl_shift off xs (k + 1)]
    congr 2
    show off + (k + 1) = off + 1 + k
    omega
set_option maxRecDepth 100000 in
theorem acc_built {a b c : List Int} (ha : a.length = 32) (hb : b.length = 32) (hc : c.length = 32) :
    ((List.foldl (fun cs x => cs.setIfInBounds (64 + x.snd) x.fst) ((spl (spl Try.zeroCells54 0 (a.map (Value.int .u8))) 32 (b.map (Value.int .u8))).setIfInBounds 64 (.int .u16 0)) ((c.map (Value.int .u8)).zipIdx 1)).setIfInBounds 98 (.int .u16 1)) = acC a b c := by
  have hz : Try.zeroCells54 = (cAccount (zs 32) (zs 32) (.int .u16 0) (zs 32) (.slice none 0 0) (.int .u16 0)).toArray := by kernel_rfl
  have l0 : (zs 32).length = 32 := rfl
  rw [hz, cAccount_spl_agree _ _ _ _ _ _ _ l0 l0 l0 ha, cAccount_spl_sign _ _ _ _ _ _ _ ha l0 l0 hb, cAccount_set_fid _ _ _ _ _ _ _ ha hb l0, foldl_shift, foldl_spl _ _ _ (by rw [List.length_map, List.size_toArray, cAccount_length _ _ _ _ _ _ ha hb l0, hc]; omega), cAccount_spl_fsec _ _ _ _ _ _ _ ha hb l0 hc, cAccount_set_next _ _ _ _ _ _ _ ha hb hc]
structure Key32 (k : List Int) : Prop where
  len : k.length = 32
  byt : isBytes k
theorem key_makeT (T : List Tm) (t : Tm) : Key32 (makeT T t).2.1 := ⟨makeT_len _ _, byt_makeT⟩
section
variable {w : World}
/-- Any term of one part. -/
theorem fresh_k {lo tb : Nat} {T : List Tm} {k : List Int} (h : TabP lo tb w T) (hk : Key32 k) :
    Calls Try.prog 7 #[SU tb, .agg (ints .u8 k)] w fun e w' => ∃ a T', e = .returned (.agg (ints .u8 a)) ∧ Key32 a ∧ TabP lo tb w' T' ∧ FrP lo w w' :=
  (fresh_f h hk.len hk.byt).mono fun e w' ⟨h1, h2, h3⟩ => ⟨_, _, h1, key_makeT _ _, h2, h3⟩
theorem signer_k {lo tb : Nat} {T : List Tm} {k : List Int} (h : TabP lo tb w T) (hk : Key32 k) :
    Calls Try.prog 8 #[SU tb, .agg (ints .u8 k)] w fun e w' => ∃ a T', e = .returned (.agg (ints .u8 a)) ∧ Key32 a ∧ TabP lo tb w' T' ∧ FrP lo w w' :=
  (signer_f h hk.len hk.byt).mono fun e w' ⟨h1, h2, h3⟩ => ⟨_, _, h1, key_makeT _ _, h2, h3⟩
theorem public_k {lo tb : Nat} {T : List Tm} {k : List Int} (h : TabP lo tb w T) (hk : Key32 k) :
    Calls Try.prog 27 #[SU tb, .agg (ints .u8 k)] w fun e w' => ∃ a T', e = .returned (.agg (ints .u8 a)) ∧ Key32 a ∧ TabP lo tb w' T' ∧ FrP lo w w' :=
  (public_f h hk.len hk.byt).mono fun e w' ⟨h1, h2, h3⟩ => ⟨_, _, h1, key_makeT _ _, h2, h3⟩
set_option maxRecDepth 100000 in
set_option maxHeartbeats 2000000 in
theorem anew_f {lo tb : Nat} {T : List Tm} {a b c : List Int} (h : TabP lo tb w T) (ha : Key32 a) (hb : Key32 b) (hc : Key32 c) :
    Calls Try.prog 12 #[SU tb, .agg (ints .u8 a), .agg (ints .u8 b), .agg (ints .u8 c)] w fun e w' => ∃ x y z T', e = .returned (.agg (acC x y z)) ∧ Key32 x ∧ Key32 y ∧ Key32 z ∧ TabP lo tb w' T' ∧ FrP lo w w' := by
  have H := Lib.hid h
  have la := ha.len
  have lb := hb.len
  have lc := hc.len
  clear h
  go_enter Try.func12, Try.ntmps12
  go_upto_region 1 with (fail)
  refine named_world (A := fun X => OwB w [(w.heap.size + 1 + 1 + 1 + 1, .cells Try.zeroCells54 54), (w.heap.size + 1 + 1 + 1, .cells (ints .u8 c) 23), (w.heap.size + 1 + 1, .cells (ints .u8 b) 23), (w.heap.size + 1, .cells (ints .u8 a) 23), (w.heap.size, .cells #[.pointer (some ⟨tb, 0, none⟩)] 33)] X) (Q := fun X => Code.wp _ _ _ _ X) ((((((OwB.start w).allocN _ w.heap.size rfl).allocN _ (w.heap.size + 1) (by simp)).allocN _ (w.heap.size + 1 + 1) (by simp)).allocN _ (w.heap.size + 1 + 1 + 1) (by simp)).allocN _ (w.heap.size + 1 + 1 + 1 + 1) (by simp)) ?_
  intro V hV
  have HTV := Lib.hid (H.out.fr0 hV.fr)
  have HFV := Lib.hid (FrT.of (t := TT) (lo := lo) hV.fr)
  generalize w.heap.size + 1 + 1 + 1 + 1 = b8 at hV ⊢
  generalize w.heap.size + 1 + 1 + 1 = b7 at hV ⊢
  generalize w.heap.size + 1 + 1 = b6 at hV ⊢
  generalize w.heap.size + 1 = b5 at hV ⊢
  generalize w.heap.size = b4 at hV ⊢
  have l8 := hV.low 0 rfl
  have hV2 : OwB V.void _ V := hV.weak V.void_fr (Nat.zero_le _)
  have hlw : V.void.heap.size ≤ lo := Nat.zero_le _
  have f7 := hV.nth 1 rfl
  have f6 := hV.nth 2 rfl
  have f5 := hV.nth 3 rfl
  have f4 := hV.nth 4 rfl
  have t7 := World.at_lt f7
  have t6 := World.at_lt f6
  have t5 := World.at_lt f5
  have t4 := World.at_lt f4
  have HOV := Lib.hid hV2
  clear hV hV2
  refine drawn_begin 11 (fun w' => w'.blk b4 = some (.cells #[.pointer (some ⟨tb, 0, none⟩)] 33) ∧ w'.blk b5 = some (.cells (ints .u8 a) 23) ∧ w'.blk b6 = some (.cells (ints .u8 b) 23) ∧ w'.blk b7 = some (.cells (ints .u8 c) 23)) (by kernel_rfl) ?_
  refine drawn_reads (fuel := 6) [0, 1, 3, 4, 6, 7] rfl (by kernel_rfl) ⟨f4, f5, f6, f7⟩ ?_
  repeat (first | (refine rowK_step2 rfl rfl (fun K hK => ?_); go_wp2) | (refine rowK_step rfl (fun K hK => ?_); go_simp; refine hK _ ?_; clear hK K))
  refine rowK_nil ⟨fun w' e1 => ?_, ?_⟩
  · obtain ⟨e1, e2, e3, e4⟩ := e1
    clear f4 f5 f6 f7
    repeat (first | (refine rowWp_step2 rfl rfl (fun K hK => ?_); go_wp2) | (refine rowWp_step rfl (fun K hK => ?_); go_simp; refine hK _ ?_; clear hK K))
    exact rowWp_nil rfl
  refine drawn_next 2 (fuel := 5) rfl (by kernel_rfl) ?_
  intro K hK
  go_wp2_with fail
  refine (fresh_k (HTV.out.fr0 (Fr.refl [] _).drew) ha).mono ?_
  rintro e V1 ⟨k1, T1, rfl, hk1, hT, F⟩
  have hO := (HOV.out.drew).callT F (by simp [other, TT]) hlw
  clear f4 f5 f6 f7 t4 t5 t6 t7
  have f7 := hO.nth 1 rfl
  have f6 := hO.nth 2 rfl
  have f5 := hO.nth 3 rfl
  have f4 := hO.nth 4 rfl
  have t7 := World.at_lt f7
  have t6 := World.at_lt f6
  have t5 := World.at_lt f5
  have t4 := World.at_lt f4
  have HOV1 := Lib.hid hO
  have HTV1 := Lib.hid hT
  have HFV1 := Lib.hid (HFV.out.trans ((FrT.of (Fr.refl [] _).drew).trans F))
  clear hO hT F
  go_wp2_with fail
  refine ⟨⟨f4, f5, f6, f7⟩, ?_⟩
  refine drawn_next 5 (fuel := 4) rfl (by kernel_rfl) ?_
  intro K hK
  go_wp2_with fail
  refine (fresh_k HTV1.out hb).mono ?_
  rintro e V2 ⟨k2, T2, rfl, hk2, hT, F⟩
  have hO := (HOV1.out).callT F (by simp [other, TT]) hlw
  clear f4 f5 f6 f7 t4 t5 t6 t7
  have f7 := hO.nth 1 rfl
  have f6 := hO.nth 2 rfl
  have f5 := hO.nth 3 rfl
  have f4 := hO.nth 4 rfl
  have t7 := World.at_lt f7
  have t6 := World.at_lt f6
  have t5 := World.at_lt f5
  have t4 := World.at_lt f4
  have HOV2 := Lib.hid hO
  have HTV2 := Lib.hid hT
  have HFV2 := Lib.hid (HFV1.out.trans F)
  clear hO hT F
  go_wp2_with fail
  refine ⟨⟨f4, f5, f6, f7⟩, ?_⟩
  refine drawn_next 8 (fuel := 3) rfl (by kernel_rfl) ?_
  intro K hK
  go_wp2_with fail
  refine (fresh_k HTV2.out hc).mono ?_
  rintro e V3 ⟨k3, T3, rfl, hk3, hT, F⟩
  have hO := (HOV2.out).callT F (by simp [other, TT]) hlw
  clear f4 f5 f6 f7 t4 t5 t6 t7
  have f7 := hO.nth 1 rfl
  have f6 := hO.nth 2 rfl
  have f5 := hO.nth 3 rfl
  have f4 := hO.nth 4 rfl
  have t7 := World.at_lt f7
  have t6 := World.at_lt f6
  have t5 := World.at_lt f5
  have t4 := World.at_lt f4
  have HOV3 := Lib.hid hO
  have HTV3 := Lib.hid hT
  have HFV3 := Lib.hid (HFV2.out.trans F)
  clear hO hT F
  go_wp2_with fail
  refine ⟨⟨f4, f5, f6, f7⟩, ?_⟩
  have lk1 := hk1.len
  have lk2 := hk2.len
  have lk3 := hk3.len
  have z54 : Try.zeroCells54.size = 99 := by kernel_rfl
  have lk3b : k3.length + 1 = 33 := by omega
  obtain ⟨B, hB⟩ : ∃ B, B = acC k1 k2 k3 := ⟨_, rfl⟩
  have eB : ((List.foldl (fun cs x => cs.setIfInBounds (64 + x.snd) x.fst) ((spl (spl Try.zeroCells54 0 (k1.map (Value.int .u8))) 32 (k2.map (Value.int .u8))).setIfInBounds 64 (.int .u16 0)) ((k3.map (Value.int .u8)).zipIdx 1)).setIfInBounds 98 (.int .u16 1)) = B := by rw [hB]; exact acc_built lk1 lk2 lk3
  have szB : B.size = 99 := by rw [hB, List.size_toArray, cAccount_length _ _ _ _ _ _ lk1 lk2 lk3]
  have oneB : ones B.toList = true := by rw [hB]; exact List.all_eq_true.2 (cAccount_one _ _ _ _ _ _ rfl rfl rfl)
  have szF : (List.foldl (fun cs x => cs.setIfInBounds (64 + x.snd) x.fst) ((spl (spl Try.zeroCells54 0 (k1.map (Value.int .u8))) 32 (k2.map (Value.int .u8))).setIfInBounds 64 (.int .u16 0)) ((k3.map (Value.int .u8)).zipIdx 1)).size = 99 := by
    have := congrArg Array.size eB
    rw [Array.size_setIfInBounds] at this
    exact this.trans szB
  have HB := Lib.hid hB
  clear hB
  refine drawn_reads (fuel := 1) [9, 10] rfl (by kernel_rfl) ⟨f4, f5, f6, f7⟩ ?_
  repeat (first | (refine rowK_step2 rfl rfl (fun K hK => ?_); go_wp2) | (refine rowK_step rfl (fun K hK => ?_); go_simp; refine hK _ ?_; clear hK K))
  refine rowK_nil ⟨fun w' e1 => ?_, ?_⟩
  · clear f4 f5 f6 f7 e1
    repeat (first | (refine rowWp_step2 rfl rfl (fun K hK => ?_); go_wp2) | (refine rowWp_step rfl (fun K hK => ?_); go_simp; refine hK _ ?_; clear hK K))
    exact rowWp_nil rfl
  have f8 := HOV3.out.nth 0 rfl
  have t8 := World.at_lt f8
  refine drawn_end rfl (by kernel_rfl) ?_
  intro K hK
  go_wp2_with fail
  refine ret_cell rfl rfl rfl ?_
  go_simp
  refine ⟨by kernel_rfl, k1, k2, k3, HB.out, hk1, hk2, hk3, ?_, HFV3.out.put _ l8⟩
  exact ⟨T3, HTV3.out.put f8 (by decide) _⟩
end
end Go.Proofs.Ytbhnfohoclcjdaa
