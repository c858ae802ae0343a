/- Joined: KeD, KeE, KeG. -/
import Derived.Test.YtbhnfohoclcjdaaGreatZj
set_option linter.unusedVariables false
set_option linter.unusedSimpArgs false
namespace Go
open Go.Dr
/-! ### Account: 99 cells -/
def cAccount (agree : List Int) (sign : List Int) (fid : Value) (fsec : List Int) (left : Value) (next : Value) : List Value := agree.map (Value.int .u8) ++ (sign.map (Value.int .u8) ++ ([fid] ++ (fsec.map (Value.int .u8) ++ ([left] ++ ([next])))))
theorem cAccount_length (agree : List Int) (sign : List Int) (fid : Value) (fsec : List Int) (left : Value) (next : Value) (hagree : agree.length = 32) (hsign : sign.length = 32) (hfsec : fsec.length = 32) : (cAccount agree sign fid fsec left next).length = 99 := by simp [cAccount, hagree, hsign, hfsec]
theorem cAccount_one (agree : List Int) (sign : List Int) (fid : Value) (fsec : List Int) (left : Value) (next : Value) (ofid : fid.oneCell' = true) (oleft : left.oneCell' = true) (onext : next.oneCell' = true) : ∀ u ∈ (cAccount agree sign fid fsec left next), u.oneCell' = true := by
  intro u hu
  simp only [cAccount, List.mem_append, List.mem_singleton, List.mem_map] at hu
  rcases hu with ⟨_, _, rfl⟩ | ⟨_, _, rfl⟩ | rfl | ⟨_, _, rfl⟩ | rfl | rfl
  · rfl
  · rfl
  · exact ofid
  · rfl
  · exact oleft
  · exact onext
theorem cAccount_ext_agree (agree : List Int) (sign : List Int) (fid : Value) (fsec : List Int) (left : Value) (next : Value) (hagree : agree.length = 32) (hsign : sign.length = 32) (hfsec : fsec.length = 32) : (cAccount agree sign fid fsec left next).toArray.extract 0 32 = (agree.map (Value.int .u8)).toArray := by
  rw [show (cAccount agree sign fid fsec left next) = ([]) ++ (agree.map (Value.int .u8) ++ (sign.map (Value.int .u8) ++ ([fid] ++ (fsec.map (Value.int .u8) ++ ([left] ++ ([next])))))) by simp [cAccount]]
  exact seg_ext (by simp [hagree, hsign, hfsec]) (by simp [hagree, hsign, hfsec])
theorem cAccount_spl_agree (agree : List Int) (sign : List Int) (fid : Value) (fsec : List Int) (left : Value) (next : Value) (z : List Int) (hagree : agree.length = 32) (hsign : sign.length = 32) (hfsec : fsec.length = 32) (hz : z.length = 32) : spl (cAccount agree sign fid fsec left next).toArray 0 (z.map (Value.int .u8)) = (cAccount z sign fid fsec left next).toArray := by
  rw [show (cAccount agree sign fid fsec left next) = ([]) ++ (agree.map (Value.int .u8) ++ (sign.map (Value.int .u8) ++ ([fid] ++ (fsec.map (Value.int .u8) ++ ([left] ++ ([next])))))) by simp [cAccount]]
  rw [show (cAccount z sign fid fsec left next) = ([]) ++ (z.map (Value.int .u8) ++ (sign.map (Value.int .u8) ++ ([fid] ++ (fsec.map (Value.int .u8) ++ ([left] ++ ([next])))))) by simp [cAccount]]
  exact seg_spl (by simp [hagree, hsign, hfsec]) (by simp [hagree, hz])
theorem cAccount_el_agree (agree : List Int) (sign : List Int) (fid : Value) (fsec : List Int) (left : Value) (next : Value) (hagree : agree.length = 32) (hsign : sign.length = 32) (hfsec : fsec.length = 32) {j : Nat} (hj : j < 32) : (cAccount agree sign fid fsec left next).toArray[0 + j]? = some (.int .u8 (el agree j)) := by
  rw [show (cAccount agree sign fid fsec left next) = ([]) ++ (agree.map (Value.int .u8) ++ (sign.map (Value.int .u8) ++ ([fid] ++ (fsec.map (Value.int .u8) ++ ([left] ++ ([next])))))) by simp [cAccount]]
  exact seg_el (by simp [hagree, hsign, hfsec]) (by rw [hagree]; exact hj)
theorem cAccount_put_agree (agree : List Int) (sign : List Int) (fid : Value) (fsec : List Int) (left : Value) (next : Value) (hagree : agree.length = 32) (hsign : sign.length = 32) (hfsec : fsec.length = 32) {j : Nat} (hj : j < 32) (z : Int) : (cAccount agree sign fid fsec left next).toArray.setIfInBounds (0 + j) (.int .u8 z) = (cAccount (agree.set j z) sign fid fsec left next).toArray := by
  rw [show (cAccount agree sign fid fsec left next) = ([]) ++ (agree.map (Value.int .u8) ++ (sign.map (Value.int .u8) ++ ([fid] ++ (fsec.map (Value.int .u8) ++ ([left] ++ ([next])))))) by simp [cAccount]]
  rw [show (cAccount (agree.set j z) sign fid fsec left next) = ([]) ++ ((agree.set j z).map (Value.int .u8) ++ (sign.map (Value.int .u8) ++ ([fid] ++ (fsec.map (Value.int .u8) ++ ([left] ++ ([next])))))) by simp [cAccount]]
  exact seg_put (by simp [hagree, hsign, hfsec]) (by rw [hagree]; exact hj)
theorem cAccount_ext_sign (agree : List Int) (sign : List Int) (fid : Value) (fsec : List Int) (left : Value) (next : Value) (hagree : agree.length = 32) (hsign : sign.length = 32) (hfsec : fsec.length = 32) : (cAccount agree sign fid fsec left next).toArray.extract 32 64 = (sign.map (Value.int .u8)).toArray := by
  rw [show (cAccount agree sign fid fsec left next) = (agree.map (Value.int .u8)) ++ (sign.map (Value.int .u8) ++ ([fid] ++ (fsec.map (Value.int .u8) ++ ([left] ++ ([next]))))) by simp [cAccount]]
  exact seg_ext (by simp [hagree, hsign, hfsec]) (by simp [hagree, hsign, hfsec])
theorem cAccount_spl_sign (agree : List Int) (sign : List Int) (fid : Value) (fsec : List Int) (left : Value) (next : Value) (z : List Int) (hagree : agree.length = 32) (hsign : sign.length = 32) (hfsec : fsec.length = 32) (hz : z.length = 32) : spl (cAccount agree sign fid fsec left next).toArray 32 (z.map (Value.int .u8)) = (cAccount agree z fid fsec left next).toArray := by
  rw [show (cAccount agree sign fid fsec left next) = (agree.map (Value.int .u8)) ++ (sign.map (Value.int .u8) ++ ([fid] ++ (fsec.map (Value.int .u8) ++ ([left] ++ ([next]))))) by simp [cAccount]]
  rw [show (cAccount agree z fid fsec left next) = (agree.map (Value.int .u8)) ++ (z.map (Value.int .u8) ++ ([fid] ++ (fsec.map (Value.int .u8) ++ ([left] ++ ([next]))))) by simp [cAccount]]
  exact seg_spl (by simp [hagree, hsign, hfsec]) (by simp [hsign, hz])
theorem cAccount_el_sign (agree : List Int) (sign : List Int) (fid : Value) (fsec : List Int) (left : Value) (next : Value) (hagree : agree.length = 32) (hsign : sign.length = 32) (hfsec : fsec.length = 32) {j : Nat} (hj : j < 32) : (cAccount agree sign fid fsec left next).toArray[32 + j]? = some (.int .u8 (el sign j)) := by
  rw [show (cAccount agree sign fid fsec left next) = (agree.map (Value.int .u8)) ++ (sign.map (Value.int .u8) ++ ([fid] ++ (fsec.map (Value.int .u8) ++ ([left] ++ ([next]))))) by simp [cAccount]]
  exact seg_el (by simp [hagree, hsign, hfsec]) (by rw [hsign]; exact hj)
theorem cAccount_put_sign (agree : List Int) (sign : List Int) (fid : Value) (fsec : List Int) (left : Value) (next : Value) (hagree : agree.length = 32) (hsign : sign.length = 32) (hfsec : fsec.length = 32) {j : Nat} (hj : j < 32) (z : Int) : (cAccount agree sign fid fsec left next).toArray.setIfInBounds (32 + j) (.int .u8 z) = (cAccount agree (sign.set j z) fid fsec left next).toArray := by
  rw [show (cAccount agree sign fid fsec left next) = (agree.map (Value.int .u8)) ++ (sign.map (Value.int .u8) ++ ([fid] ++ (fsec.map (Value.int .u8) ++ ([left] ++ ([next]))))) by simp [cAccount]]
  rw [show (cAccount agree (sign.set j z) fid fsec left next) = (agree.map (Value.int .u8)) ++ ((sign.set j z).map (Value.int .u8) ++ ([fid] ++ (fsec.map (Value.int .u8) ++ ([left] ++ ([next]))))) by simp [cAccount]]
  exact seg_put (by simp [hagree, hsign, hfsec]) (by rw [hsign]; exact hj)
theorem cAccount_ext_fid (agree : List Int) (sign : List Int) (fid : Value) (fsec : List Int) (left : Value) (next : Value) (hagree : agree.length = 32) (hsign : sign.length = 32) (hfsec : fsec.length = 32) : (cAccount agree sign fid fsec left next).toArray.extract 64 65 = ([fid]).toArray := by
  rw [show (cAccount agree sign fid fsec left next) = (agree.map (Value.int .u8) ++ (sign.map (Value.int .u8))) ++ ([fid] ++ (fsec.map (Value.int .u8) ++ ([left] ++ ([next])))) by simp [cAccount]]
  exact seg_ext (by simp [hagree, hsign, hfsec]) (by simp [hagree, hsign, hfsec])
theorem cAccount_get_fid (agree : List Int) (sign : List Int) (fid : Value) (fsec : List Int) (left : Value) (next : Value) (hagree : agree.length = 32) (hsign : sign.length = 32) (hfsec : fsec.length = 32) : (cAccount agree sign fid fsec left next).toArray[64]? = some fid := by
  rw [show (cAccount agree sign fid fsec left next) = (agree.map (Value.int .u8) ++ (sign.map (Value.int .u8))) ++ ([fid] ++ (fsec.map (Value.int .u8) ++ ([left] ++ ([next])))) by simp [cAccount]]
  exact seg_get (by simp [hagree, hsign, hfsec])
theorem cAccount_set_fid (agree : List Int) (sign : List Int) (fid : Value) (fsec : List Int) (left : Value) (next : Value) (z : Value) (hagree : agree.length = 32) (hsign : sign.length = 32) (hfsec : fsec.length = 32) : (cAccount agree sign fid fsec left next).toArray.setIfInBounds 64 z = (cAccount agree sign z fsec left next).toArray := by
  rw [show (cAccount agree sign fid fsec left next) = (agree.map (Value.int .u8) ++ (sign.map (Value.int .u8))) ++ ([fid] ++ (fsec.map (Value.int .u8) ++ ([left] ++ ([next])))) by simp [cAccount]]
  rw [show (cAccount agree sign z fsec left next) = (agree.map (Value.int .u8) ++ (sign.map (Value.int .u8))) ++ ([z] ++ (fsec.map (Value.int .u8) ++ ([left] ++ ([next])))) by simp [cAccount]]
  exact seg_set (by simp [hagree, hsign, hfsec])
theorem cAccount_ext_fsec (agree : List Int) (sign : List Int) (fid : Value) (fsec : List Int) (left : Value) (next : Value) (hagree : agree.length = 32) (hsign : sign.length = 32) (hfsec : fsec.length = 32) : (cAccount agree sign fid fsec left next).toArray.extract 65 97 = (fsec.map (Value.int .u8)).toArray := by
  rw [show (cAccount agree sign fid fsec left next) = (agree.map (Value.int .u8) ++ (sign.map (Value.int .u8) ++ ([fid]))) ++ (fsec.map (Value.int .u8) ++ ([left] ++ ([next]))) by simp [cAccount]]
  exact seg_ext (by simp [hagree, hsign, hfsec]) (by simp [hagree, hsign, hfsec])
theorem cAccount_spl_fsec (agree : List Int) (sign : List Int) (fid : Value) (fsec : List Int) (left : Value) (next : Value) (z : List Int) (hagree : agree.length = 32) (hsign : sign.length = 32) (hfsec : fsec.length = 32) (hz : z.length = 32) : spl (cAccount agree sign fid fsec left next).toArray 65 (z.map (Value.int .u8)) = (cAccount agree sign fid z left next).toArray := by
  rw [show (cAccount agree sign fid fsec left next) = (agree.map (Value.int .u8) ++ (sign.map (Value.int .u8) ++ ([fid]))) ++ (fsec.map (Value.int .u8) ++ ([left] ++ ([next]))) by simp [cAccount]]
  rw [show (cAccount agree sign fid z left next) = (agree.map (Value.int .u8) ++ (sign.map (Value.int .u8) ++ ([fid]))) ++ (z.map (Value.int .u8) ++ ([left] ++ ([next]))) by simp [cAccount]]
  exact seg_spl (by simp [hagree, hsign, hfsec]) (by simp [hfsec, hz])
theorem cAccount_el_fsec (agree : List Int) (sign : List Int) (fid : Value) (fsec : List Int) (left : Value) (next : Value) (hagree : agree.length = 32) (hsign : sign.length = 32) (hfsec : fsec.length = 32) {j : Nat} (hj : j < 32) : (cAccount agree sign fid fsec left next).toArray[65 + j]? = some (.int .u8 (el fsec j)) := by
  rw [show (cAccount agree sign fid fsec left next) = (agree.map (Value.int .u8) ++ (sign.map (Value.int .u8) ++ ([fid]))) ++ (fsec.map (Value.int .u8) ++ ([left] ++ ([next]))) by simp [cAccount]]
  exact seg_el (by simp [hagree, hsign, hfsec]) (by rw [hfsec]; exact hj)
theorem cAccount_put_fsec (agree : List Int) (sign : List Int) (fid : Value) (fsec : List Int) (left : Value) (next : Value) (hagree : agree.length = 32) (hsign : sign.length = 32) (hfsec : fsec.length = 32) {j : Nat} (hj : j < 32) (z : Int) : (cAccount agree sign fid fsec left next).toArray.setIfInBounds (65 + j) (.int .u8 z) = (cAccount agree sign fid (fsec.set j z) left next).toArray := by
  rw [show (cAccount agree sign fid fsec left next) = (agree.map (Value.int .u8) ++ (sign.map (Value.int .u8) ++ ([fid]))) ++ (fsec.map (Value.int .u8) ++ ([left] ++ ([next]))) by simp [cAccount]]
  rw [show (cAccount agree sign fid (fsec.set j z) left next) = (agree.map (Value.int .u8) ++ (sign.map (Value.int .u8) ++ ([fid]))) ++ ((fsec.set j z).map (Value.int .u8) ++ ([left] ++ ([next]))) by simp [cAccount]]
  exact seg_put (by simp [hagree, hsign, hfsec]) (by rw [hfsec]; exact hj)
theorem cAccount_ext_left (agree : List Int) (sign : List Int) (fid : Value) (fsec : List Int) (left : Value) (next : Value) (hagree : agree.length = 32) (hsign : sign.length = 32) (hfsec : fsec.length = 32) : (cAccount agree sign fid fsec left next).toArray.extract 97 98 = ([left]).toArray := by
  rw [show (cAccount agree sign fid fsec left next) = (agree.map (Value.int .u8) ++ (sign.map (Value.int .u8) ++ ([fid] ++ (fsec.map (Value.int .u8))))) ++ ([left] ++ ([next])) by simp [cAccount]]
  exact seg_ext (by simp [hagree, hsign, hfsec]) (by simp [hagree, hsign, hfsec])
theorem cAccount_get_left (agree : List Int) (sign : List Int) (fid : Value) (fsec : List Int) (left : Value) (next : Value) (hagree : agree.length = 32) (hsign : sign.length = 32) (hfsec : fsec.length = 32) : (cAccount agree sign fid fsec left next).toArray[97]? = some left := by
  rw [show (cAccount agree sign fid fsec left next) = (agree.map (Value.int .u8) ++ (sign.map (Value.int .u8) ++ ([fid] ++ (fsec.map (Value.int .u8))))) ++ ([left] ++ ([next])) by simp [cAccount]]
  exact seg_get (by simp [hagree, hsign, hfsec])
theorem cAccount_set_left (agree : List Int) (sign : List Int) (fid : Value) (fsec : List Int) (left : Value) (next : Value) (z : Value) (hagree : agree.length = 32) (hsign : sign.length = 32) (hfsec : fsec.length = 32) : (cAccount agree sign fid fsec left next).toArray.setIfInBounds 97 z = (cAccount agree sign fid fsec z next).toArray := by
  rw [show (cAccount agree sign fid fsec left next) = (agree.map (Value.int .u8) ++ (sign.map (Value.int .u8) ++ ([fid] ++ (fsec.map (Value.int .u8))))) ++ ([left] ++ ([next])) by simp [cAccount]]
  rw [show (cAccount agree sign fid fsec z next) = (agree.map (Value.int .u8) ++ (sign.map (Value.int .u8) ++ ([fid] ++ (fsec.map (Value.int .u8))))) ++ ([z] ++ ([next])) by simp [cAccount]]
  exact seg_set (by simp [hagree, hsign, hfsec])
theorem cAccount_ext_next (agree : List Int) (sign : List Int) (fid : Value) (fsec : List Int) (left : Value) (next : Value) (hagree : agree.length = 32) (hsign : sign.length = 32) (hfsec : fsec.length = 32) : (cAccount agree sign fid fsec left next).toArray.extract 98 99 = ([next]).toArray := by
  rw [show (cAccount agree sign fid fsec left next) = (agree.map (Value.int .u8) ++ (sign.map (Value.int .u8) ++ ([fid] ++ (fsec.map (Value.int .u8) ++ ([left]))))) ++ ([next] ++ ([])) by simp [cAccount]]
  exact seg_ext (by simp [hagree, hsign, hfsec]) (by simp [hagree, hsign, hfsec])
theorem cAccount_get_next (agree : List Int) (sign : List Int) (fid : Value) (fsec : List Int) (left : Value) (next : Value) (hagree : agree.length = 32) (hsign : sign.length = 32) (hfsec : fsec.length = 32) : (cAccount agree sign fid fsec left next).toArray[98]? = some next := by
  rw [show (cAccount agree sign fid fsec left next) = (agree.map (Value.int .u8) ++ (sign.map (Value.int .u8) ++ ([fid] ++ (fsec.map (Value.int .u8) ++ ([left]))))) ++ ([next] ++ ([])) by simp [cAccount]]
  exact seg_get (by simp [hagree, hsign, hfsec])
theorem cAccount_set_next (agree : List Int) (sign : List Int) (fid : Value) (fsec : List Int) (left : Value) (next : Value) (z : Value) (hagree : agree.length = 32) (hsign : sign.length = 32) (hfsec : fsec.length = 32) : (cAccount agree sign fid fsec left next).toArray.setIfInBounds 98 z = (cAccount agree sign fid fsec left z).toArray := by
  rw [show (cAccount agree sign fid fsec left next) = (agree.map (Value.int .u8) ++ (sign.map (Value.int .u8) ++ ([fid] ++ (fsec.map (Value.int .u8) ++ ([left]))))) ++ ([next] ++ ([])) by simp [cAccount]]
  rw [show (cAccount agree sign fid fsec left z) = (agree.map (Value.int .u8) ++ (sign.map (Value.int .u8) ++ ([fid] ++ (fsec.map (Value.int .u8) ++ ([left]))))) ++ ([z] ++ ([])) by simp [cAccount]]
  exact seg_set (by simp [hagree, hsign, hfsec])
/-! ### Once: 33 cells -/
def cOnce (id : Value) (sec : List Int) : List Value := [id] ++ (sec.map (Value.int .u8))
theorem cOnce_length (id : Value) (sec : List Int) (hsec : sec.length = 32) : (cOnce id sec).length = 33 := by simp [cOnce, hsec]
theorem cOnce_one (id : Value) (sec : List Int) (oid : id.oneCell' = true) : ∀ u ∈ (cOnce id sec), u.oneCell' = true := by
  intro u hu
  simp only [cOnce, List.mem_append, List.mem_singleton, List.mem_map] at hu
  rcases hu with rfl | ⟨_, _, rfl⟩
  · exact oid
  · rfl
theorem cOnce_ext_id (id : Value) (sec : List Int) (hsec : sec.length = 32) : (cOnce id sec).toArray.extract 0 1 = ([id]).toArray := by
  rw [show (cOnce id sec) = ([]) ++ ([id] ++ (sec.map (Value.int .u8))) by simp [cOnce]]
  exact seg_ext (by simp [hsec]) (by simp [hsec])
theorem cOnce_get_id (id : Value) (sec : List Int) (hsec : sec.length = 32) : (cOnce id sec).toArray[0]? = some id := by
  rw [show (cOnce id sec) = ([]) ++ ([id] ++ (sec.map (Value.int .u8))) by simp [cOnce]]
  exact seg_get (by simp [hsec])
theorem cOnce_set_id (id : Value) (sec : List Int) (z : Value) (hsec : sec.length = 32) : (cOnce id sec).toArray.setIfInBounds 0 z = (cOnce z sec).toArray := by
  rw [show (cOnce id sec) = ([]) ++ ([id] ++ (sec.map (Value.int .u8))) by simp [cOnce]]
  rw [show (cOnce z sec) = ([]) ++ ([z] ++ (sec.map (Value.int .u8))) by simp [cOnce]]
  exact seg_set (by simp [hsec])
theorem cOnce_ext_sec (id : Value) (sec : List Int) (hsec : sec.length = 32) : (cOnce id sec).toArray.extract 1 33 = (sec.map (Value.int .u8)).toArray := by
  rw [show (cOnce id sec) = ([id]) ++ (sec.map (Value.int .u8) ++ ([])) by simp [cOnce]]
  exact seg_ext (by simp [hsec]) (by simp [hsec])
theorem cOnce_spl_sec (id : Value) (sec : List Int) (z : List Int) (hsec : sec.length = 32) (hz : z.length = 32) : spl (cOnce id sec).toArray 1 (z.map (Value.int .u8)) = (cOnce id z).toArray := by
  rw [show (cOnce id sec) = ([id]) ++ (sec.map (Value.int .u8) ++ ([])) by simp [cOnce]]
  rw [show (cOnce id z) = ([id]) ++ (z.map (Value.int .u8) ++ ([])) by simp [cOnce]]
  exact seg_spl (by simp [hsec]) (by simp [hsec, hz])
theorem cOnce_el_sec (id : Value) (sec : List Int) (hsec : sec.length = 32) {j : Nat} (hj : j < 32) : (cOnce id sec).toArray[1 + j]? = some (.int .u8 (el sec j)) := by
  rw [show (cOnce id sec) = ([id]) ++ (sec.map (Value.int .u8) ++ ([])) by simp [cOnce]]
  exact seg_el (by simp [hsec]) (by rw [hsec]; exact hj)
theorem cOnce_put_sec (id : Value) (sec : List Int) (hsec : sec.length = 32) {j : Nat} (hj : j < 32) (z : Int) : (cOnce id sec).toArray.setIfInBounds (1 + j) (.int .u8 z) = (cOnce id (sec.set j z)).toArray := by
  rw [show (cOnce id sec) = ([id]) ++ (sec.map (Value.int .u8) ++ ([])) by simp [cOnce]]
  rw [show (cOnce id (sec.set j z)) = ([id]) ++ ((sec.set j z).map (Value.int .u8) ++ ([])) by simp [cOnce]]
  exact seg_put (by simp [hsec]) (by rw [hsec]; exact hj)
end Go
namespace Go.Proofs.YtbhnfohoclcjdaaGreat
open Go.RowKit Go.Dr Go.Kd
/-- An account without one-time keys. -/
abbrev acC (a b c : List Int) : Array Value := (cAccount a b (.int .u16 0) c (.slice none 0 0) (.int .u16 1)).toArray
theorem foldl_shift (off : Nat) : ∀ (xs : List Value) (k : Nat) (base : Array Value), (xs.zipIdx (k + 1)).foldl (fun cs x => cs.setIfInBounds (off + x.2) x.1) base = (xs.zipIdx k).foldl (fun cs x => cs.setIfInBounds (off + 1 + x.2) x.1) base
  | [], _, _ => rfl
  | x :: xs, k, base => by
    rw [List.zipIdx_cons, List.zipIdx_cons, List.foldl_cons, List.foldl_cons, foldl_shift off xs (k + 1)]
    congr 2
    show off + (k + 1) = off + 1 + k
    omega
set_option maxRecDepth 100000 in
theorem acc_built {a b c : List Int} (ha : a.length = 32) (hb : b.length = 32) (hc : c.length = 32) :
    ((List.foldl (fun cs x => cs.setIfInBounds (64 + x.snd) x.fst) ((spl (spl Tryz.zeroCells73 0 (a.map (Value.int .u8))) 32 (b.map (Value.int .u8))).setIfInBounds 64 (.int .u16 0)) ((c.map (Value.int .u8)).zipIdx 1)).setIfInBounds 98 (.int .u16 1)) = acC a b c := by
  have hz : Tryz.zeroCells73 = (cAccount (zs 32) (zs 32) (.int .u16 0) (zs 32) (.slice none 0 0) (.int .u16 0)).toArray := by kernel_rfl
  have l0 : (zs 32).length = 32 := rfl
  rw [hz, cAccount_spl_agree _ _ _ _ _ _ _ l0 l0 l0 ha, cAccount_spl_sign _ _ _ _ _ _ _ ha l0 l0 hb, cAccount_set_fid _ _ _ _ _ _ _ ha hb l0, foldl_shift, foldl_spl _ _ _ (by rw [List.length_map, List.size_toArray, cAccount_length _ _ _ _ _ _ ha hb l0, hc]; omega), cAccount_spl_fsec _ _ _ _ _ _ _ ha hb l0 hc, cAccount_set_next _ _ _ _ _ _ _ ha hb hc]
structure Key32 (k : List Int) : Prop where
  len : k.length = 32
  byt : isBytes k
theorem key_makeT (T : List Tm) (t : Tm) : Key32 (makeT T t).2.1 := ⟨makeT_len _ _, byt_makeT⟩
section
variable {w : World}
/-- Any term of one part. -/
theorem fresh_k {lo tb : Nat} {T : List Tm} {k : List Int} (h : TabP lo tb w T) (hk : Key32 k) :
    Calls Tryz.prog 52 #[SU tb, .agg (ints .u8 k)] w fun e w' => ∃ a T', e = .returned (.agg (ints .u8 a)) ∧ Key32 a ∧ TabP lo tb w' T' ∧ FrP lo w w' :=
  (fresh_f h hk.len hk.byt).mono fun e w' ⟨h1, h2, h3⟩ => ⟨_, _, h1, key_makeT _ _, h2, h3⟩
theorem signer_k {lo tb : Nat} {T : List Tm} {k : List Int} (h : TabP lo tb w T) (hk : Key32 k) :
    Calls Tryz.prog 9 #[SU tb, .agg (ints .u8 k)] w fun e w' => ∃ a T', e = .returned (.agg (ints .u8 a)) ∧ Key32 a ∧ TabP lo tb w' T' ∧ FrP lo w w' :=
  (signer_f h hk.len hk.byt).mono fun e w' ⟨h1, h2, h3⟩ => ⟨_, _, h1, key_makeT _ _, h2, h3⟩
theorem public_k {lo tb : Nat} {T : List Tm} {k : List Int} (h : TabP lo tb w T) (hk : Key32 k) :
    Calls Tryz.prog 53 #[SU tb, .agg (ints .u8 k)] w fun e w' => ∃ a T', e = .returned (.agg (ints .u8 a)) ∧ Key32 a ∧ TabP lo tb w' T' ∧ FrP lo w w' :=
  (public_f h hk.len hk.byt).mono fun e w' ⟨h1, h2, h3⟩ => ⟨_, _, h1, key_makeT _ _, h2, h3⟩
set_option maxRecDepth 100000 in
set_option maxHeartbeats 2000000 in
theorem anew_f {lo tb : Nat} {T : List Tm} {a b c : List Int} (h : TabP lo tb w T) (ha : Key32 a) (hb : Key32 b) (hc : Key32 c) :
    Calls Tryz.prog 21 #[SU tb, .agg (ints .u8 a), .agg (ints .u8 b), .agg (ints .u8 c)] w fun e w' => ∃ x y z T', e = .returned (.agg (acC x y z)) ∧ Key32 x ∧ Key32 y ∧ Key32 z ∧ TabP lo tb w' T' ∧ FrP lo w w' := by
  have H := Lib.hid h
  have la := ha.len
  have lb := hb.len
  have lc := hc.len
  clear h
  go_enter Tryz.func21, Tryz.ntmps21
  go_upto_region 1 with (fail)
  refine named_world (A := fun X => OwB w [(w.heap.size + 1 + 1 + 1 + 1, .cells Tryz.zeroCells73 73), (w.heap.size + 1 + 1 + 1, .cells (ints .u8 c) 34), (w.heap.size + 1 + 1, .cells (ints .u8 b) 34), (w.heap.size + 1, .cells (ints .u8 a) 34), (w.heap.size, .cells #[.pointer (some ⟨tb, 0, none⟩)] 27)] X) (Q := fun X => Code.wp _ _ _ _ X) ((((((OwB.start w).allocN _ w.heap.size rfl).allocN _ (w.heap.size + 1) (by simp)).allocN _ (w.heap.size + 1 + 1) (by simp)).allocN _ (w.heap.size + 1 + 1 + 1) (by simp)).allocN _ (w.heap.size + 1 + 1 + 1 + 1) (by simp)) ?_
  intro V hV
  have HTV := Lib.hid (H.out.fr0 hV.fr)
  have HFV := Lib.hid (FrT.of (t := TT) (lo := lo) hV.fr)
  generalize w.heap.size + 1 + 1 + 1 + 1 = b8 at hV ⊢
  generalize w.heap.size + 1 + 1 + 1 = b7 at hV ⊢
  generalize w.heap.size + 1 + 1 = b6 at hV ⊢
  generalize w.heap.size + 1 = b5 at hV ⊢
  generalize w.heap.size = b4 at hV ⊢
  have l8 := hV.low 0 rfl
  have hV2 : OwB V.void _ V := hV.weak V.void_fr (Nat.zero_le _)
  have hlw : V.void.heap.size ≤ lo := Nat.zero_le _
  have f7 := hV.nth 1 rfl
  have f6 := hV.nth 2 rfl
  have f5 := hV.nth 3 rfl
  have f4 := hV.nth 4 rfl
  have t7 := World.at_lt f7
  have t6 := World.at_lt f6
  have t5 := World.at_lt f5
  have t4 := World.at_lt f4
  have HOV := Lib.hid hV2
  clear hV hV2
  refine drawn_begin 11 (fun w' => w'.blk b4 = some (.cells #[.pointer (some ⟨tb, 0, none⟩)] 27) ∧ w'.blk b5 = some (.cells (ints .u8 a) 34) ∧ w'.blk b6 = some (.cells (ints .u8 b) 34) ∧ w'.blk b7 = some (.cells (ints .u8 c) 34)) (by kernel_rfl) ?_
  refine drawn_reads (fuel := 6) [0, 1, 3, 4, 6, 7] rfl (by kernel_rfl) ⟨f4, f5, f6, f7⟩ ?_
  repeat (first | (refine rowK_step2 rfl rfl (fun K hK => ?_); go_wp2) | (refine rowK_step rfl (fun K hK => ?_); go_simp; refine hK _ ?_; clear hK K))
  refine rowK_nil ⟨fun w' e1 => ?_, ?_⟩
  · obtain ⟨e1, e2, e3, e4⟩ := e1
    clear f4 f5 f6 f7
    repeat (first | (refine rowWp_step2 rfl rfl (fun K hK => ?_); go_wp2) | (refine rowWp_step rfl (fun K hK => ?_); go_simp; refine hK _ ?_; clear hK K))
    exact rowWp_nil rfl
  refine drawn_next 2 (fuel := 5) rfl (by kernel_rfl) ?_
  intro K hK
  go_wp2_with fail
  refine (fresh_k (HTV.out.fr0 (Fr.refl [] _).drew) ha).mono ?_
  rintro e V1 ⟨k1, T1, rfl, hk1, hT, F⟩
  have hO := (HOV.out.drew).callT F (by simp [other, TT]) hlw
  clear f4 f5 f6 f7 t4 t5 t6 t7
  have f7 := hO.nth 1 rfl
  have f6 := hO.nth 2 rfl
  have f5 := hO.nth 3 rfl
  have f4 := hO.nth 4 rfl
  have t7 := World.at_lt f7
  have t6 := World.at_lt f6
  have t5 := World.at_lt f5
  have t4 := World.at_lt f4
  have HOV1 := Lib.hid hO
  have HTV1 := Lib.hid hT
  have HFV1 := Lib.hid (HFV.out.trans ((FrT.of (Fr.refl [] _).drew).trans F))
  clear hO hT F
  go_wp2_with fail
  refine ⟨⟨f4, f5, f6, f7⟩, ?_⟩
  refine drawn_next 5 (fuel := 4) rfl (by kernel_rfl) ?_
  intro K hK
  go_wp2_with fail
  refine (fresh_k HTV1.out hb).mono ?_
  rintro e V2 ⟨k2, T2, rfl, hk2, hT, F⟩
  have hO := (HOV1.out).callT F (by simp [other, TT]) hlw
  clear f4 f5 f6 f7 t4 t5 t6 t7
  have f7 := hO.nth 1 rfl
  have f6 := hO.nth 2 rfl
  have f5 := hO.nth 3 rfl
  have f4 := hO.nth 4 rfl
  have t7 := World.at_lt f7
  have t6 := World.at_lt f6
  have t5 := World.at_lt f5
  have t4 := World.at_lt f4
  have HOV2 := Lib.hid hO
  have HTV2 := Lib.hid hT
  have HFV2 := Lib.hid (HFV1.out.trans F)
  clear hO hT F
  go_wp2_with fail
  refine ⟨⟨f4, f5, f6, f7⟩, ?_⟩
  refine drawn_next 8 (fuel := 3) rfl (by kernel_rfl) ?_
  intro K hK
  go_wp2_with fail
  refine (fresh_k HTV2.out hc).mono ?_
  rintro e V3 ⟨k3, T3, rfl, hk3, hT, F⟩
  have hO := (HOV2.out).callT F (by simp [other, TT]) hlw
  clear f4 f5 f6 f7 t4 t5 t6 t7
  have f7 := hO.nth 1 rfl
  have f6 := hO.nth 2 rfl
  have f5 := hO.nth 3 rfl
  have f4 := hO.nth 4 rfl
  have t7 := World.at_lt f7
  have t6 := World.at_lt f6
  have t5 := World.at_lt f5
  have t4 := World.at_lt f4
  have HOV3 := Lib.hid hO
  have HTV3 := Lib.hid hT
  have HFV3 := Lib.hid (HFV2.out.trans F)
  clear hO hT F
  go_wp2_with fail
  refine ⟨⟨f4, f5, f6, f7⟩, ?_⟩
  have lk1 := hk1.len
  have lk2 := hk2.len
  have lk3 := hk3.len
  have z54 : Tryz.zeroCells73.size = 99 := by kernel_rfl
  have lk3b : k3.length + 1 = 33 := by omega
  obtain ⟨B, hB⟩ : ∃ B, B = acC k1 k2 k3 := ⟨_, rfl⟩
  have eB : ((List.foldl (fun cs x => cs.setIfInBounds (64 + x.snd) x.fst) ((spl (spl Tryz.zeroCells73 0 (k1.map (Value.int .u8))) 32 (k2.map (Value.int .u8))).setIfInBounds 64 (.int .u16 0)) ((k3.map (Value.int .u8)).zipIdx 1)).setIfInBounds 98 (.int .u16 1)) = B := by rw [hB]; exact acc_built lk1 lk2 lk3
  have szB : B.size = 99 := by rw [hB, List.size_toArray, cAccount_length _ _ _ _ _ _ lk1 lk2 lk3]
  have oneB : ones B.toList = true := by rw [hB]; exact List.all_eq_true.2 (cAccount_one _ _ _ _ _ _ rfl rfl rfl)
  have szF : (List.foldl (fun cs x => cs.setIfInBounds (64 + x.snd) x.fst) ((spl (spl Tryz.zeroCells73 0 (k1.map (Value.int .u8))) 32 (k2.map (Value.int .u8))).setIfInBounds 64 (.int .u16 0)) ((k3.map (Value.int .u8)).zipIdx 1)).size = 99 := by
    have := congrArg Array.size eB
    rw [Array.size_setIfInBounds] at this
    exact this.trans szB
  have HB := Lib.hid hB
  clear hB
  refine drawn_reads (fuel := 1) [9, 10] rfl (by kernel_rfl) ⟨f4, f5, f6, f7⟩ ?_
  repeat (first | (refine rowK_step2 rfl rfl (fun K hK => ?_); go_wp2) | (refine rowK_step rfl (fun K hK => ?_); go_simp; refine hK _ ?_; clear hK K))
  refine rowK_nil ⟨fun w' e1 => ?_, ?_⟩
  · clear f4 f5 f6 f7 e1
    repeat (first | (refine rowWp_step2 rfl rfl (fun K hK => ?_); go_wp2) | (refine rowWp_step rfl (fun K hK => ?_); go_simp; refine hK _ ?_; clear hK K))
    exact rowWp_nil rfl
  have f8 := HOV3.out.nth 0 rfl
  have t8 := World.at_lt f8
  refine drawn_end rfl (by kernel_rfl) ?_
  intro K hK
  go_wp2_with fail
  refine ret_cell rfl rfl rfl ?_
  go_simp
  refine ⟨by kernel_rfl, k1, k2, k3, HB.out, hk1, hk2, hk3, ?_, HFV3.out.put _ l8⟩
  exact ⟨T3, HTV3.out.put f8 (by decide) _⟩
end
end Go.Proofs.YtbhnfohoclcjdaaGreat
namespace Go.Proofs.YtbhnfohoclcjdaaGreat
open Go.RowKit Go.Dr Go.Kd
theorem lay_full {k : List Int} (h : k.length = 32) : lay (zs 32) 0 k = k := by
  unfold lay
  rw [List.take_zero, List.nil_append, h, List.drop_of_length_le (by decide), List.append_nil]
section
variable {w : World}
set_option maxRecDepth 100000 in
set_option maxHeartbeats 2000000 in
theorem apublic_f {lo tb : Nat} {T : List Tm} {a b c : List Int} (h : TabP lo tb w T) (ha : Key32 a) (hb : Key32 b) (hc : Key32 c) :
    Calls Tryz.prog 22 #[SU tb, .agg (acC a b c)] w fun e w' => ∃ x y T', e = .returned (.tuple #[.agg (ints .u8 x), .agg (ints .u8 y)]) ∧ Key32 x ∧ Key32 y ∧ TabP lo tb w' T' ∧ FrP lo w w' := by
  have H := Lib.hid h
  obtain ⟨xs, hxs⟩ : ∃ xs, xs = acC a b c := ⟨_, rfl⟩
  have hsz : xs.size = 99 := by rw [hxs, List.size_toArray, cAccount_length _ _ _ _ _ _ ha.len hb.len hc.len]
  have x0 : xs.extract 0 32 = ints .u8 a := by rw [hxs]; exact cAccount_ext_agree _ _ _ _ _ _ ha.len hb.len hc.len
  have x1 : xs.extract 32 64 = ints .u8 b := by rw [hxs]; exact cAccount_ext_sign _ _ _ _ _ _ ha.len hb.len hc.len
  have HK1 := Lib.hid ha
  have HK2 := Lib.hid hb
  rw [← hxs]
  clear h hxs ha hb hc
  go_enter Tryz.func22, Tryz.ntmps22
  go_upto_region 1 with (fail)
  refine named_world (A := fun X => OwB w [(w.heap.size + 1 + 1 + 1, .cells (ints .u8 (zs 32)) 34), (w.heap.size + 1 + 1, .cells (ints .u8 (zs 32)) 34), (w.heap.size + 1, .cells xs 73), (w.heap.size, .cells #[.pointer (some ⟨tb, 0, none⟩)] 27)] X) (Q := fun X => Code.wp _ _ _ _ X) (((((OwB.start w).allocN _ w.heap.size rfl).allocN _ (w.heap.size + 1) (by simp)).allocN _ (w.heap.size + 1 + 1) (by simp)).allocN _ (w.heap.size + 1 + 1 + 1) (by simp)) ?_
  intro V hV
  have HTV := Lib.hid (H.out.fr0 hV.fr)
  have HFV := Lib.hid (FrT.of (t := TT) (lo := lo) hV.fr)
  generalize w.heap.size + 1 + 1 + 1 = b5 at hV ⊢
  generalize w.heap.size + 1 + 1 = b4 at hV ⊢
  generalize w.heap.size + 1 = b3 at hV ⊢
  generalize w.heap.size = b2 at hV ⊢
  have l5 := hV.low 0 rfl
  have l4 := hV.low 1 rfl
  have n45 : b4 ≠ b5 := hV.ne 1 0 rfl rfl (by decide)
  have hV2 : OwB V.void _ V := hV.weak V.void_fr (Nat.zero_le _)
  have hlw : V.void.heap.size ≤ lo := Nat.zero_le _
  have f3 := hV.nth 2 rfl
  have f2 := hV.nth 3 rfl
  have t3 := World.at_lt f3
  have t2 := World.at_lt f2
  have HOV := Lib.hid hV2
  clear hV hV2
  refine drawn_begin 9 (fun w' => w'.blk b2 = some (.cells #[.pointer (some ⟨tb, 0, none⟩)] 27) ∧ w'.blk b3 = some (.cells xs 73)) (by kernel_rfl) ?_
  refine drawn_reads (fuel := 4) [0, 1, 2, 4, 5, 6] rfl (by kernel_rfl) ⟨f2, f3⟩ ?_
  repeat (first | (refine rowK_step2 rfl rfl (fun K hK => ?_); go_wp2) | (refine rowK_step rfl (fun K hK => ?_); go_simp; refine hK _ ?_; clear hK K))
  refine rowK_nil ⟨fun w' e1 => ?_, ?_⟩
  · obtain ⟨e1, e2⟩ := e1
    clear f2 f3
    repeat (first | (refine rowWp_step2 rfl rfl (fun K hK => ?_); go_wp2) | (refine rowWp_step rfl (fun K hK => ?_); go_simp; refine hK _ ?_; clear hK K))
    exact rowWp_nil rfl
  refine drawn_next 3 (fuel := 3) rfl (by kernel_rfl) ?_
  intro K hK
  go_wp2_with fail
  refine (public_k (HTV.out.fr0 (Fr.refl [] _).drew) HK1.out).mono ?_
  rintro e V1 ⟨k1, T1, rfl, hk1, hT, F⟩
  have hO := (HOV.out.drew).callT F (by simp [other, TT]) hlw
  clear f2 f3 t2 t3
  have f2 := hO.nth 3 rfl
  have f3 := hO.nth 2 rfl
  have t2 := World.at_lt f2
  have t3 := World.at_lt f3
  have HOV1 := Lib.hid hO
  have HTV1 := Lib.hid hT
  have HFV1 := Lib.hid (HFV.out.trans ((FrT.of (Fr.refl [] _).drew).trans F))
  clear hO hT F
  go_wp2_with fail
  refine ⟨⟨f2, f3⟩, ?_⟩
  refine drawn_next 7 (fuel := 2) rfl (by kernel_rfl) ?_
  intro K hK
  go_wp2_with fail
  refine (signer_k HTV1.out HK2.out).mono ?_
  rintro e V2 ⟨k2, T2, rfl, hk2, hT, F⟩
  have hO := (HOV1.out).callT F (by simp [other, TT]) hlw
  clear f2 f3 t2 t3
  have f2 := hO.nth 3 rfl
  have f3 := hO.nth 2 rfl
  have t2 := World.at_lt f2
  have t3 := World.at_lt f3
  have HOV2 := Lib.hid hO
  have HTV2 := Lib.hid hT
  have HFV2 := Lib.hid (HFV1.out.trans F)
  clear hO hT F
  go_wp2_with fail
  refine ⟨⟨f2, f3⟩, ?_⟩
  refine drawn_next 8 (fuel := 1) rfl (by kernel_rfl) ?_
  intro K hK
  have f4 := HOV2.out.nth 1 rfl
  have t4 := World.at_lt f4
  have f5 := HOV2.out.nth 0 rfl
  have t5 := World.at_lt f5
  have lk1 := hk1.len
  have lk2 := hk2.len
  have y1 : lay (zs 32) 0 k1 = k1 := lay_full lk1
  have y2 : lay (zs 32) 0 k2 = k2 := lay_full lk2
  have s1 : (ints .u8 k1).size = 32 := by rw [size_ints, lk1]
  have s2 : (ints .u8 k2).size = 32 := by rw [size_ints, lk2]
  go_wp2_with fail
  have hO := HOV2.out.set 1 (.cells (ints .u8 k1) 34) rfl
  refine ⟨⟨hO.nth 3 rfl, hO.nth 2 rfl⟩, ?_⟩
  generalize hV3 : V2.put b4 (Obj.cells (ints .u8 k1) 34) = V3 at hO ⊢
  have HTV3 : Hid (TabP lo tb V3 T2) := Lib.hid (by rw [← hV3]; exact HTV2.out.put f4 (by decide) _)
  have HFV3 : Hid (FrT TT lo w V3) := Lib.hid (by rw [← hV3]; exact HFV2.out.put _ l4)
  clear f2 f3 t2 t3 f4 t4 f5 t5 hV3
  have f4 := hO.nth 1 rfl
  have t4 := World.at_lt f4
  have f5 := hO.nth 0 rfl
  have t5 := World.at_lt f5
  refine drawn_end rfl (by kernel_rfl) ?_
  intro K hK
  go_wp2_with fail
  have hO4 := hO.set 0 (.cells (ints .u8 k2) 34) rfl
  have g4 := hO4.nth 1 rfl
  have g5 := hO4.nth 0 rfl
  clear f4 t4 f5 t5
  refine ret_cell2 rfl rfl rfl rfl ?_
  go_simp
  refine ⟨by kernel_rfl, k1, k2, ⟨rfl, rfl⟩, hk1, hk2, ⟨T2, ?_⟩, HFV3.out.put _ l5⟩
  exact HTV3.out.put (hO.nth 0 rfl) (by decide) _
end
end Go.Proofs.YtbhnfohoclcjdaaGreat
namespace Go
theorem World.freeze_at {w : World} {b : Nat} {C : Array Value} {e : TypeId} (k : Nat) (h : w.blk b = some (.cells C e)) : w.freeze ⟨b, k, none⟩ 1 = w.put b (.cells C e (k, k + 1)) := by
  unfold World.freeze World.put
  rw [if_neg (by decide)]
  congr 1
  apply Array.ext
  · simp
  · intro i h1 h2
    have hb := Array.getElem?_eq_some_iff.1 h
    rw [Array.getElem_modify, Array.getElem_setIfInBounds]
    by_cases hi : b = i
    · subst hi
      rw [if_pos rfl, if_pos rfl, hb.2]
      rfl
    · rw [if_neg hi, if_neg hi]
/-- '[]byte("..")' of a constant, its row laid anywhere. -/
theorem run_convert_mark {P : Program} {w : World} {b : Nat} {C : Array Value} {t e : TypeId} (n c : Nat) (h : w.blk b = some (.cells C e)) (ht : P.underlying t = some (.slice e)) (he : P.underlying e = some (.int .u8)) :
    (convert t t (.slice (some ⟨b, 0, none⟩) n c)).run P w = .ok (.slice (some ⟨b, 0, none⟩) n c) (w.put b (.cells C e (C.size, C.size + 1))) := by
  have hsh : w.shape? b = some (e, C.size) := by
    unfold World.shape?
    rw [show w.heap[b]? = some (.cells C e) from h]
  simp [convert, run_underlying ht, run_underlying he, markStringish, hsh]
  exact World.freeze_at _ h
end Go
namespace Go.Dr
section
variable {P : Program} {ops : Array Oper} {Q : Exit → Act → World → Prop} {S : World → Prop} {N : Nat}
theorem drawn_wpOp {fuel : Nat} {listed : Array Bool} {a : Act} {w : World} (i : Nat) (o : Oper) (ho : ops[i]? = some o)
    (h : ∀ K : Act → World → Prop, (∀ a' w', S w' ∧ wpAnyS P .any ops (NoP Q) S N fuel (listed.setIfInBounds i true) a' w' → K a' w') →
      wpList P ops (Exit.then K fun e a w => e = .outgrown ∧ Q e a w) [o] a w) :
    wpOp P ops (NoP Q) i (fun a' w' => (N ≤ i ∨ S w') ∧ wpAnyS P .any ops (NoP Q) S N fuel (listed.setIfInBounds i true) a' w') a w := by
  have h1 : wpList P ops (Exit.then (fun a' w' => (N ≤ i ∨ S w') ∧ wpAnyS P .any ops (NoP Q) S N fuel (listed.setIfInBounds i true) a' w') (NoP Q)) [o] a w :=
    wpList_imp (fun e a w h => by
      cases e <;> first | exact h | exact h.2 | (exact absurd h.1 (by simp))) _ _ _ (h (fun a' w' => (N ≤ i ∨ S w') ∧ wpAnyS P .any ops (NoP Q) S N fuel (listed.setIfInBounds i true) a' w') (fun _ _ h => ⟨.inr h.1, h.2⟩))
  unfold wpOp
  simp only [ho]
  unfold wpList at h1
  split
  · rename_i hw
    rw [if_pos hw] at h1
    rcases h1 with h1 | ⟨ha, a', w', hl⟩
    · left
      revert h1
      unfold Oper.wp
      generalize (execOp a.eval o).run P w = r
      intro h1
      cases r with
      | ok n w' =>
        cases n <;> simp only [Oper.upon] at h1 ⊢
        case value v => exact h1
        case skip => exact h1
        case defer d => exact h1
        case enter f args =>
          refine Calls.mono h1 (fun e w'' he => ?_)
          cases e <;> exact he
        case row row args => exact Rows.mono h1 (fun v w'' he => he)
      | halt x w' => cases x <;> simp only [Oper.upon] at h1 ⊢ <;> exact h1
    · exact .inr ⟨ha, a', w', hl⟩
  · rename_i hw
    rw [if_neg hw] at h1
    exact h1
/-- Three may come up now. -/
theorem drawn_next3 (i j l : Nat) {o u v : Oper} {fuel : Nat} {listed : Array Bool} {a : Act} {w : World} (ho : ops[i]? = some o) (hu : ops[j]? = some u) (hv : ops[l]? = some v) (hr : Region.ready .any ops listed = [i, j, l])
    (h : ∀ K : Act → World → Prop, (∀ a' w', S w' ∧ wpAnyS P .any ops (NoP Q) S N fuel (listed.setIfInBounds i true) a' w' → K a' w') →
      wpList P ops (Exit.then K fun e a w => e = .outgrown ∧ Q e a w) [o] a w)
    (k : ∀ K : Act → World → Prop, (∀ a' w', S w' ∧ wpAnyS P .any ops (NoP Q) S N fuel (listed.setIfInBounds j true) a' w' → K a' w') →
      wpList P ops (Exit.then K fun e a w => e = .outgrown ∧ Q e a w) [u] a w)
    (m : ∀ K : Act → World → Prop, (∀ a' w', S w' ∧ wpAnyS P .any ops (NoP Q) S N fuel (listed.setIfInBounds l true) a' w' → K a' w') →
      wpList P ops (Exit.then K fun e a w => e = .outgrown ∧ Q e a w) [v] a w) : wpAnyS P .any ops (NoP Q) S N (fuel + 1) listed a w := by
  refine ⟨fun h0 => (by rw [h0] at hr; cases hr), fun t hl => ?_⟩
  rw [hr] at hl
  rcases List.mem_cons.1 hl with rfl | hl
  · exact drawn_wpOp _ _ ho h
  rcases List.mem_cons.1 hl with rfl | hl
  · exact drawn_wpOp _ _ hu k
  rcases List.mem_cons.1 hl with rfl | hl
  · exact drawn_wpOp _ _ hv m
  · cases hl
end
end Go.Dr
namespace Go.Proofs.YtbhnfohoclcjdaaGreat
open Go.RowKit Go.Dr Go.Kd
theorem sl_ext {V : World} {b off : Nat} {xs : Array Value} {T : TypeId} {l : List Int} (hb : V.blk b = some (.cells xs T)) (hs : off + 32 ≤ xs.size) (hx : xs.extract off (off + 32) = ints .u8 l) : Sl .u8 V (some ⟨b, off, none⟩) 32 32 l :=
  Sl.of hb hs (by rw [hx]; simp [ints]) (Nat.le_refl 32)
/-- The six parts of a bundle's document. -/
theorem sll_six {V : World} {b0 bl bd bn bx : Nat} {xs : Array Value} {T1 T2 T3 T4 T5 : TypeId} {d i : Nat} {ag sg on : List Int} (h0 : V.blk b0 = some (.cells xs T1)) (hsz : xs.size = 162)
    (x1 : xs.extract 1 33 = ints .u8 ag) (x2 : xs.extract 33 65 = ints .u8 sg) (x4 : xs.extract 66 98 = ints .u8 on)
    (hl : V.blk bl = some (.cells #[.int .u8 111, .int .u8 110, .int .u8 99, .int .u8 101] T2 (4, 5))) (hd : V.blk bd = some (.cells #[.int .u8 (d : Int)] T3)) (hd1 : d < 256) (hn : V.blk bn = some (.cells (ints .u8 (putB i 2)) T4))
    (hx : V.blk bx = some (.cells #[.slice (some ⟨bl, 0, none⟩) 4 4, .slice (some ⟨bd, 0, none⟩) 1 1, .slice (some ⟨b0, 1, none⟩) 32 32, .slice (some ⟨b0, 33, none⟩) 32 32, .slice (some ⟨bn, 0, none⟩) 2 2, .slice (some ⟨b0, 66, none⟩) 32 32] T5)) :
    Sll V (some ⟨bx, 0, none⟩) 6 6 [[111, 110, 99, 101], putB d 1, ag, sg, putB i 2, on] := by
  have e1 : putB d 1 = [(d : Int)] := by simp [putB]; omega
  refine Sll.of (vs := [.slice (some ⟨bl, 0, none⟩) 4 4, .slice (some ⟨bd, 0, none⟩) 1 1, .slice (some ⟨b0, 1, none⟩) 32 32, .slice (some ⟨b0, 33, none⟩) 32 32, .slice (some ⟨bn, 0, none⟩) 2 2, .slice (some ⟨b0, 66, none⟩) 32 32]) ⟨rfl, Nat.le_refl 6, .inr ⟨bx, 0, _, T5, (0, 0), rfl, hx, by simp, by simp⟩, by simp, fun a ha => ⟨_, _, (by simpa using ha.symm)⟩⟩ ?_
  rw [e1]
  exact .cons (Sl.whole (A := [111, 110, 99, 101]) hl rfl) (.cons (Sl.whole (A := [(d : Int)]) hd rfl) (.cons (sl_ext h0 (by omega) x1) (.cons (sl_ext h0 (by omega) x2) (.cons (Sl.whole hn (putB_len _ _)) (.cons (sl_ext h0 (by omega) x4) .nil)))))
end Go.Proofs.YtbhnfohoclcjdaaGreat
