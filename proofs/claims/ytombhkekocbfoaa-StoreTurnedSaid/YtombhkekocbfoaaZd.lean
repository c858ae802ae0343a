/- Joined: GnE. -/
import Derived.Test.YtombhkekocbfoaaZc
set_option linter.unusedVariables false
set_option linter.unusedSimpArgs false
namespace Go
open Go.Dr
/-! ### Vouch: 65 cells -/
def cVouch (notary : Value) (sig : List Int) : List Value := [notary] ++ (sig.map (Value.int .u8))
theorem cVouch_length (notary : Value) (sig : List Int) (hsig : sig.length = 64) : (cVouch notary sig).length = 65 := by simp [cVouch, hsig]
theorem cVouch_one (notary : Value) (sig : List Int) (onotary : notary.oneCell' = true) : ∀ u ∈ (cVouch notary sig), u.oneCell' = true := by
  intro u hu
  simp only [cVouch, List.mem_append, List.mem_singleton, List.mem_map] at hu
  rcases hu with rfl | ⟨_, _, rfl⟩
  · exact onotary
  · rfl
theorem cVouch_ext_notary (notary : Value) (sig : List Int) (hsig : sig.length = 64) : (cVouch notary sig).toArray.extract 0 1 = ([notary]).toArray := by
  rw [show (cVouch notary sig) = ([]) ++ ([notary] ++ (sig.map (Value.int .u8))) by simp [cVouch]]
  exact seg_ext (by simp [hsig]) (by simp [hsig])
theorem cVouch_get_notary (notary : Value) (sig : List Int) (hsig : sig.length = 64) : (cVouch notary sig).toArray[0]? = some notary := by
  rw [show (cVouch notary sig) = ([]) ++ ([notary] ++ (sig.map (Value.int .u8))) by simp [cVouch]]
  exact seg_get (by simp [hsig])
theorem cVouch_set_notary (notary : Value) (sig : List Int) (z : Value) (hsig : sig.length = 64) : (cVouch notary sig).toArray.setIfInBounds 0 z = (cVouch z sig).toArray := by
  rw [show (cVouch notary sig) = ([]) ++ ([notary] ++ (sig.map (Value.int .u8))) by simp [cVouch]]
  rw [show (cVouch z sig) = ([]) ++ ([z] ++ (sig.map (Value.int .u8))) by simp [cVouch]]
  exact seg_set (by simp [hsig])
theorem cVouch_ext_sig (notary : Value) (sig : List Int) (hsig : sig.length = 64) : (cVouch notary sig).toArray.extract 1 65 = (sig.map (Value.int .u8)).toArray := by
  rw [show (cVouch notary sig) = ([notary]) ++ (sig.map (Value.int .u8) ++ ([])) by simp [cVouch]]
  exact seg_ext (by simp [hsig]) (by simp [hsig])
theorem cVouch_spl_sig (notary : Value) (sig : List Int) (z : List Int) (hsig : sig.length = 64) (hz : z.length = 64) : spl (cVouch notary sig).toArray 1 (z.map (Value.int .u8)) = (cVouch notary z).toArray := by
  rw [show (cVouch notary sig) = ([notary]) ++ (sig.map (Value.int .u8) ++ ([])) by simp [cVouch]]
  rw [show (cVouch notary z) = ([notary]) ++ (z.map (Value.int .u8) ++ ([])) by simp [cVouch]]
  exact seg_spl (by simp [hsig]) (by simp [hsig, hz])
theorem cVouch_el_sig (notary : Value) (sig : List Int) (hsig : sig.length = 64) {j : Nat} (hj : j < 64) : (cVouch notary sig).toArray[1 + j]? = some (.int .u8 (el sig j)) := by
  rw [show (cVouch notary sig) = ([notary]) ++ (sig.map (Value.int .u8) ++ ([])) by simp [cVouch]]
  exact seg_el (by simp [hsig]) (by rw [hsig]; exact hj)
theorem cVouch_put_sig (notary : Value) (sig : List Int) (hsig : sig.length = 64) {j : Nat} (hj : j < 64) (z : Int) : (cVouch notary sig).toArray.setIfInBounds (1 + j) (.int .u8 z) = (cVouch notary (sig.set j z)).toArray := by
  rw [show (cVouch notary sig) = ([notary]) ++ (sig.map (Value.int .u8) ++ ([])) by simp [cVouch]]
  rw [show (cVouch notary (sig.set j z)) = ([notary]) ++ ((sig.set j z).map (Value.int .u8) ++ ([])) by simp [cVouch]]
  exact seg_put (by simp [hsig]) (by rw [hsig]; exact hj)
/-! ### Object: 101 cells -/
def cObject (server : Value) (n : Value) (key : List Int) (frm : Value) (til : Value) (sig : List Int) (vs : Value) : List Value := [server] ++ ([n] ++ (key.map (Value.int .u8) ++ ([frm] ++ ([til] ++ (sig.map (Value.int .u8) ++ ([vs]))))))
theorem cObject_length (server : Value) (n : Value) (key : List Int) (frm : Value) (til : Value) (sig : List Int) (vs : Value) (hkey : key.length = 32) (hsig : sig.length = 64) : (cObject server n key frm til sig vs).length = 101 := by simp [cObject, hkey, hsig]
theorem cObject_one (server : Value) (n : Value) (key : List Int) (frm : Value) (til : Value) (sig : List Int) (vs : Value) (oserver : server.oneCell' = true) (on : n.oneCell' = true) (ofrm : frm.oneCell' = true) (otil : til.oneCell' = true) (ovs : vs.oneCell' = true) : ∀ u ∈ (cObject server n key frm til sig vs), u.oneCell' = true := by
  intro u hu
  simp only [cObject, List.mem_append, List.mem_singleton, List.mem_map] at hu
  rcases hu with rfl | rfl | ⟨_, _, rfl⟩ | rfl | rfl | ⟨_, _, rfl⟩ | rfl
  · exact oserver
  · exact on
  · rfl
  · exact ofrm
  · exact otil
  · rfl
  · exact ovs
theorem cObject_ext_server (server : Value) (n : Value) (key : List Int) (frm : Value) (til : Value) (sig : List Int) (vs : Value) (hkey : key.length = 32) (hsig : sig.length = 64) : (cObject server n key frm til sig vs).toArray.extract 0 1 = ([server]).toArray := by
  rw [show (cObject server n key frm til sig vs) = ([]) ++ ([server] ++ ([n] ++ (key.map (Value.int .u8) ++ ([frm] ++ ([til] ++ (sig.map (Value.int .u8) ++ ([vs]))))))) by simp [cObject]]
  exact seg_ext (by simp [hkey, hsig]) (by simp [hkey, hsig])
theorem cObject_get_server (server : Value) (n : Value) (key : List Int) (frm : Value) (til : Value) (sig : List Int) (vs : Value) (hkey : key.length = 32) (hsig : sig.length = 64) : (cObject server n key frm til sig vs).toArray[0]? = some server := by
  rw [show (cObject server n key frm til sig vs) = ([]) ++ ([server] ++ ([n] ++ (key.map (Value.int .u8) ++ ([frm] ++ ([til] ++ (sig.map (Value.int .u8) ++ ([vs]))))))) by simp [cObject]]
  exact seg_get (by simp [hkey, hsig])
theorem cObject_set_server (server : Value) (n : Value) (key : List Int) (frm : Value) (til : Value) (sig : List Int) (vs : Value) (z : Value) (hkey : key.length = 32) (hsig : sig.length = 64) : (cObject server n key frm til sig vs).toArray.setIfInBounds 0 z = (cObject z n key frm til sig vs).toArray := by
  rw [show (cObject server n key frm til sig vs) = ([]) ++ ([server] ++ ([n] ++ (key.map (Value.int .u8) ++ ([frm] ++ ([til] ++ (sig.map (Value.int .u8) ++ ([vs]))))))) by simp [cObject]]
  rw [show (cObject z n key frm til sig vs) = ([]) ++ ([z] ++ ([n] ++ (key.map (Value.int .u8) ++ ([frm] ++ ([til] ++ (sig.map (Value.int .u8) ++ ([vs]))))))) by simp [cObject]]
  exact seg_set (by simp [hkey, hsig])
theorem cObject_ext_n (server : Value) (n : Value) (key : List Int) (frm : Value) (til : Value) (sig : List Int) (vs : Value) (hkey : key.length = 32) (hsig : sig.length = 64) : (cObject server n key frm til sig vs).toArray.extract 1 2 = ([n]).toArray := by
  rw [show (cObject server n key frm til sig vs) = ([server]) ++ ([n] ++ (key.map (Value.int .u8) ++ ([frm] ++ ([til] ++ (sig.map (Value.int .u8) ++ ([vs])))))) by simp [cObject]]
  exact seg_ext (by simp [hkey, hsig]) (by simp [hkey, hsig])
theorem cObject_get_n (server : Value) (n : Value) (key : List Int) (frm : Value) (til : Value) (sig : List Int) (vs : Value) (hkey : key.length = 32) (hsig : sig.length = 64) : (cObject server n key frm til sig vs).toArray[1]? = some n := by
  rw [show (cObject server n key frm til sig vs) = ([server]) ++ ([n] ++ (key.map (Value.int .u8) ++ ([frm] ++ ([til] ++ (sig.map (Value.int .u8) ++ ([vs])))))) by simp [cObject]]
  exact seg_get (by simp [hkey, hsig])
theorem cObject_set_n (server : Value) (n : Value) (key : List Int) (frm : Value) (til : Value) (sig : List Int) (vs : Value) (z : Value) (hkey : key.length = 32) (hsig : sig.length = 64) : (cObject server n key frm til sig vs).toArray.setIfInBounds 1 z = (cObject server z key frm til sig vs).toArray := by
  rw [show (cObject server n key frm til sig vs) = ([server]) ++ ([n] ++ (key.map (Value.int .u8) ++ ([frm] ++ ([til] ++ (sig.map (Value.int .u8) ++ ([vs])))))) by simp [cObject]]
  rw [show (cObject server z key frm til sig vs) = ([server]) ++ ([z] ++ (key.map (Value.int .u8) ++ ([frm] ++ ([til] ++ (sig.map (Value.int .u8) ++ ([vs])))))) by simp [cObject]]
  exact seg_set (by simp [hkey, hsig])
theorem cObject_ext_key (server : Value) (n : Value) (key : List Int) (frm : Value) (til : Value) (sig : List Int) (vs : Value) (hkey : key.length = 32) (hsig : sig.length = 64) : (cObject server n key frm til sig vs).toArray.extract 2 34 = (key.map (Value.int .u8)).toArray := by
  rw [show (cObject server n key frm til sig vs) = ([server] ++ ([n])) ++ (key.map (Value.int .u8) ++ ([frm] ++ ([til] ++ (sig.map (Value.int .u8) ++ ([vs]))))) by simp [cObject]]
  exact seg_ext (by simp [hkey, hsig]) (by simp [hkey, hsig])
theorem cObject_spl_key (server : Value) (n : Value) (key : List Int) (frm : Value) (til : Value) (sig : List Int) (vs : Value) (z : List Int) (hkey : key.length = 32) (hsig : sig.length = 64) (hz : z.length = 32) : spl (cObject server n key frm til sig vs).toArray 2 (z.map (Value.int .u8)) = (cObject server n z frm til sig vs).toArray := by
  rw [show (cObject server n key frm til sig vs) = ([server] ++ ([n])) ++ (key.map (Value.int .u8) ++ ([frm] ++ ([til] ++ (sig.map (Value.int .u8) ++ ([vs]))))) by simp [cObject]]
  rw [show (cObject server n z frm til sig vs) = ([server] ++ ([n])) ++ (z.map (Value.int .u8) ++ ([frm] ++ ([til] ++ (sig.map (Value.int .u8) ++ ([vs]))))) by simp [cObject]]
  exact seg_spl (by simp [hkey, hsig]) (by simp [hkey, hz])
theorem cObject_el_key (server : Value) (n : Value) (key : List Int) (frm : Value) (til : Value) (sig : List Int) (vs : Value) (hkey : key.length = 32) (hsig : sig.length = 64) {j : Nat} (hj : j < 32) : (cObject server n key frm til sig vs).toArray[2 + j]? = some (.int .u8 (el key j)) := by
  rw [show (cObject server n key frm til sig vs) = ([server] ++ ([n])) ++ (key.map (Value.int .u8) ++ ([frm] ++ ([til] ++ (sig.map (Value.int .u8) ++ ([vs]))))) by simp [cObject]]
  exact seg_el (by simp [hkey, hsig]) (by rw [hkey]; exact hj)
theorem cObject_put_key (server : Value) (n : Value) (key : List Int) (frm : Value) (til : Value) (sig : List Int) (vs : Value) (hkey : key.length = 32) (hsig : sig.length = 64) {j : Nat} (hj : j < 32) (z : Int) : (cObject server n key frm til sig vs).toArray.setIfInBounds (2 + j) (.int .u8 z) = (cObject server n (key.set j z) frm til sig vs).toArray := by
  rw [show (cObject server n key frm til sig vs) = ([server] ++ ([n])) ++ (key.map (Value.int .u8) ++ ([frm] ++ ([til] ++ (sig.map (Value.int .u8) ++ ([vs]))))) by simp [cObject]]
  rw [show (cObject server n (key.set j z) frm til sig vs) = ([server] ++ ([n])) ++ ((key.set j z).map (Value.int .u8) ++ ([frm] ++ ([til] ++ (sig.map (Value.int .u8) ++ ([vs]))))) by simp [cObject]]
  exact seg_put (by simp [hkey, hsig]) (by rw [hkey]; exact hj)
theorem cObject_ext_frm (server : Value) (n : Value) (key : List Int) (frm : Value) (til : Value) (sig : List Int) (vs : Value) (hkey : key.length = 32) (hsig : sig.length = 64) : (cObject server n key frm til sig vs).toArray.extract 34 35 = ([frm]).toArray := by
  rw [show (cObject server n key frm til sig vs) = ([server] ++ ([n] ++ (key.map (Value.int .u8)))) ++ ([frm] ++ ([til] ++ (sig.map (Value.int .u8) ++ ([vs])))) by simp [cObject]]
  exact seg_ext (by simp [hkey, hsig]) (by simp [hkey, hsig])
theorem cObject_get_frm (server : Value) (n : Value) (key : List Int) (frm : Value) (til : Value) (sig : List Int) (vs : Value) (hkey : key.length = 32) (hsig : sig.length = 64) : (cObject server n key frm til sig vs).toArray[34]? = some frm := by
  rw [show (cObject server n key frm til sig vs) = ([server] ++ ([n] ++ (key.map (Value.int .u8)))) ++ ([frm] ++ ([til] ++ (sig.map (Value.int .u8) ++ ([vs])))) by simp [cObject]]
  exact seg_get (by simp [hkey, hsig])
theorem cObject_set_frm (server : Value) (n : Value) (key : List Int) (frm : Value) (til : Value) (sig : List Int) (vs : Value) (z : Value) (hkey : key.length = 32) (hsig : sig.length = 64) : (cObject server n key frm til sig vs).toArray.setIfInBounds 34 z = (cObject server n key z til sig vs).toArray := by
  rw [show (cObject server n key frm til sig vs) = ([server] ++ ([n] ++ (key.map (Value.int .u8)))) ++ ([frm] ++ ([til] ++ (sig.map (Value.int .u8) ++ ([vs])))) by simp [cObject]]
  rw [show (cObject server n key z til sig vs) = ([server] ++ ([n] ++ (key.map (Value.int .u8)))) ++ ([z] ++ ([til] ++ (sig.map (Value.int .u8) ++ ([vs])))) by simp [cObject]]
  exact seg_set (by simp [hkey, hsig])
theorem cObject_ext_til (server : Value) (n : Value) (key : List Int) (frm : Value) (til : Value) (sig : List Int) (vs : Value) (hkey : key.length = 32) (hsig : sig.length = 64) : (cObject server n key frm til sig vs).toArray.extract 35 36 = ([til]).toArray := by
  rw [show (cObject server n key frm til sig vs) = ([server] ++ ([n] ++ (key.map (Value.int .u8) ++ ([frm])))) ++ ([til] ++ (sig.map (Value.int .u8) ++ ([vs]))) by simp [cObject]]
  exact seg_ext (by simp [hkey, hsig]) (by simp [hkey, hsig])
theorem cObject_get_til (server : Value) (n : Value) (key : List Int) (frm : Value) (til : Value) (sig : List Int) (vs : Value) (hkey : key.length = 32) (hsig : sig.length = 64) : (cObject server n key frm til sig vs).toArray[35]? = some til := by
  rw [show (cObject server n key frm til sig vs) = ([server] ++ ([n] ++ (key.map (Value.int .u8) ++ ([frm])))) ++ ([til] ++ (sig.map (Value.int .u8) ++ ([vs]))) by simp [cObject]]
  exact seg_get (by simp [hkey, hsig])
theorem cObject_set_til (server : Value) (n : Value) (key : List Int) (frm : Value) (til : Value) (sig : List Int) (vs : Value) (z : Value) (hkey : key.length = 32) (hsig : sig.length = 64) : (cObject server n key frm til sig vs).toArray.setIfInBounds 35 z = (cObject server n key frm z sig vs).toArray := by
  rw [show (cObject server n key frm til sig vs) = ([server] ++ ([n] ++ (key.map (Value.int .u8) ++ ([frm])))) ++ ([til] ++ (sig.map (Value.int .u8) ++ ([vs]))) by simp [cObject]]
  rw [show (cObject server n key frm z sig vs) = ([server] ++ ([n] ++ (key.map (Value.int .u8) ++ ([frm])))) ++ ([z] ++ (sig.map (Value.int .u8) ++ ([vs]))) by simp [cObject]]
  exact seg_set (by simp [hkey, hsig])
theorem cObject_ext_sig (server : Value) (n : Value) (key : List Int) (frm : Value) (til : Value) (sig : List Int) (vs : Value) (hkey : key.length = 32) (hsig : sig.length = 64) : (cObject server n key frm til sig vs).toArray.extract 36 100 = (sig.map (Value.int .u8)).toArray := by
  rw [show (cObject server n key frm til sig vs) = ([server] ++ ([n] ++ (key.map (Value.int .u8) ++ ([frm] ++ ([til]))))) ++ (sig.map (Value.int .u8) ++ ([vs])) by simp [cObject]]
  exact seg_ext (by simp [hkey, hsig]) (by simp [hkey, hsig])
theorem cObject_spl_sig (server : Value) (n : Value) (key : List Int) (frm : Value) (til : Value) (sig : List Int) (vs : Value) (z : List Int) (hkey : key.length = 32) (hsig : sig.length = 64) (hz : z.length = 64) : spl (cObject server n key frm til sig vs).toArray 36 (z.map (Value.int .u8)) = (cObject server n key frm til z vs).toArray := by
  rw [show (cObject server n key frm til sig vs) = ([server] ++ ([n] ++ (key.map (Value.int .u8) ++ ([frm] ++ ([til]))))) ++ (sig.map (Value.int .u8) ++ ([vs])) by simp [cObject]]
  rw [show (cObject server n key frm til z vs) = ([server] ++ ([n] ++ (key.map (Value.int .u8) ++ ([frm] ++ ([til]))))) ++ (z.map (Value.int .u8) ++ ([vs])) by simp [cObject]]
  exact seg_spl (by simp [hkey, hsig]) (by simp [hsig, hz])
theorem cObject_el_sig (server : Value) (n : Value) (key : List Int) (frm : Value) (til : Value) (sig : List Int) (vs : Value) (hkey : key.length = 32) (hsig : sig.length = 64) {j : Nat} (hj : j < 64) : (cObject server n key frm til sig vs).toArray[36 + j]? = some (.int .u8 (el sig j)) := by
  rw [show (cObject server n key frm til sig vs) = ([server] ++ ([n] ++ (key.map (Value.int .u8) ++ ([frm] ++ ([til]))))) ++ (sig.map (Value.int .u8) ++ ([vs])) by simp [cObject]]
  exact seg_el (by simp [hkey, hsig]) (by rw [hsig]; exact hj)
theorem cObject_put_sig (server : Value) (n : Value) (key : List Int) (frm : Value) (til : Value) (sig : List Int) (vs : Value) (hkey : key.length = 32) (hsig : sig.length = 64) {j : Nat} (hj : j < 64) (z : Int) : (cObject server n key frm til sig vs).toArray.setIfInBounds (36 + j) (.int .u8 z) = (cObject server n key frm til (sig.set j z) vs).toArray := by
  rw [show (cObject server n key frm til sig vs) = ([server] ++ ([n] ++ (key.map (Value.int .u8) ++ ([frm] ++ ([til]))))) ++ (sig.map (Value.int .u8) ++ ([vs])) by simp [cObject]]
  rw [show (cObject server n key frm til (sig.set j z) vs) = ([server] ++ ([n] ++ (key.map (Value.int .u8) ++ ([frm] ++ ([til]))))) ++ ((sig.set j z).map (Value.int .u8) ++ ([vs])) by simp [cObject]]
  exact seg_put (by simp [hkey, hsig]) (by rw [hsig]; exact hj)
theorem cObject_ext_vs (server : Value) (n : Value) (key : List Int) (frm : Value) (til : Value) (sig : List Int) (vs : Value) (hkey : key.length = 32) (hsig : sig.length = 64) : (cObject server n key frm til sig vs).toArray.extract 100 101 = ([vs]).toArray := by
  rw [show (cObject server n key frm til sig vs) = ([server] ++ ([n] ++ (key.map (Value.int .u8) ++ ([frm] ++ ([til] ++ (sig.map (Value.int .u8))))))) ++ ([vs] ++ ([])) by simp [cObject]]
  exact seg_ext (by simp [hkey, hsig]) (by simp [hkey, hsig])
theorem cObject_get_vs (server : Value) (n : Value) (key : List Int) (frm : Value) (til : Value) (sig : List Int) (vs : Value) (hkey : key.length = 32) (hsig : sig.length = 64) : (cObject server n key frm til sig vs).toArray[100]? = some vs := by
  rw [show (cObject server n key frm til sig vs) = ([server] ++ ([n] ++ (key.map (Value.int .u8) ++ ([frm] ++ ([til] ++ (sig.map (Value.int .u8))))))) ++ ([vs] ++ ([])) by simp [cObject]]
  exact seg_get (by simp [hkey, hsig])
theorem cObject_set_vs (server : Value) (n : Value) (key : List Int) (frm : Value) (til : Value) (sig : List Int) (vs : Value) (z : Value) (hkey : key.length = 32) (hsig : sig.length = 64) : (cObject server n key frm til sig vs).toArray.setIfInBounds 100 z = (cObject server n key frm til sig z).toArray := by
  rw [show (cObject server n key frm til sig vs) = ([server] ++ ([n] ++ (key.map (Value.int .u8) ++ ([frm] ++ ([til] ++ (sig.map (Value.int .u8))))))) ++ ([vs] ++ ([])) by simp [cObject]]
  rw [show (cObject server n key frm til sig z) = ([server] ++ ([n] ++ (key.map (Value.int .u8) ++ ([frm] ++ ([til] ++ (sig.map (Value.int .u8))))))) ++ ([z] ++ ([])) by simp [cObject]]
  exact seg_set (by simp [hkey, hsig])
/-! ### Cache: 133 cells -/
def cCache (fa : List Int) (fb : List Int) (fc : List Int) (fd : List Int) (high : List Int) (need : Value) : List Value := fa.map (Value.int .u8) ++ (fb.map (Value.int .u8) ++ (fc.map (Value.int .u8) ++ (fd.map (Value.int .u8) ++ (high.map (Value.int .u8) ++ ([need])))))
theorem cCache_length (fa : List Int) (fb : List Int) (fc : List Int) (fd : List Int) (high : List Int) (need : Value) (hfa : fa.length = 32) (hfb : fb.length = 32) (hfc : fc.length = 32) (hfd : fd.length = 32) (hhigh : high.length = 4) : (cCache fa fb fc fd high need).length = 133 := by simp [cCache, hfa, hfb, hfc, hfd, hhigh]
theorem cCache_one (fa : List Int) (fb : List Int) (fc : List Int) (fd : List Int) (high : List Int) (need : Value) (oneed : need.oneCell' = true) : ∀ u ∈ (cCache fa fb fc fd high need), u.oneCell' = true := by
  intro u hu
  simp only [cCache, List.mem_append, List.mem_singleton, List.mem_map] at hu
  rcases hu with ⟨_, _, rfl⟩ | ⟨_, _, rfl⟩ | ⟨_, _, rfl⟩ | ⟨_, _, rfl⟩ | ⟨_, _, rfl⟩ | rfl
  · rfl
  · rfl
  · rfl
  · rfl
  · rfl
  · exact oneed
theorem cCache_ext_fa (fa : List Int) (fb : List Int) (fc : List Int) (fd : List Int) (high : List Int) (need : Value) (hfa : fa.length = 32) (hfb : fb.length = 32) (hfc : fc.length = 32) (hfd : fd.length = 32) (hhigh : high.length = 4) : (cCache fa fb fc fd high need).toArray.extract 0 32 = (fa.map (Value.int .u8)).toArray := by
  rw [show (cCache fa fb fc fd high need) = ([]) ++ (fa.map (Value.int .u8) ++ (fb.map (Value.int .u8) ++ (fc.map (Value.int .u8) ++ (fd.map (Value.int .u8) ++ (high.map (Value.int .u8) ++ ([need])))))) by simp [cCache]]
  exact seg_ext (by simp [hfa, hfb, hfc, hfd, hhigh]) (by simp [hfa, hfb, hfc, hfd, hhigh])
theorem cCache_spl_fa (fa : List Int) (fb : List Int) (fc : List Int) (fd : List Int) (high : List Int) (need : Value) (z : List Int) (hfa : fa.length = 32) (hfb : fb.length = 32) (hfc : fc.length = 32) (hfd : fd.length = 32) (hhigh : high.length = 4) (hz : z.length = 32) : spl (cCache fa fb fc fd high need).toArray 0 (z.map (Value.int .u8)) = (cCache z fb fc fd high need).toArray := by
  rw [show (cCache fa fb fc fd high need) = ([]) ++ (fa.map (Value.int .u8) ++ (fb.map (Value.int .u8) ++ (fc.map (Value.int .u8) ++ (fd.map (Value.int .u8) ++ (high.map (Value.int .u8) ++ ([need])))))) by simp [cCache]]
  rw [show (cCache z fb fc fd high need) = ([]) ++ (z.map (Value.int .u8) ++ (fb.map (Value.int .u8) ++ (fc.map (Value.int .u8) ++ (fd.map (Value.int .u8) ++ (high.map (Value.int .u8) ++ ([need])))))) by simp [cCache]]
  exact seg_spl (by simp [hfa, hfb, hfc, hfd, hhigh]) (by simp [hfa, hz])
theorem cCache_el_fa (fa : List Int) (fb : List Int) (fc : List Int) (fd : List Int) (high : List Int) (need : Value) (hfa : fa.length = 32) (hfb : fb.length = 32) (hfc : fc.length = 32) (hfd : fd.length = 32) (hhigh : high.length = 4) {j : Nat} (hj : j < 32) : (cCache fa fb fc fd high need).toArray[0 + j]? = some (.int .u8 (el fa j)) := by
  rw [show (cCache fa fb fc fd high need) = ([]) ++ (fa.map (Value.int .u8) ++ (fb.map (Value.int .u8) ++ (fc.map (Value.int .u8) ++ (fd.map (Value.int .u8) ++ (high.map (Value.int .u8) ++ ([need])))))) by simp [cCache]]
  exact seg_el (by simp [hfa, hfb, hfc, hfd, hhigh]) (by rw [hfa]; exact hj)
theorem cCache_put_fa (fa : List Int) (fb : List Int) (fc : List Int) (fd : List Int) (high : List Int) (need : Value) (hfa : fa.length = 32) (hfb : fb.length = 32) (hfc : fc.length = 32) (hfd : fd.length = 32) (hhigh : high.length = 4) {j : Nat} (hj : j < 32) (z : Int) : (cCache fa fb fc fd high need).toArray.setIfInBounds (0 + j) (.int .u8 z) = (cCache (fa.set j z) fb fc fd high need).toArray := by
  rw [show (cCache fa fb fc fd high need) = ([]) ++ (fa.map (Value.int .u8) ++ (fb.map (Value.int .u8) ++ (fc.map (Value.int .u8) ++ (fd.map (Value.int .u8) ++ (high.map (Value.int .u8) ++ ([need])))))) by simp [cCache]]
  rw [show (cCache (fa.set j z) fb fc fd high need) = ([]) ++ ((fa.set j z).map (Value.int .u8) ++ (fb.map (Value.int .u8) ++ (fc.map (Value.int .u8) ++ (fd.map (Value.int .u8) ++ (high.map (Value.int .u8) ++ ([need])))))) by simp [cCache]]
  exact seg_put (by simp [hfa, hfb, hfc, hfd, hhigh]) (by rw [hfa]; exact hj)
theorem cCache_ext_fb (fa : List Int) (fb : List Int) (fc : List Int) (fd : List Int) (high : List Int) (need : Value) (hfa : fa.length = 32) (hfb : fb.length = 32) (hfc : fc.length = 32) (hfd : fd.length = 32) (hhigh : high.length = 4) : (cCache fa fb fc fd high need).toArray.extract 32 64 = (fb.map (Value.int .u8)).toArray := by
  rw [show (cCache fa fb fc fd high need) = (fa.map (Value.int .u8)) ++ (fb.map (Value.int .u8) ++ (fc.map (Value.int .u8) ++ (fd.map (Value.int .u8) ++ (high.map (Value.int .u8) ++ ([need]))))) by simp [cCache]]
  exact seg_ext (by simp [hfa, hfb, hfc, hfd, hhigh]) (by simp [hfa, hfb, hfc, hfd, hhigh])
theorem cCache_spl_fb (fa : List Int) (fb : List Int) (fc : List Int) (fd : List Int) (high : List Int) (need : Value) (z : List Int) (hfa : fa.length = 32) (hfb : fb.length = 32) (hfc : fc.length = 32) (hfd : fd.length = 32) (hhigh : high.length = 4) (hz : z.length = 32) : spl (cCache fa fb fc fd high need).toArray 32 (z.map (Value.int .u8)) = (cCache fa z fc fd high need).toArray := by
  rw [show (cCache fa fb fc fd high need) = (fa.map (Value.int .u8)) ++ (fb.map (Value.int .u8) ++ (fc.map (Value.int .u8) ++ (fd.map (Value.int .u8) ++ (high.map (Value.int .u8) ++ ([need]))))) by simp [cCache]]
  rw [show (cCache fa z fc fd high need) = (fa.map (Value.int .u8)) ++ (z.map (Value.int .u8) ++ (fc.map (Value.int .u8) ++ (fd.map (Value.int .u8) ++ (high.map (Value.int .u8) ++ ([need]))))) by simp [cCache]]
  exact seg_spl (by simp [hfa, hfb, hfc, hfd, hhigh]) (by simp [hfb, hz])
theorem cCache_el_fb (fa : List Int) (fb : List Int) (fc : List Int) (fd : List Int) (high : List Int) (need : Value) (hfa : fa.length = 32) (hfb : fb.length = 32) (hfc : fc.length = 32) (hfd : fd.length = 32) (hhigh : high.length = 4) {j : Nat} (hj : j < 32) : (cCache fa fb fc fd high need).toArray[32 + j]? = some (.int .u8 (el fb j)) := by
  rw [show (cCache fa fb fc fd high need) = (fa.map (Value.int .u8)) ++ (fb.map (Value.int .u8) ++ (fc.map (Value.int .u8) ++ (fd.map (Value.int .u8) ++ (high.map (Value.int .u8) ++ ([need]))))) by simp [cCache]]
  exact seg_el (by simp [hfa, hfb, hfc, hfd, hhigh]) (by rw [hfb]; exact hj)
theorem cCache_put_fb (fa : List Int) (fb : List Int) (fc : List Int) (fd : List Int) (high : List Int) (need : Value) (hfa : fa.length = 32) (hfb : fb.length = 32) (hfc : fc.length = 32) (hfd : fd.length = 32) (hhigh : high.length = 4) {j : Nat} (hj : j < 32) (z : Int) : (cCache fa fb fc fd high need).toArray.setIfInBounds (32 + j) (.int .u8 z) = (cCache fa (fb.set j z) fc fd high need).toArray := by
  rw [show (cCache fa fb fc fd high need) = (fa.map (Value.int .u8)) ++ (fb.map (Value.int .u8) ++ (fc.map (Value.int .u8) ++ (fd.map (Value.int .u8) ++ (high.map (Value.int .u8) ++ ([need]))))) by simp [cCache]]
  rw [show (cCache fa (fb.set j z) fc fd high need) = (fa.map (Value.int .u8)) ++ ((fb.set j z).map (Value.int .u8) ++ (fc.map (Value.int .u8) ++ (fd.map (Value.int .u8) ++ (high.map (Value.int .u8) ++ ([need]))))) by simp [cCache]]
  exact seg_put (by simp [hfa, hfb, hfc, hfd, hhigh]) (by rw [hfb]; exact hj)
theorem cCache_ext_fc (fa : List Int) (fb : List Int) (fc : List Int) (fd : List Int) (high : List Int) (need : Value) (hfa : fa.length = 32) (hfb : fb.length = 32) (hfc : fc.length = 32) (hfd : fd.length = 32) (hhigh : high.length = 4) : (cCache fa fb fc fd high need).toArray.extract 64 96 = (fc.map (Value.int .u8)).toArray := by
  rw [show (cCache fa fb fc fd high need) = (fa.map (Value.int .u8) ++ (fb.map (Value.int .u8))) ++ (fc.map (Value.int .u8) ++ (fd.map (Value.int .u8) ++ (high.map (Value.int .u8) ++ ([need])))) by simp [cCache]]
  exact seg_ext (by simp [hfa, hfb, hfc, hfd, hhigh]) (by simp [hfa, hfb, hfc, hfd, hhigh])
theorem cCache_spl_fc (fa : List Int) (fb : List Int) (fc : List Int) (fd : List Int) (high : List Int) (need : Value) (z : List Int) (hfa : fa.length = 32) (hfb : fb.length = 32) (hfc : fc.length = 32) (hfd : fd.length = 32) (hhigh : high.length = 4) (hz : z.length = 32) : spl (cCache fa fb fc fd high need).toArray 64 (z.map (Value.int .u8)) = (cCache fa fb z fd high need).toArray := by
  rw [show (cCache fa fb fc fd high need) = (fa.map (Value.int .u8) ++ (fb.map (Value.int .u8))) ++ (fc.map (Value.int .u8) ++ (fd.map (Value.int .u8) ++ (high.map (Value.int .u8) ++ ([need])))) by simp [cCache]]
  rw [show (cCache fa fb z fd high need) = (fa.map (Value.int .u8) ++ (fb.map (Value.int .u8))) ++ (z.map (Value.int .u8) ++ (fd.map (Value.int .u8) ++ (high.map (Value.int .u8) ++ ([need])))) by simp [cCache]]
  exact seg_spl (by simp [hfa, hfb, hfc, hfd, hhigh]) (by simp [hfc, hz])
theorem cCache_el_fc (fa : List Int) (fb : List Int) (fc : List Int) (fd : List Int) (high : List Int) (need : Value) (hfa : fa.length = 32) (hfb : fb.length = 32) (hfc : fc.length = 32) (hfd : fd.length = 32) (hhigh : high.length = 4) {j : Nat} (hj : j < 32) : (cCache fa fb fc fd high need).toArray[64 + j]? = some (.int .u8 (el fc j)) := by
  rw [show (cCache fa fb fc fd high need) = (fa.map (Value.int .u8) ++ (fb.map (Value.int .u8))) ++ (fc.map (Value.int .u8) ++ (fd.map (Value.int .u8) ++ (high.map (Value.int .u8) ++ ([need])))) by simp [cCache]]
  exact seg_el (by simp [hfa, hfb, hfc, hfd, hhigh]) (by rw [hfc]; exact hj)
theorem cCache_put_fc (fa : List Int) (fb : List Int) (fc : List Int) (fd : List Int) (high : List Int) (need : Value) (hfa : fa.length = 32) (hfb : fb.length = 32) (hfc : fc.length = 32) (hfd : fd.length = 32) (hhigh : high.length = 4) {j : Nat} (hj : j < 32) (z : Int) : (cCache fa fb fc fd high need).toArray.setIfInBounds (64 + j) (.int .u8 z) = (cCache fa fb (fc.set j z) fd high need).toArray := by
  rw [show (cCache fa fb fc fd high need) = (fa.map (Value.int .u8) ++ (fb.map (Value.int .u8))) ++ (fc.map (Value.int .u8) ++ (fd.map (Value.int .u8) ++ (high.map (Value.int .u8) ++ ([need])))) by simp [cCache]]
  rw [show (cCache fa fb (fc.set j z) fd high need) = (fa.map (Value.int .u8) ++ (fb.map (Value.int .u8))) ++ ((fc.set j z).map (Value.int .u8) ++ (fd.map (Value.int .u8) ++ (high.map (Value.int .u8) ++ ([need])))) by simp [cCache]]
  exact seg_put (by simp [hfa, hfb, hfc, hfd, hhigh]) (by rw [hfc]; exact hj)
theorem cCache_ext_fd (fa : List Int) (fb : List Int) (fc : List Int) (fd : List Int) (high : List Int) (need : Value) (hfa : fa.length = 32) (hfb : fb.length = 32) (hfc : fc.length = 32) (hfd : fd.length = 32) (hhigh : high.length = 4) : (cCache fa fb fc fd high need).toArray.extract 96 128 = (fd.map (Value.int .u8)).toArray := by
  rw [show (cCache fa fb fc fd high need) = (fa.map (Value.int .u8) ++ (fb.map (Value.int .u8) ++ (fc.map (Value.int .u8)))) ++ (fd.map (Value.int .u8) ++ (high.map (Value.int .u8) ++ ([need]))) by simp [cCache]]
  exact seg_ext (by simp [hfa, hfb, hfc, hfd, hhigh]) (by simp [hfa, hfb, hfc, hfd, hhigh])
theorem cCache_spl_fd (fa : List Int) (fb : List Int) (fc : List Int) (fd : List Int) (high : List Int) (need : Value) (z : List Int) (hfa : fa.length = 32) (hfb : fb.length = 32) (hfc : fc.length = 32) (hfd : fd.length = 32) (hhigh : high.length = 4) (hz : z.length = 32) : spl (cCache fa fb fc fd high need).toArray 96 (z.map (Value.int .u8)) = (cCache fa fb fc z high need).toArray := by
  rw [show (cCache fa fb fc fd high need) = (fa.map (Value.int .u8) ++ (fb.map (Value.int .u8) ++ (fc.map (Value.int .u8)))) ++ (fd.map (Value.int .u8) ++ (high.map (Value.int .u8) ++ ([need]))) by simp [cCache]]
  rw [show (cCache fa fb fc z high need) = (fa.map (Value.int .u8) ++ (fb.map (Value.int .u8) ++ (fc.map (Value.int .u8)))) ++ (z.map (Value.int .u8) ++ (high.map (Value.int .u8) ++ ([need]))) by simp [cCache]]
  exact seg_spl (by simp [hfa, hfb, hfc, hfd, hhigh]) (by simp [hfd, hz])
theorem cCache_el_fd (fa : List Int) (fb : List Int) (fc : List Int) (fd : List Int) (high : List Int) (need : Value) (hfa : fa.length = 32) (hfb : fb.length = 32) (hfc : fc.length = 32) (hfd : fd.length = 32) (hhigh : high.length = 4) {j : Nat} (hj : j < 32) : (cCache fa fb fc fd high need).toArray[96 + j]? = some (.int .u8 (el fd j)) := by
  rw [show (cCache fa fb fc fd high need) = (fa.map (Value.int .u8) ++ (fb.map (Value.int .u8) ++ (fc.map (Value.int .u8)))) ++ (fd.map (Value.int .u8) ++ (high.map (Value.int .u8) ++ ([need]))) by simp [cCache]]
  exact seg_el (by simp [hfa, hfb, hfc, hfd, hhigh]) (by rw [hfd]; exact hj)
theorem cCache_put_fd (fa : List Int) (fb : List Int) (fc : List Int) (fd : List Int) (high : List Int) (need : Value) (hfa : fa.length = 32) (hfb : fb.length = 32) (hfc : fc.length = 32) (hfd : fd.length = 32) (hhigh : high.length = 4) {j : Nat} (hj : j < 32) (z : Int) : (cCache fa fb fc fd high need).toArray.setIfInBounds (96 + j) (.int .u8 z) = (cCache fa fb fc (fd.set j z) high need).toArray := by
  rw [show (cCache fa fb fc fd high need) = (fa.map (Value.int .u8) ++ (fb.map (Value.int .u8) ++ (fc.map (Value.int .u8)))) ++ (fd.map (Value.int .u8) ++ (high.map (Value.int .u8) ++ ([need]))) by simp [cCache]]
  rw [show (cCache fa fb fc (fd.set j z) high need) = (fa.map (Value.int .u8) ++ (fb.map (Value.int .u8) ++ (fc.map (Value.int .u8)))) ++ ((fd.set j z).map (Value.int .u8) ++ (high.map (Value.int .u8) ++ ([need]))) by simp [cCache]]
  exact seg_put (by simp [hfa, hfb, hfc, hfd, hhigh]) (by rw [hfd]; exact hj)
theorem cCache_ext_high (fa : List Int) (fb : List Int) (fc : List Int) (fd : List Int) (high : List Int) (need : Value) (hfa : fa.length = 32) (hfb : fb.length = 32) (hfc : fc.length = 32) (hfd : fd.length = 32) (hhigh : high.length = 4) : (cCache fa fb fc fd high need).toArray.extract 128 132 = (high.map (Value.int .u8)).toArray := by
  rw [show (cCache fa fb fc fd high need) = (fa.map (Value.int .u8) ++ (fb.map (Value.int .u8) ++ (fc.map (Value.int .u8) ++ (fd.map (Value.int .u8))))) ++ (high.map (Value.int .u8) ++ ([need])) by simp [cCache]]
  exact seg_ext (by simp [hfa, hfb, hfc, hfd, hhigh]) (by simp [hfa, hfb, hfc, hfd, hhigh])
theorem cCache_spl_high (fa : List Int) (fb : List Int) (fc : List Int) (fd : List Int) (high : List Int) (need : Value) (z : List Int) (hfa : fa.length = 32) (hfb : fb.length = 32) (hfc : fc.length = 32) (hfd : fd.length = 32) (hhigh : high.length = 4) (hz : z.length = 4) : spl (cCache fa fb fc fd high need).toArray 128 (z.map (Value.int .u8)) = (cCache fa fb fc fd z need).toArray := by
  rw [show (cCache fa fb fc fd high need) = (fa.map (Value.int .u8) ++ (fb.map (Value.int .u8) ++ (fc.map (Value.int .u8) ++ (fd.map (Value.int .u8))))) ++ (high.map (Value.int .u8) ++ ([need])) by simp [cCache]]
  rw [show (cCache fa fb fc fd z need) = (fa.map (Value.int .u8) ++ (fb.map (Value.int .u8) ++ (fc.map (Value.int .u8) ++ (fd.map (Value.int .u8))))) ++ (z.map (Value.int .u8) ++ ([need])) by simp [cCache]]
  exact seg_spl (by simp [hfa, hfb, hfc, hfd, hhigh]) (by simp [hhigh, hz])
theorem cCache_el_high (fa : List Int) (fb : List Int) (fc : List Int) (fd : List Int) (high : List Int) (need : Value) (hfa : fa.length = 32) (hfb : fb.length = 32) (hfc : fc.length = 32) (hfd : fd.length = 32) (hhigh : high.length = 4) {j : Nat} (hj : j < 4) : (cCache fa fb fc fd high need).toArray[128 + j]? = some (.int .u8 (el high j)) := by
  rw [show (cCache fa fb fc fd high need) = (fa.map (Value.int .u8) ++ (fb.map (Value.int .u8) ++ (fc.map (Value.int .u8) ++ (fd.map (Value.int .u8))))) ++ (high.map (Value.int .u8) ++ ([need])) by simp [cCache]]
  exact seg_el (by simp [hfa, hfb, hfc, hfd, hhigh]) (by rw [hhigh]; exact hj)
theorem cCache_put_high (fa : List Int) (fb : List Int) (fc : List Int) (fd : List Int) (high : List Int) (need : Value) (hfa : fa.length = 32) (hfb : fb.length = 32) (hfc : fc.length = 32) (hfd : fd.length = 32) (hhigh : high.length = 4) {j : Nat} (hj : j < 4) (z : Int) : (cCache fa fb fc fd high need).toArray.setIfInBounds (128 + j) (.int .u8 z) = (cCache fa fb fc fd (high.set j z) need).toArray := by
  rw [show (cCache fa fb fc fd high need) = (fa.map (Value.int .u8) ++ (fb.map (Value.int .u8) ++ (fc.map (Value.int .u8) ++ (fd.map (Value.int .u8))))) ++ (high.map (Value.int .u8) ++ ([need])) by simp [cCache]]
  rw [show (cCache fa fb fc fd (high.set j z) need) = (fa.map (Value.int .u8) ++ (fb.map (Value.int .u8) ++ (fc.map (Value.int .u8) ++ (fd.map (Value.int .u8))))) ++ ((high.set j z).map (Value.int .u8) ++ ([need])) by simp [cCache]]
  exact seg_put (by simp [hfa, hfb, hfc, hfd, hhigh]) (by rw [hhigh]; exact hj)
theorem cCache_ext_need (fa : List Int) (fb : List Int) (fc : List Int) (fd : List Int) (high : List Int) (need : Value) (hfa : fa.length = 32) (hfb : fb.length = 32) (hfc : fc.length = 32) (hfd : fd.length = 32) (hhigh : high.length = 4) : (cCache fa fb fc fd high need).toArray.extract 132 133 = ([need]).toArray := by
  rw [show (cCache fa fb fc fd high need) = (fa.map (Value.int .u8) ++ (fb.map (Value.int .u8) ++ (fc.map (Value.int .u8) ++ (fd.map (Value.int .u8) ++ (high.map (Value.int .u8)))))) ++ ([need] ++ ([])) by simp [cCache]]
  exact seg_ext (by simp [hfa, hfb, hfc, hfd, hhigh]) (by simp [hfa, hfb, hfc, hfd, hhigh])
theorem cCache_get_need (fa : List Int) (fb : List Int) (fc : List Int) (fd : List Int) (high : List Int) (need : Value) (hfa : fa.length = 32) (hfb : fb.length = 32) (hfc : fc.length = 32) (hfd : fd.length = 32) (hhigh : high.length = 4) : (cCache fa fb fc fd high need).toArray[132]? = some need := by
  rw [show (cCache fa fb fc fd high need) = (fa.map (Value.int .u8) ++ (fb.map (Value.int .u8) ++ (fc.map (Value.int .u8) ++ (fd.map (Value.int .u8) ++ (high.map (Value.int .u8)))))) ++ ([need] ++ ([])) by simp [cCache]]
  exact seg_get (by simp [hfa, hfb, hfc, hfd, hhigh])
theorem cCache_set_need (fa : List Int) (fb : List Int) (fc : List Int) (fd : List Int) (high : List Int) (need : Value) (z : Value) (hfa : fa.length = 32) (hfb : fb.length = 32) (hfc : fc.length = 32) (hfd : fd.length = 32) (hhigh : high.length = 4) : (cCache fa fb fc fd high need).toArray.setIfInBounds 132 z = (cCache fa fb fc fd high z).toArray := by
  rw [show (cCache fa fb fc fd high need) = (fa.map (Value.int .u8) ++ (fb.map (Value.int .u8) ++ (fc.map (Value.int .u8) ++ (fd.map (Value.int .u8) ++ (high.map (Value.int .u8)))))) ++ ([need] ++ ([])) by simp [cCache]]
  rw [show (cCache fa fb fc fd high z) = (fa.map (Value.int .u8) ++ (fb.map (Value.int .u8) ++ (fc.map (Value.int .u8) ++ (fd.map (Value.int .u8) ++ (high.map (Value.int .u8)))))) ++ ([z] ++ ([])) by simp [cCache]]
  exact seg_set (by simp [hfa, hfb, hfc, hfd, hhigh])
/-! ### Bundle: 162 cells -/
def cBundle (device : Value) (agree : List Int) (signer : List Int) (id : Value) (once : List Int) (sig : List Int) : List Value := [device] ++ (agree.map (Value.int .u8) ++ (signer.map (Value.int .u8) ++ ([id] ++ (once.map (Value.int .u8) ++ (sig.map (Value.int .u8))))))
theorem cBundle_length (device : Value) (agree : List Int) (signer : List Int) (id : Value) (once : List Int) (sig : List Int) (hagree : agree.length = 32) (hsigner : signer.length = 32) (honce : once.length = 32) (hsig : sig.length = 64) : (cBundle device agree signer id once sig).length = 162 := by simp [cBundle, hagree, hsigner, honce, hsig]
theorem cBundle_one (device : Value) (agree : List Int) (signer : List Int) (id : Value) (once : List Int) (sig : List Int) (odevice : device.oneCell' = true) (oid : id.oneCell' = true) : ∀ u ∈ (cBundle device agree signer id once sig), u.oneCell' = true := by
  intro u hu
  simp only [cBundle, List.mem_append, List.mem_singleton, List.mem_map] at hu
  rcases hu with rfl | ⟨_, _, rfl⟩ | ⟨_, _, rfl⟩ | rfl | ⟨_, _, rfl⟩ | ⟨_, _, rfl⟩
  · exact odevice
  · rfl
  · rfl
  · exact oid
  · rfl
  · rfl
theorem cBundle_ext_device (device : Value) (agree : List Int) (signer : List Int) (id : Value) (once : List Int) (sig : List Int) (hagree : agree.length = 32) (hsigner : signer.length = 32) (honce : once.length = 32) (hsig : sig.length = 64) : (cBundle device agree signer id once sig).toArray.extract 0 1 = ([device]).toArray := by
  rw [show (cBundle device agree signer id once sig) = ([]) ++ ([device] ++ (agree.map (Value.int .u8) ++ (signer.map (Value.int .u8) ++ ([id] ++ (once.map (Value.int .u8) ++ (sig.map (Value.int .u8))))))) by simp [cBundle]]
  exact seg_ext (by simp [hagree, hsigner, honce, hsig]) (by simp [hagree, hsigner, honce, hsig])
theorem cBundle_get_device (device : Value) (agree : List Int) (signer : List Int) (id : Value) (once : List Int) (sig : List Int) (hagree : agree.length = 32) (hsigner : signer.length = 32) (honce : once.length = 32) (hsig : sig.length = 64) : (cBundle device agree signer id once sig).toArray[0]? = some device := by
  rw [show (cBundle device agree signer id once sig) = ([]) ++ ([device] ++ (agree.map (Value.int .u8) ++ (signer.map (Value.int .u8) ++ ([id] ++ (once.map (Value.int .u8) ++ (sig.map (Value.int .u8))))))) by simp [cBundle]]
  exact seg_get (by simp [hagree, hsigner, honce, hsig])
theorem cBundle_set_device (device : Value) (agree : List Int) (signer : List Int) (id : Value) (once : List Int) (sig : List Int) (z : Value) (hagree : agree.length = 32) (hsigner : signer.length = 32) (honce : once.length = 32) (hsig : sig.length = 64) : (cBundle device agree signer id once sig).toArray.setIfInBounds 0 z = (cBundle z agree signer id once sig).toArray := by
  rw [show (cBundle device agree signer id once sig) = ([]) ++ ([device] ++ (agree.map (Value.int .u8) ++ (signer.map (Value.int .u8) ++ ([id] ++ (once.map (Value.int .u8) ++ (sig.map (Value.int .u8))))))) by simp [cBundle]]
  rw [show (cBundle z agree signer id once sig) = ([]) ++ ([z] ++ (agree.map (Value.int .u8) ++ (signer.map (Value.int .u8) ++ ([id] ++ (once.map (Value.int .u8) ++ (sig.map (Value.int .u8))))))) by simp [cBundle]]
  exact seg_set (by simp [hagree, hsigner, honce, hsig])
theorem cBundle_ext_agree (device : Value) (agree : List Int) (signer : List Int) (id : Value) (once : List Int) (sig : List Int) (hagree : agree.length = 32) (hsigner : signer.length = 32) (honce : once.length = 32) (hsig : sig.length = 64) : (cBundle device agree signer id once sig).toArray.extract 1 33 = (agree.map (Value.int .u8)).toArray := by
  rw [show (cBundle device agree signer id once sig) = ([device]) ++ (agree.map (Value.int .u8) ++ (signer.map (Value.int .u8) ++ ([id] ++ (once.map (Value.int .u8) ++ (sig.map (Value.int .u8)))))) by simp [cBundle]]
  exact seg_ext (by simp [hagree, hsigner, honce, hsig]) (by simp [hagree, hsigner, honce, hsig])
theorem cBundle_spl_agree (device : Value) (agree : List Int) (signer : List Int) (id : Value) (once : List Int) (sig : List Int) (z : List Int) (hagree : agree.length = 32) (hsigner : signer.length = 32) (honce : once.length = 32) (hsig : sig.length = 64) (hz : z.length = 32) : spl (cBundle device agree signer id once sig).toArray 1 (z.map (Value.int .u8)) = (cBundle device z signer id once sig).toArray := by
  rw [show (cBundle device agree signer id once sig) = ([device]) ++ (agree.map (Value.int .u8) ++ (signer.map (Value.int .u8) ++ ([id] ++ (once.map (Value.int .u8) ++ (sig.map (Value.int .u8)))))) by simp [cBundle]]
  rw [show (cBundle device z signer id once sig) = ([device]) ++ (z.map (Value.int .u8) ++ (signer.map (Value.int .u8) ++ ([id] ++ (once.map (Value.int .u8) ++ (sig.map (Value.int .u8)))))) by simp [cBundle]]
  exact seg_spl (by simp [hagree, hsigner, honce, hsig]) (by simp [hagree, hz])
theorem cBundle_el_agree (device : Value) (agree : List Int) (signer : List Int) (id : Value) (once : List Int) (sig : List Int) (hagree : agree.length = 32) (hsigner : signer.length = 32) (honce : once.length = 32) (hsig : sig.length = 64) {j : Nat} (hj : j < 32) : (cBundle device agree signer id once sig).toArray[1 + j]? = some (.int .u8 (el agree j)) := by
  rw [show (cBundle device agree signer id once sig) = ([device]) ++ (agree.map (Value.int .u8) ++ (signer.map (Value.int .u8) ++ ([id] ++ (once.map (Value.int .u8) ++ (sig.map (Value.int .u8)))))) by simp [cBundle]]
  exact seg_el (by simp [hagree, hsigner, honce, hsig]) (by rw [hagree]; exact hj)
theorem cBundle_put_agree (device : Value) (agree : List Int) (signer : List Int) (id : Value) (once : List Int) (sig : List Int) (hagree : agree.length = 32) (hsigner : signer.length = 32) (honce : once.length = 32) (hsig : sig.length = 64) {j : Nat} (hj : j < 32) (z : Int) : (cBundle device agree signer id once sig).toArray.setIfInBounds (1 + j) (.int .u8 z) = (cBundle device (agree.set j z) signer id once sig).toArray := by
  rw [show (cBundle device agree signer id once sig) = ([device]) ++ (agree.map (Value.int .u8) ++ (signer.map (Value.int .u8) ++ ([id] ++ (once.map (Value.int .u8) ++ (sig.map (Value.int .u8)))))) by simp [cBundle]]
  rw [show (cBundle device (agree.set j z) signer id once sig) = ([device]) ++ ((agree.set j z).map (Value.int .u8) ++ (signer.map (Value.int .u8) ++ ([id] ++ (once.map (Value.int .u8) ++ (sig.map (Value.int .u8)))))) by simp [cBundle]]
  exact seg_put (by simp [hagree, hsigner, honce, hsig]) (by rw [hagree]; exact hj)
theorem cBundle_ext_signer (device : Value) (agree : List Int) (signer : List Int) (id : Value) (once : List Int) (sig : List Int) (hagree : agree.length = 32) (hsigner : signer.length = 32) (honce : once.length = 32) (hsig : sig.length = 64) : (cBundle device agree signer id once sig).toArray.extract 33 65 = (signer.map (Value.int .u8)).toArray := by
  rw [show (cBundle device agree signer id once sig) = ([device] ++ (agree.map (Value.int .u8))) ++ (signer.map (Value.int .u8) ++ ([id] ++ (once.map (Value.int .u8) ++ (sig.map (Value.int .u8))))) by simp [cBundle]]
  exact seg_ext (by simp [hagree, hsigner, honce, hsig]) (by simp [hagree, hsigner, honce, hsig])
theorem cBundle_spl_signer (device : Value) (agree : List Int) (signer : List Int) (id : Value) (once : List Int) (sig : List Int) (z : List Int) (hagree : agree.length = 32) (hsigner : signer.length = 32) (honce : once.length = 32) (hsig : sig.length = 64) (hz : z.length = 32) : spl (cBundle device agree signer id once sig).toArray 33 (z.map (Value.int .u8)) = (cBundle device agree z id once sig).toArray := by
  rw [show (cBundle device agree signer id once sig) = ([device] ++ (agree.map (Value.int .u8))) ++ (signer.map (Value.int .u8) ++ ([id] ++ (once.map (Value.int .u8) ++ (sig.map (Value.int .u8))))) by simp [cBundle]]
  rw [show (cBundle device agree z id once sig) = ([device] ++ (agree.map (Value.int .u8))) ++ (z.map (Value.int .u8) ++ ([id] ++ (once.map (Value.int .u8) ++ (sig.map (Value.int .u8))))) by simp [cBundle]]
  exact seg_spl (by simp [hagree, hsigner, honce, hsig]) (by simp [hsigner, hz])
theorem cBundle_el_signer (device : Value) (agree : List Int) (signer : List Int) (id : Value) (once : List Int) (sig : List Int) (hagree : agree.length = 32) (hsigner : signer.length = 32) (honce : once.length = 32) (hsig : sig.length = 64) {j : Nat} (hj : j < 32) : (cBundle device agree signer id once sig).toArray[33 + j]? = some (.int .u8 (el signer j)) := by
  rw [show (cBundle device agree signer id once sig) = ([device] ++ (agree.map (Value.int .u8))) ++ (signer.map (Value.int .u8) ++ ([id] ++ (once.map (Value.int .u8) ++ (sig.map (Value.int .u8))))) by simp [cBundle]]
  exact seg_el (by simp [hagree, hsigner, honce, hsig]) (by rw [hsigner]; exact hj)
theorem cBundle_put_signer (device : Value) (agree : List Int) (signer : List Int) (id : Value) (once : List Int) (sig : List Int) (hagree : agree.length = 32) (hsigner : signer.length = 32) (honce : once.length = 32) (hsig : sig.length = 64) {j : Nat} (hj : j < 32) (z : Int) : (cBundle device agree signer id once sig).toArray.setIfInBounds (33 + j) (.int .u8 z) = (cBundle device agree (signer.set j z) id once sig).toArray := by
  rw [show (cBundle device agree signer id once sig) = ([device] ++ (agree.map (Value.int .u8))) ++ (signer.map (Value.int .u8) ++ ([id] ++ (once.map (Value.int .u8) ++ (sig.map (Value.int .u8))))) by simp [cBundle]]
  rw [show (cBundle device agree (signer.set j z) id once sig) = ([device] ++ (agree.map (Value.int .u8))) ++ ((signer.set j z).map (Value.int .u8) ++ ([id] ++ (once.map (Value.int .u8) ++ (sig.map (Value.int .u8))))) by simp [cBundle]]
  exact seg_put (by simp [hagree, hsigner, honce, hsig]) (by rw [hsigner]; exact hj)
theorem cBundle_ext_id (device : Value) (agree : List Int) (signer : List Int) (id : Value) (once : List Int) (sig : List Int) (hagree : agree.length = 32) (hsigner : signer.length = 32) (honce : once.length = 32) (hsig : sig.length = 64) : (cBundle device agree signer id once sig).toArray.extract 65 66 = ([id]).toArray := by
  rw [show (cBundle device agree signer id once sig) = ([device] ++ (agree.map (Value.int .u8) ++ (signer.map (Value.int .u8)))) ++ ([id] ++ (once.map (Value.int .u8) ++ (sig.map (Value.int .u8)))) by simp [cBundle]]
  exact seg_ext (by simp [hagree, hsigner, honce, hsig]) (by simp [hagree, hsigner, honce, hsig])
theorem cBundle_get_id (device : Value) (agree : List Int) (signer : List Int) (id : Value) (once : List Int) (sig : List Int) (hagree : agree.length = 32) (hsigner : signer.length = 32) (honce : once.length = 32) (hsig : sig.length = 64) : (cBundle device agree signer id once sig).toArray[65]? = some id := by
  rw [show (cBundle device agree signer id once sig) = ([device] ++ (agree.map (Value.int .u8) ++ (signer.map (Value.int .u8)))) ++ ([id] ++ (once.map (Value.int .u8) ++ (sig.map (Value.int .u8)))) by simp [cBundle]]
  exact seg_get (by simp [hagree, hsigner, honce, hsig])
theorem cBundle_set_id (device : Value) (agree : List Int) (signer : List Int) (id : Value) (once : List Int) (sig : List Int) (z : Value) (hagree : agree.length = 32) (hsigner : signer.length = 32) (honce : once.length = 32) (hsig : sig.length = 64) : (cBundle device agree signer id once sig).toArray.setIfInBounds 65 z = (cBundle device agree signer z once sig).toArray := by
  rw [show (cBundle device agree signer id once sig) = ([device] ++ (agree.map (Value.int .u8) ++ (signer.map (Value.int .u8)))) ++ ([id] ++ (once.map (Value.int .u8) ++ (sig.map (Value.int .u8)))) by simp [cBundle]]
  rw [show (cBundle device agree signer z once sig) = ([device] ++ (agree.map (Value.int .u8) ++ (signer.map (Value.int .u8)))) ++ ([z] ++ (once.map (Value.int .u8) ++ (sig.map (Value.int .u8)))) by simp [cBundle]]
  exact seg_set (by simp [hagree, hsigner, honce, hsig])
theorem cBundle_ext_once (device : Value) (agree : List Int) (signer : List Int) (id : Value) (once : List Int) (sig : List Int) (hagree : agree.length = 32) (hsigner : signer.length = 32) (honce : once.length = 32) (hsig : sig.length = 64) : (cBundle device agree signer id once sig).toArray.extract 66 98 = (once.map (Value.int .u8)).toArray := by
  rw [show (cBundle device agree signer id once sig) = ([device] ++ (agree.map (Value.int .u8) ++ (signer.map (Value.int .u8) ++ ([id])))) ++ (once.map (Value.int .u8) ++ (sig.map (Value.int .u8))) by simp [cBundle]]
  exact seg_ext (by simp [hagree, hsigner, honce, hsig]) (by simp [hagree, hsigner, honce, hsig])
theorem cBundle_spl_once (device : Value) (agree : List Int) (signer : List Int) (id : Value) (once : List Int) (sig : List Int) (z : List Int) (hagree : agree.length = 32) (hsigner : signer.length = 32) (honce : once.length = 32) (hsig : sig.length = 64) (hz : z.length = 32) : spl (cBundle device agree signer id once sig).toArray 66 (z.map (Value.int .u8)) = (cBundle device agree signer id z sig).toArray := by
  rw [show (cBundle device agree signer id once sig) = ([device] ++ (agree.map (Value.int .u8) ++ (signer.map (Value.int .u8) ++ ([id])))) ++ (once.map (Value.int .u8) ++ (sig.map (Value.int .u8))) by simp [cBundle]]
  rw [show (cBundle device agree signer id z sig) = ([device] ++ (agree.map (Value.int .u8) ++ (signer.map (Value.int .u8) ++ ([id])))) ++ (z.map (Value.int .u8) ++ (sig.map (Value.int .u8))) by simp [cBundle]]
  exact seg_spl (by simp [hagree, hsigner, honce, hsig]) (by simp [honce, hz])
theorem cBundle_el_once (device : Value) (agree : List Int) (signer : List Int) (id : Value) (once : List Int) (sig : List Int) (hagree : agree.length = 32) (hsigner : signer.length = 32) (honce : once.length = 32) (hsig : sig.length = 64) {j : Nat} (hj : j < 32) : (cBundle device agree signer id once sig).toArray[66 + j]? = some (.int .u8 (el once j)) := by
  rw [show (cBundle device agree signer id once sig) = ([device] ++ (agree.map (Value.int .u8) ++ (signer.map (Value.int .u8) ++ ([id])))) ++ (once.map (Value.int .u8) ++ (sig.map (Value.int .u8))) by simp [cBundle]]
  exact seg_el (by simp [hagree, hsigner, honce, hsig]) (by rw [honce]; exact hj)
theorem cBundle_put_once (device : Value) (agree : List Int) (signer : List Int) (id : Value) (once : List Int) (sig : List Int) (hagree : agree.length = 32) (hsigner : signer.length = 32) (honce : once.length = 32) (hsig : sig.length = 64) {j : Nat} (hj : j < 32) (z : Int) : (cBundle device agree signer id once sig).toArray.setIfInBounds (66 + j) (.int .u8 z) = (cBundle device agree signer id (once.set j z) sig).toArray := by
  rw [show (cBundle device agree signer id once sig) = ([device] ++ (agree.map (Value.int .u8) ++ (signer.map (Value.int .u8) ++ ([id])))) ++ (once.map (Value.int .u8) ++ (sig.map (Value.int .u8))) by simp [cBundle]]
  rw [show (cBundle device agree signer id (once.set j z) sig) = ([device] ++ (agree.map (Value.int .u8) ++ (signer.map (Value.int .u8) ++ ([id])))) ++ ((once.set j z).map (Value.int .u8) ++ (sig.map (Value.int .u8))) by simp [cBundle]]
  exact seg_put (by simp [hagree, hsigner, honce, hsig]) (by rw [honce]; exact hj)
theorem cBundle_ext_sig (device : Value) (agree : List Int) (signer : List Int) (id : Value) (once : List Int) (sig : List Int) (hagree : agree.length = 32) (hsigner : signer.length = 32) (honce : once.length = 32) (hsig : sig.length = 64) : (cBundle device agree signer id once sig).toArray.extract 98 162 = (sig.map (Value.int .u8)).toArray := by
  rw [show (cBundle device agree signer id once sig) = ([device] ++ (agree.map (Value.int .u8) ++ (signer.map (Value.int .u8) ++ ([id] ++ (once.map (Value.int .u8)))))) ++ (sig.map (Value.int .u8) ++ ([])) by simp [cBundle]]
  exact seg_ext (by simp [hagree, hsigner, honce, hsig]) (by simp [hagree, hsigner, honce, hsig])
theorem cBundle_spl_sig (device : Value) (agree : List Int) (signer : List Int) (id : Value) (once : List Int) (sig : List Int) (z : List Int) (hagree : agree.length = 32) (hsigner : signer.length = 32) (honce : once.length = 32) (hsig : sig.length = 64) (hz : z.length = 64) : spl (cBundle device agree signer id once sig).toArray 98 (z.map (Value.int .u8)) = (cBundle device agree signer id once z).toArray := by
  rw [show (cBundle device agree signer id once sig) = ([device] ++ (agree.map (Value.int .u8) ++ (signer.map (Value.int .u8) ++ ([id] ++ (once.map (Value.int .u8)))))) ++ (sig.map (Value.int .u8) ++ ([])) by simp [cBundle]]
  rw [show (cBundle device agree signer id once z) = ([device] ++ (agree.map (Value.int .u8) ++ (signer.map (Value.int .u8) ++ ([id] ++ (once.map (Value.int .u8)))))) ++ (z.map (Value.int .u8) ++ ([])) by simp [cBundle]]
  exact seg_spl (by simp [hagree, hsigner, honce, hsig]) (by simp [hsig, hz])
theorem cBundle_el_sig (device : Value) (agree : List Int) (signer : List Int) (id : Value) (once : List Int) (sig : List Int) (hagree : agree.length = 32) (hsigner : signer.length = 32) (honce : once.length = 32) (hsig : sig.length = 64) {j : Nat} (hj : j < 64) : (cBundle device agree signer id once sig).toArray[98 + j]? = some (.int .u8 (el sig j)) := by
  rw [show (cBundle device agree signer id once sig) = ([device] ++ (agree.map (Value.int .u8) ++ (signer.map (Value.int .u8) ++ ([id] ++ (once.map (Value.int .u8)))))) ++ (sig.map (Value.int .u8) ++ ([])) by simp [cBundle]]
  exact seg_el (by simp [hagree, hsigner, honce, hsig]) (by rw [hsig]; exact hj)
theorem cBundle_put_sig (device : Value) (agree : List Int) (signer : List Int) (id : Value) (once : List Int) (sig : List Int) (hagree : agree.length = 32) (hsigner : signer.length = 32) (honce : once.length = 32) (hsig : sig.length = 64) {j : Nat} (hj : j < 64) (z : Int) : (cBundle device agree signer id once sig).toArray.setIfInBounds (98 + j) (.int .u8 z) = (cBundle device agree signer id once (sig.set j z)).toArray := by
  rw [show (cBundle device agree signer id once sig) = ([device] ++ (agree.map (Value.int .u8) ++ (signer.map (Value.int .u8) ++ ([id] ++ (once.map (Value.int .u8)))))) ++ (sig.map (Value.int .u8) ++ ([])) by simp [cBundle]]
  rw [show (cBundle device agree signer id once (sig.set j z)) = ([device] ++ (agree.map (Value.int .u8) ++ (signer.map (Value.int .u8) ++ ([id] ++ (once.map (Value.int .u8)))))) ++ ((sig.set j z).map (Value.int .u8) ++ ([])) by simp [cBundle]]
  exact seg_put (by simp [hagree, hsigner, honce, hsig]) (by rw [hsig]; exact hj)
/-! ### Shelf: 165 cells -/
def cShelf (has : Value) (fall : List Value) (left : Value) (last : Value) : List Value := [has] ++ (fall ++ ([left] ++ ([last])))
theorem cShelf_length (has : Value) (fall : List Value) (left : Value) (last : Value) (hfall : fall.length = 162) : (cShelf has fall left last).length = 165 := by simp [cShelf, hfall]
theorem cShelf_one (has : Value) (fall : List Value) (left : Value) (last : Value) (ohas : has.oneCell' = true) (ofall : ∀ u ∈ fall, u.oneCell' = true) (oleft : left.oneCell' = true) (olast : last.oneCell' = true) : ∀ u ∈ (cShelf has fall left last), u.oneCell' = true := by
  intro u hu
  simp only [cShelf, List.mem_append, List.mem_singleton, List.mem_map] at hu
  rcases hu with rfl | hu | rfl | rfl
  · exact ohas
  · exact ofall u hu
  · exact oleft
  · exact olast
theorem cShelf_ext_has (has : Value) (fall : List Value) (left : Value) (last : Value) (hfall : fall.length = 162) : (cShelf has fall left last).toArray.extract 0 1 = ([has]).toArray := by
  rw [show (cShelf has fall left last) = ([]) ++ ([has] ++ (fall ++ ([left] ++ ([last])))) by simp [cShelf]]
  exact seg_ext (by simp [hfall]) (by simp [hfall])
theorem cShelf_get_has (has : Value) (fall : List Value) (left : Value) (last : Value) (hfall : fall.length = 162) : (cShelf has fall left last).toArray[0]? = some has := by
  rw [show (cShelf has fall left last) = ([]) ++ ([has] ++ (fall ++ ([left] ++ ([last])))) by simp [cShelf]]
  exact seg_get (by simp [hfall])
theorem cShelf_set_has (has : Value) (fall : List Value) (left : Value) (last : Value) (z : Value) (hfall : fall.length = 162) : (cShelf has fall left last).toArray.setIfInBounds 0 z = (cShelf z fall left last).toArray := by
  rw [show (cShelf has fall left last) = ([]) ++ ([has] ++ (fall ++ ([left] ++ ([last])))) by simp [cShelf]]
  rw [show (cShelf z fall left last) = ([]) ++ ([z] ++ (fall ++ ([left] ++ ([last])))) by simp [cShelf]]
  exact seg_set (by simp [hfall])
theorem cShelf_ext_fall (has : Value) (fall : List Value) (left : Value) (last : Value) (hfall : fall.length = 162) : (cShelf has fall left last).toArray.extract 1 163 = (fall).toArray := by
  rw [show (cShelf has fall left last) = ([has]) ++ (fall ++ ([left] ++ ([last]))) by simp [cShelf]]
  exact seg_ext (by simp [hfall]) (by simp [hfall])
theorem cShelf_spl_fall (has : Value) (fall : List Value) (left : Value) (last : Value) (z : List Value) (hfall : fall.length = 162) (hz : z.length = 162) : spl (cShelf has fall left last).toArray 1 (z) = (cShelf has z left last).toArray := by
  rw [show (cShelf has fall left last) = ([has]) ++ (fall ++ ([left] ++ ([last]))) by simp [cShelf]]
  rw [show (cShelf has z left last) = ([has]) ++ (z ++ ([left] ++ ([last]))) by simp [cShelf]]
  exact seg_spl (by simp [hfall]) (by simp [hfall, hz])
theorem cShelf_ext_left (has : Value) (fall : List Value) (left : Value) (last : Value) (hfall : fall.length = 162) : (cShelf has fall left last).toArray.extract 163 164 = ([left]).toArray := by
  rw [show (cShelf has fall left last) = ([has] ++ (fall)) ++ ([left] ++ ([last])) by simp [cShelf]]
  exact seg_ext (by simp [hfall]) (by simp [hfall])
theorem cShelf_get_left (has : Value) (fall : List Value) (left : Value) (last : Value) (hfall : fall.length = 162) : (cShelf has fall left last).toArray[163]? = some left := by
  rw [show (cShelf has fall left last) = ([has] ++ (fall)) ++ ([left] ++ ([last])) by simp [cShelf]]
  exact seg_get (by simp [hfall])
theorem cShelf_set_left (has : Value) (fall : List Value) (left : Value) (last : Value) (z : Value) (hfall : fall.length = 162) : (cShelf has fall left last).toArray.setIfInBounds 163 z = (cShelf has fall z last).toArray := by
  rw [show (cShelf has fall left last) = ([has] ++ (fall)) ++ ([left] ++ ([last])) by simp [cShelf]]
  rw [show (cShelf has fall z last) = ([has] ++ (fall)) ++ ([z] ++ ([last])) by simp [cShelf]]
  exact seg_set (by simp [hfall])
theorem cShelf_ext_last (has : Value) (fall : List Value) (left : Value) (last : Value) (hfall : fall.length = 162) : (cShelf has fall left last).toArray.extract 164 165 = ([last]).toArray := by
  rw [show (cShelf has fall left last) = ([has] ++ (fall ++ ([left]))) ++ ([last] ++ ([])) by simp [cShelf]]
  exact seg_ext (by simp [hfall]) (by simp [hfall])
theorem cShelf_get_last (has : Value) (fall : List Value) (left : Value) (last : Value) (hfall : fall.length = 162) : (cShelf has fall left last).toArray[164]? = some last := by
  rw [show (cShelf has fall left last) = ([has] ++ (fall ++ ([left]))) ++ ([last] ++ ([])) by simp [cShelf]]
  exact seg_get (by simp [hfall])
theorem cShelf_set_last (has : Value) (fall : List Value) (left : Value) (last : Value) (z : Value) (hfall : fall.length = 162) : (cShelf has fall left last).toArray.setIfInBounds 164 z = (cShelf has fall left z).toArray := by
  rw [show (cShelf has fall left last) = ([has] ++ (fall ++ ([left]))) ++ ([last] ++ ([])) by simp [cShelf]]
  rw [show (cShelf has fall left z) = ([has] ++ (fall ++ ([left]))) ++ ([z] ++ ([])) by simp [cShelf]]
  exact seg_set (by simp [hfall])
end Go
