/- SignVerifies, SignSigns, SignBack: for all inputs. -/
import Derived.Test.YtakhmmnklkckpaaSgL
import Derived.Test.YtakhmmnklkckpaaSgM
namespace Go.Proofs.Ytakhmmnklkckpaa
open Go.RowKit Go.Dr
theorem signBack_walk {w : World} {S t : List Int} {p : Option Addr} {n cap : Nat} (lS : S.length = 32) (hS : Byt S) (St : Sl .u8 w p n cap t) (ht : Byt t) :
    Calls Try.prog 23 #[.agg (ints .u8 S), .slice p n cap] w fun e w' => e = .returned (.bool true) ∧ Fr [] w w' :=
  signBack_core lS hS St ht rfl rfl fun _ => ver_sign S t
theorem signSigns_walk {w : World} {S t : List Int} {p : Option Addr} {n cap : Nat} (lS : S.length = 32) (hS : Byt S) (St : Sl .u8 w p n cap t) (ht : Byt t) :
    Calls Try.prog 22 #[.agg (ints .u8 S), .slice p n cap] w fun e w' => e = .returned (.bool true) ∧ Fr [] w w' :=
  signSigns_core lS hS St ht rfl (length_signB S t)
theorem signVerifies_walk {w : World} {B t sig : List Int} {p : Option Addr} {n cap : Nat} (lB : B.length = 32) (yB : Byt B) (St : Sl .u8 w p n cap t) (ht : Byt t) (lsig : sig.length = 64) (ysig : Byt sig) :
    Calls Try.prog 21 #[.agg (ints .u8 B), .slice p n cap, .agg (ints .u8 sig)] w fun e w' => e = .returned (.bool true) ∧ Fr [] w w' :=
  signVerifies_core lB yB lsig ysig St ht rfl
end Go.Proofs.Ytakhmmnklkckpaa
