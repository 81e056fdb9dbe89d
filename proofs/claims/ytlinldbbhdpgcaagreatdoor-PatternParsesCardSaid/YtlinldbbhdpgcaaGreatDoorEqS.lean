import Derived.Test.YtlinldbbhdpgcaaGreatDoorShelf
import Derived.Shelf.Slices.Empties2
namespace Go.Proofs
open Go.Shelf
theorem Tryz.slices_Equal_int_lens (a1 a2 : Option Addr) (n c m d : Nat) (w : World) (hnm : n ≠ m) :
    Calls Tryz.prog 47 #[.slice a1 n c, .slice a2 m d] w fun e w' => e = .returned (.bool false) ∧ w' = w := Any.slices_Equal_int_lens Tryz.lays111 a1 a2 n c m d w hnm


end Go.Proofs
