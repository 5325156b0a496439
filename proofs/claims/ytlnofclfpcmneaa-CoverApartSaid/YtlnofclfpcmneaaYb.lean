/- The program's head and other closed facts on the whole program. Own work, printed by a program. -/
import Derived.Test.YtlnofclfpcmneaaProg
import Derived.ChangeSame
import Derived.Test.YtlnofclfpcmneaaYc
namespace Mh
open Go Go.Proofs
theorem headed : Headed Try.prog := ⟨[Char.ofNat 53, Char.ofNat 53, Char.ofNat 97, Char.ofNat 97, Char.ofNat 48, Char.ofNat 50, Char.ofNat 101, Char.ofNat 50, Char.ofNat 97, Char.ofNat 102, Char.ofNat 97, Char.ofNat 50,
  Char.ofNat 53, Char.ofNat 100, Char.ofNat 54, Char.ofNat 54, Char.ofNat 48, Char.ofNat 53, Char.ofNat 57, Char.ofNat 56, Char.ofNat 51, Char.ofNat 53, Char.ofNat 99, Char.ofNat 54,
  Char.ofNat 97, Char.ofNat 54, Char.ofNat 54, Char.ofNat 49, Char.ofNat 100, Char.ofNat 48, Char.ofNat 100, Char.ofNat 52, Char.ofNat 57, Char.ofNat 101, Char.ofNat 100, Char.ofNat 99,
  Char.ofNat 52, Char.ofNat 51, Char.ofNat 53, Char.ofNat 55, Char.ofNat 99, Char.ofNat 101, Char.ofNat 56, Char.ofNat 99, Char.ofNat 53, Char.ofNat 57, Char.ofNat 50, Char.ofNat 49,
  Char.ofNat 56, Char.ofNat 97, Char.ofNat 55, Char.ofNat 57, Char.ofNat 53, Char.ofNat 54, Char.ofNat 49, Char.ofNat 54, Char.ofNat 100, Char.ofNat 102, Char.ofNat 49, Char.ofNat 51,
  Char.ofNat 48, Char.ofNat 100, Char.ofNat 50, Char.ofNat 99],
  [Char.ofNat 97, Char.ofNat 116, Char.ofNat 32, Char.ofNat 109, Char.ofNat 105, Char.ofNat 108, Char.ofNat 101, Char.ofNat 112, Char.ofNat 111, Char.ofNat 115, Char.ofNat 116, Char.ofNat 47,
  Char.ofNat 109, Char.ofNat 105, Char.ofNat 108, Char.ofNat 101, Char.ofNat 112, Char.ofNat 111, Char.ofNat 115, Char.ofNat 116, Char.ofNat 108, Char.ofNat 97, Char.ofNat 119, Char.ofNat 48,
  Char.ofNat 57, Char.ofNat 46, Char.ofNat 87, Char.ofNat 105, Char.ofNat 114, Char.ofNat 101, Char.ofNat 80, Char.ofNat 117, Char.ofNat 116, Char.ofNat 115, Char.ofNat 32, Char.ofNat 109,
  Char.ofNat 105, Char.ofNat 108, Char.ofNat 101, Char.ofNat 112, Char.ofNat 111, Char.ofNat 115, Char.ofNat 116, Char.ofNat 47, Char.ofNat 109, Char.ofNat 105, Char.ofNat 108, Char.ofNat 101,
  Char.ofNat 112, Char.ofNat 111, Char.ofNat 115, Char.ofNat 116, Char.ofNat 108, Char.ofNat 97, Char.ofNat 119, Char.ofNat 48, Char.ofNat 57, Char.ofNat 46, Char.ofNat 87, Char.ofNat 105,
  Char.ofNat 114, Char.ofNat 101, Char.ofNat 84, Char.ofNat 97, Char.ofNat 107, Char.ofNat 101, Char.ofNat 115, Char.ofNat 32, Char.ofNat 109, Char.ofNat 105, Char.ofNat 108, Char.ofNat 101,
  Char.ofNat 112, Char.ofNat 111, Char.ofNat 115, Char.ofNat 116, Char.ofNat 47, Char.ofNat 109, Char.ofNat 105, Char.ofNat 108, Char.ofNat 101, Char.ofNat 112, Char.ofNat 111, Char.ofNat 115,
  Char.ofNat 116, Char.ofNat 108, Char.ofNat 97, Char.ofNat 119, Char.ofNat 48, Char.ofNat 57, Char.ofNat 46, Char.ofNat 87, Char.ofNat 105, Char.ofNat 114, Char.ofNat 101, Char.ofNat 67,
  Char.ofNat 117, Char.ofNat 98, Char.ofNat 101, Char.ofNat 115, Char.ofNat 32, Char.ofNat 109, Char.ofNat 105, Char.ofNat 108, Char.ofNat 101, Char.ofNat 112, Char.ofNat 111, Char.ofNat 115,
  Char.ofNat 116, Char.ofNat 47, Char.ofNat 109, Char.ofNat 105, Char.ofNat 108, Char.ofNat 101, Char.ofNat 112, Char.ofNat 111, Char.ofNat 115, Char.ofNat 116, Char.ofNat 108, Char.ofNat 97,
  Char.ofNat 119, Char.ofNat 48, Char.ofNat 57, Char.ofNat 46, Char.ofNat 87, Char.ofNat 105, Char.ofNat 114, Char.ofNat 101, Char.ofNat 83, Char.ofNat 101, Char.ofNat 97, Char.ofNat 108,
  Char.ofNat 115, Char.ofNat 32, Char.ofNat 109, Char.ofNat 105, Char.ofNat 108, Char.ofNat 101, Char.ofNat 112, Char.ofNat 111, Char.ofNat 115, Char.ofNat 116, Char.ofNat 47, Char.ofNat 109,
  Char.ofNat 105, Char.ofNat 108, Char.ofNat 101, Char.ofNat 112, Char.ofNat 111, Char.ofNat 115, Char.ofNat 116, Char.ofNat 108, Char.ofNat 97, Char.ofNat 119, Char.ofNat 48, Char.ofNat 57,
  Char.ofNat 46, Char.ofNat 87, Char.ofNat 105, Char.ofNat 114, Char.ofNat 101, Char.ofNat 79, Char.ofNat 112, Char.ofNat 101, Char.ofNat 110, Char.ofNat 115, Char.ofNat 32, Char.ofNat 109,
  Char.ofNat 105, Char.ofNat 108, Char.ofNat 101, Char.ofNat 112, Char.ofNat 111, Char.ofNat 115, Char.ofNat 116, Char.ofNat 47, Char.ofNat 109, Char.ofNat 105, Char.ofNat 108, Char.ofNat 101,
  Char.ofNat 112, Char.ofNat 111, Char.ofNat 115, Char.ofNat 116, Char.ofNat 108, Char.ofNat 97, Char.ofNat 119, Char.ofNat 48, Char.ofNat 57, Char.ofNat 46, Char.ofNat 87, Char.ofNat 105,
  Char.ofNat 114, Char.ofNat 101, Char.ofNat 79, Char.ofNat 119, Char.ofNat 110, Char.ofNat 32, Char.ofNat 109, Char.ofNat 105, Char.ofNat 108, Char.ofNat 101, Char.ofNat 112, Char.ofNat 111,
  Char.ofNat 115, Char.ofNat 116, Char.ofNat 47, Char.ofNat 109, Char.ofNat 105, Char.ofNat 108, Char.ofNat 101, Char.ofNat 112, Char.ofNat 111, Char.ofNat 115, Char.ofNat 116, Char.ofNat 108,
  Char.ofNat 97, Char.ofNat 119, Char.ofNat 49, Char.ofNat 53, Char.ofNat 46, Char.ofNat 65, Char.ofNat 114, Char.ofNat 111, Char.ofNat 117, Char.ofNat 110, Char.ofNat 100, Char.ofNat 65,
  Char.ofNat 98, Char.ofNat 111, Char.ofNat 117, Char.ofNat 116, Char.ofNat 32, Char.ofNat 109, Char.ofNat 105, Char.ofNat 108, Char.ofNat 101, Char.ofNat 112, Char.ofNat 111, Char.ofNat 115,
  Char.ofNat 116, Char.ofNat 47, Char.ofNat 109, Char.ofNat 105, Char.ofNat 108, Char.ofNat 101, Char.ofNat 112, Char.ofNat 111, Char.ofNat 115, Char.ofNat 116, Char.ofNat 108, Char.ofNat 97,
  Char.ofNat 119, Char.ofNat 49, Char.ofNat 53, Char.ofNat 46, Char.ofNat 65, Char.ofNat 114, Char.ofNat 111, Char.ofNat 117, Char.ofNat 110, Char.ofNat 100, Char.ofNat 77, Char.ofNat 111,
  Char.ofNat 115, Char.ofNat 116, Char.ofNat 32, Char.ofNat 109, Char.ofNat 105, Char.ofNat 108, Char.ofNat 101, Char.ofNat 112, Char.ofNat 111, Char.ofNat 115, Char.ofNat 116, Char.ofNat 47,
  Char.ofNat 109, Char.ofNat 105, Char.ofNat 108, Char.ofNat 101, Char.ofNat 112, Char.ofNat 111, Char.ofNat 115, Char.ofNat 116, Char.ofNat 108, Char.ofNat 97, Char.ofNat 119, Char.ofNat 49,
  Char.ofNat 53, Char.ofNat 46, Char.ofNat 65, Char.ofNat 114, Char.ofNat 111, Char.ofNat 117, Char.ofNat 110, Char.ofNat 100, Char.ofNat 83, Char.ofNat 97, Char.ofNat 102, Char.ofNat 101,
  Char.ofNat 32, Char.ofNat 109, Char.ofNat 105, Char.ofNat 108, Char.ofNat 101, Char.ofNat 112, Char.ofNat 111, Char.ofNat 115, Char.ofNat 116, Char.ofNat 47, Char.ofNat 109, Char.ofNat 105,
  Char.ofNat 108, Char.ofNat 101, Char.ofNat 112, Char.ofNat 111, Char.ofNat 115, Char.ofNat 116, Char.ofNat 108, Char.ofNat 97, Char.ofNat 119, Char.ofNat 49, Char.ofNat 53, Char.ofNat 46,
  Char.ofNat 65, Char.ofNat 114, Char.ofNat 111, Char.ofNat 117, Char.ofNat 110, Char.ofNat 100, Char.ofNat 84, Char.ofNat 119, Char.ofNat 105, Char.ofNat 99, Char.ofNat 101, Char.ofNat 32,
  Char.ofNat 109, Char.ofNat 105, Char.ofNat 108, Char.ofNat 101, Char.ofNat 112, Char.ofNat 111, Char.ofNat 115, Char.ofNat 116, Char.ofNat 47, Char.ofNat 109, Char.ofNat 105, Char.ofNat 108,
  Char.ofNat 101, Char.ofNat 112, Char.ofNat 111, Char.ofNat 115, Char.ofNat 116, Char.ofNat 108, Char.ofNat 97, Char.ofNat 119, Char.ofNat 48, Char.ofNat 50, Char.ofNat 46, Char.ofNat 67,
  Char.ofNat 117, Char.ofNat 98, Char.ofNat 101, Char.ofNat 77, Char.ofNat 101, Char.ofNat 101, Char.ofNat 116, Char.ofNat 115, Char.ofNat 32, Char.ofNat 109, Char.ofNat 105, Char.ofNat 108,
  Char.ofNat 101, Char.ofNat 112, Char.ofNat 111, Char.ofNat 115, Char.ofNat 116, Char.ofNat 47, Char.ofNat 109, Char.ofNat 105, Char.ofNat 108, Char.ofNat 101, Char.ofNat 112, Char.ofNat 111,
  Char.ofNat 115, Char.ofNat 116, Char.ofNat 108, Char.ofNat 97, Char.ofNat 119, Char.ofNat 48, Char.ofNat 50, Char.ofNat 46, Char.ofNat 67, Char.ofNat 117, Char.ofNat 98, Char.ofNat 101,
  Char.ofNat 70, Char.ofNat 105, Char.ofNat 120, Char.ofNat 101, Char.ofNat 115, Char.ofNat 32, Char.ofNat 109, Char.ofNat 105, Char.ofNat 108, Char.ofNat 101, Char.ofNat 112, Char.ofNat 111,
  Char.ofNat 115, Char.ofNat 116, Char.ofNat 47, Char.ofNat 109, Char.ofNat 105, Char.ofNat 108, Char.ofNat 101, Char.ofNat 112, Char.ofNat 111, Char.ofNat 115, Char.ofNat 116, Char.ofNat 108,
  Char.ofNat 97, Char.ofNat 119, Char.ofNat 48, Char.ofNat 50, Char.ofNat 46, Char.ofNat 67, Char.ofNat 117, Char.ofNat 98, Char.ofNat 101, Char.ofNat 77, Char.ofNat 105, Char.ofNat 110,
  Char.ofNat 117, Char.ofNat 115, Char.ofNat 32, Char.ofNat 109, Char.ofNat 105, Char.ofNat 108, Char.ofNat 101, Char.ofNat 112, Char.ofNat 111, Char.ofNat 115, Char.ofNat 116, Char.ofNat 47,
  Char.ofNat 109, Char.ofNat 105, Char.ofNat 108, Char.ofNat 101, Char.ofNat 112, Char.ofNat 111, Char.ofNat 115, Char.ofNat 116, Char.ofNat 108, Char.ofNat 97, Char.ofNat 119, Char.ofNat 49,
  Char.ofNat 53, Char.ofNat 46, Char.ofNat 65, Char.ofNat 114, Char.ofNat 111, Char.ofNat 117, Char.ofNat 110, Char.ofNat 100, Char.ofNat 78, Char.ofNat 101, Char.ofNat 101, Char.ofNat 100,
  Char.ofNat 115, Char.ofNat 32, Char.ofNat 109, Char.ofNat 105, Char.ofNat 108, Char.ofNat 101, Char.ofNat 112, Char.ofNat 111, Char.ofNat 115, Char.ofNat 116, Char.ofNat 47, Char.ofNat 109,
  Char.ofNat 105, Char.ofNat 108, Char.ofNat 101, Char.ofNat 112, Char.ofNat 111, Char.ofNat 115, Char.ofNat 116, Char.ofNat 108, Char.ofNat 97, Char.ofNat 119, Char.ofNat 48, Char.ofNat 50,
  Char.ofNat 46, Char.ofNat 67, Char.ofNat 117, Char.ofNat 98, Char.ofNat 101, Char.ofNat 87, Char.ofNat 105, Char.ofNat 116, Char.ofNat 104, Char.ofNat 105, Char.ofNat 110, Char.ofNat 32,
  Char.ofNat 109, Char.ofNat 105, Char.ofNat 108, Char.ofNat 101, Char.ofNat 112, Char.ofNat 111, Char.ofNat 115, Char.ofNat 116, Char.ofNat 47, Char.ofNat 109, Char.ofNat 105, Char.ofNat 108,
  Char.ofNat 101, Char.ofNat 112, Char.ofNat 111, Char.ofNat 115, Char.ofNat 116, Char.ofNat 108, Char.ofNat 97, Char.ofNat 119, Char.ofNat 48, Char.ofNat 50, Char.ofNat 46, Char.ofNat 67,
  Char.ofNat 117, Char.ofNat 98, Char.ofNat 101, Char.ofNat 72, Char.ofNat 97, Char.ofNat 115, Char.ofNat 32, Char.ofNat 109, Char.ofNat 105, Char.ofNat 108, Char.ofNat 101, Char.ofNat 112,
  Char.ofNat 111, Char.ofNat 115, Char.ofNat 116, Char.ofNat 47, Char.ofNat 109, Char.ofNat 105, Char.ofNat 108, Char.ofNat 101, Char.ofNat 112, Char.ofNat 111, Char.ofNat 115, Char.ofNat 116,
  Char.ofNat 108, Char.ofNat 97, Char.ofNat 119, Char.ofNat 48, Char.ofNat 50, Char.ofNat 46, Char.ofNat 67, Char.ofNat 117, Char.ofNat 98, Char.ofNat 101, Char.ofNat 69, Char.ofNat 110,
  Char.ofNat 100, Char.ofNat 115, Char.ofNat 32, Char.ofNat 109, Char.ofNat 105, Char.ofNat 108, Char.ofNat 101, Char.ofNat 112, Char.ofNat 111, Char.ofNat 115, Char.ofNat 116, Char.ofNat 47,
  Char.ofNat 109, Char.ofNat 105, Char.ofNat 108, Char.ofNat 101, Char.ofNat 112, Char.ofNat 111, Char.ofNat 115, Char.ofNat 116, Char.ofNat 108, Char.ofNat 97, Char.ofNat 119, Char.ofNat 48,
  Char.ofNat 50, Char.ofNat 46, Char.ofNat 67, Char.ofNat 117, Char.ofNat 98, Char.ofNat 101, Char.ofNat 84, Char.ofNat 101, Char.ofNat 120, Char.ofNat 116, Char.ofNat 115, Char.ofNat 32,
  Char.ofNat 109, Char.ofNat 105, Char.ofNat 108, Char.ofNat 101, Char.ofNat 112, Char.ofNat 111, Char.ofNat 115, Char.ofNat 116, Char.ofNat 47, Char.ofNat 109, Char.ofNat 105, Char.ofNat 108,
  Char.ofNat 101, Char.ofNat 112, Char.ofNat 111, Char.ofNat 115, Char.ofNat 116, Char.ofNat 108, Char.ofNat 97, Char.ofNat 119, Char.ofNat 49, Char.ofNat 54, Char.ofNat 46, Char.ofNat 77,
  Char.ofNat 115, Char.ofNat 103, Char.ofNat 82, Char.ofNat 105, Char.ofNat 103, Char.ofNat 104, Char.ofNat 116, Char.ofNat 32, Char.ofNat 109, Char.ofNat 105, Char.ofNat 108, Char.ofNat 101,
  Char.ofNat 112, Char.ofNat 111, Char.ofNat 115, Char.ofNat 116, Char.ofNat 47, Char.ofNat 109, Char.ofNat 105, Char.ofNat 108, Char.ofNat 101, Char.ofNat 112, Char.ofNat 111, Char.ofNat 115,
  Char.ofNat 116, Char.ofNat 108, Char.ofNat 97, Char.ofNat 119, Char.ofNat 49, Char.ofNat 54, Char.ofNat 46, Char.ofNat 77, Char.ofNat 115, Char.ofNat 103, Char.ofNat 85, Char.ofNat 110,
  Char.ofNat 108, Char.ofNat 105, Char.ofNat 107, Char.ofNat 101, Char.ofNat 32, Char.ofNat 109, Char.ofNat 105, Char.ofNat 108, Char.ofNat 101, Char.ofNat 112, Char.ofNat 111, Char.ofNat 115,
  Char.ofNat 116, Char.ofNat 47, Char.ofNat 109, Char.ofNat 105, Char.ofNat 108, Char.ofNat 101, Char.ofNat 112, Char.ofNat 111, Char.ofNat 115, Char.ofNat 116, Char.ofNat 108, Char.ofNat 97,
  Char.ofNat 119, Char.ofNat 48, Char.ofNat 50, Char.ofNat 46, Char.ofNat 67, Char.ofNat 117, Char.ofNat 98, Char.ofNat 101, Char.ofNat 79, Char.ofNat 110, Char.ofNat 101, Char.ofNat 32,
  Char.ofNat 109, Char.ofNat 105, Char.ofNat 108, Char.ofNat 101, Char.ofNat 112, Char.ofNat 111, Char.ofNat 115, Char.ofNat 116, Char.ofNat 47, Char.ofNat 109, Char.ofNat 105, Char.ofNat 108,
  Char.ofNat 101, Char.ofNat 112, Char.ofNat 111, Char.ofNat 115, Char.ofNat 116, Char.ofNat 108, Char.ofNat 97, Char.ofNat 119, Char.ofNat 48, Char.ofNat 51, Char.ofNat 46, Char.ofNat 67,
  Char.ofNat 111, Char.ofNat 118, Char.ofNat 101, Char.ofNat 114, Char.ofNat 76, Char.ofNat 101, Char.ofNat 102, Char.ofNat 116, Char.ofNat 32, Char.ofNat 109, Char.ofNat 105, Char.ofNat 108,
  Char.ofNat 101, Char.ofNat 112, Char.ofNat 111, Char.ofNat 115, Char.ofNat 116, Char.ofNat 47, Char.ofNat 109, Char.ofNat 105, Char.ofNat 108, Char.ofNat 101, Char.ofNat 112, Char.ofNat 111,
  Char.ofNat 115, Char.ofNat 116, Char.ofNat 108, Char.ofNat 97, Char.ofNat 119, Char.ofNat 48, Char.ofNat 51, Char.ofNat 46, Char.ofNat 67, Char.ofNat 111, Char.ofNat 118, Char.ofNat 101,
  Char.ofNat 114, Char.ofNat 65, Char.ofNat 112, Char.ofNat 97, Char.ofNat 114, Char.ofNat 116, Char.ofNat 32, Char.ofNat 109, Char.ofNat 105, Char.ofNat 108, Char.ofNat 101, Char.ofNat 112,
  Char.ofNat 111, Char.ofNat 115, Char.ofNat 116, Char.ofNat 47, Char.ofNat 109, Char.ofNat 105, Char.ofNat 108, Char.ofNat 101, Char.ofNat 112, Char.ofNat 111, Char.ofNat 115, Char.ofNat 116,
  Char.ofNat 108, Char.ofNat 97, Char.ofNat 119, Char.ofNat 48, Char.ofNat 51, Char.ofNat 46, Char.ofNat 67, Char.ofNat 111, Char.ofNat 118, Char.ofNat 101, Char.ofNat 114, Char.ofNat 80,
  Char.ofNat 105, Char.ofNat 101, Char.ofNat 99, Char.ofNat 101, Char.ofNat 115, Char.ofNat 32, Char.ofNat 109, Char.ofNat 105, Char.ofNat 108, Char.ofNat 101, Char.ofNat 112, Char.ofNat 111,
  Char.ofNat 115, Char.ofNat 116, Char.ofNat 47, Char.ofNat 109, Char.ofNat 105, Char.ofNat 108, Char.ofNat 101, Char.ofNat 112, Char.ofNat 111, Char.ofNat 115, Char.ofNat 116, Char.ofNat 108,
  Char.ofNat 97, Char.ofNat 119, Char.ofNat 48, Char.ofNat 51, Char.ofNat 46, Char.ofNat 67, Char.ofNat 111, Char.ofNat 118, Char.ofNat 101, Char.ofNat 114, Char.ofNat 67, Char.ofNat 111,
  Char.ofNat 118, Char.ofNat 101, Char.ofNat 114, Char.ofNat 115, Char.ofNat 32, Char.ofNat 109, Char.ofNat 105, Char.ofNat 108, Char.ofNat 101, Char.ofNat 112, Char.ofNat 111, Char.ofNat 115,
  Char.ofNat 116, Char.ofNat 47, Char.ofNat 109, Char.ofNat 105, Char.ofNat 108, Char.ofNat 101, Char.ofNat 112, Char.ofNat 111, Char.ofNat 115, Char.ofNat 116, Char.ofNat 108, Char.ofNat 97,
  Char.ofNat 119, Char.ofNat 48, Char.ofNat 51, Char.ofNat 46, Char.ofNat 67, Char.ofNat 111, Char.ofNat 118, Char.ofNat 101, Char.ofNat 114, Char.ofNat 72, Char.ofNat 97, Char.ofNat 115,
  Char.ofNat 32, Char.ofNat 109, Char.ofNat 105, Char.ofNat 108, Char.ofNat 101, Char.ofNat 112, Char.ofNat 111, Char.ofNat 115, Char.ofNat 116, Char.ofNat 47, Char.ofNat 109, Char.ofNat 105,
  Char.ofNat 108, Char.ofNat 101, Char.ofNat 112, Char.ofNat 111, Char.ofNat 115, Char.ofNat 116, Char.ofNat 108, Char.ofNat 97, Char.ofNat 119, Char.ofNat 48, Char.ofNat 51, Char.ofNat 46,
  Char.ofNat 67, Char.ofNat 111, Char.ofNat 118, Char.ofNat 101, Char.ofNat 114, Char.ofNat 83, Char.ofNat 97, Char.ofNat 109, Char.ofNat 101, Char.ofNat 32, Char.ofNat 109, Char.ofNat 105,
  Char.ofNat 108, Char.ofNat 101, Char.ofNat 112, Char.ofNat 111, Char.ofNat 115, Char.ofNat 116, Char.ofNat 47, Char.ofNat 109, Char.ofNat 105, Char.ofNat 108, Char.ofNat 101, Char.ofNat 112,
  Char.ofNat 111, Char.ofNat 115, Char.ofNat 116, Char.ofNat 108, Char.ofNat 97, Char.ofNat 119, Char.ofNat 49, Char.ofNat 54, Char.ofNat 46, Char.ofNat 77, Char.ofNat 115, Char.ofNat 103,
  Char.ofNat 66, Char.ofNat 97, Char.ofNat 99, Char.ofNat 107, Char.ofNat 32, Char.ofNat 109, Char.ofNat 105, Char.ofNat 108, Char.ofNat 101, Char.ofNat 112, Char.ofNat 111, Char.ofNat 115,
  Char.ofNat 116, Char.ofNat 47, Char.ofNat 109, Char.ofNat 105, Char.ofNat 108, Char.ofNat 101, Char.ofNat 112, Char.ofNat 111, Char.ofNat 115, Char.ofNat 116, Char.ofNat 108, Char.ofNat 97,
  Char.ofNat 119, Char.ofNat 49, Char.ofNat 54, Char.ofNat 46, Char.ofNat 77, Char.ofNat 115, Char.ofNat 103, Char.ofNat 82, Char.ofNat 101, Char.ofNat 97, Char.ofNat 100, Char.ofNat 115,
  Char.ofNat 32, Char.ofNat 109, Char.ofNat 105, Char.ofNat 108, Char.ofNat 101, Char.ofNat 112, Char.ofNat 111, Char.ofNat 115, Char.ofNat 116, Char.ofNat 47, Char.ofNat 109, Char.ofNat 105,
  Char.ofNat 108, Char.ofNat 101, Char.ofNat 112, Char.ofNat 111, Char.ofNat 115, Char.ofNat 116, Char.ofNat 108, Char.ofNat 97, Char.ofNat 119, Char.ofNat 49, Char.ofNat 54, Char.ofNat 46,
  Char.ofNat 77, Char.ofNat 115, Char.ofNat 103, Char.ofNat 67, Char.ofNat 117, Char.ofNat 116], by kernel_rfl, by decide +kernel⟩
theorem lifts : Try.prog.liftsFinal = false := lifts_of headed
theorem makeCut : Try.prog.make = some .cut := make_of headed
theorem noLater : Try.prog.laysLater = false := by kernel_rfl
theorem noReflect : Try.prog.bearsReflect = false := by kernel_rfl
theorem door : Try.prog.doorFits [] = true := by kernel_rfl
theorem enters : Try.prog.mayEnter = true := enter_of headed noLater noReflect door
theorem laidOut : laidOutB Try.prog = true := by kernel_rfl
theorem mapsRow : mapsRowed Try.prog = true := by kernel_rfl
theorem noStops : Try.prog.stops = [] := by kernel_rfl
theorem noKnobs : Try.prog.stopKnobs = [] := by kernel_rfl
theorem plainKeys : Try.prog.plainKeys = true := by kernel_rfl
theorem heard : Try.prog.stopsHeard = true := by kernel_rfl
theorem own : ownKnob Try.prog.godebug = none := by kernel_rfl
end Mh
