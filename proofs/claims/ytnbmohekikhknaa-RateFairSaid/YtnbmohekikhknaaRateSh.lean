/- Shares and rates: what is computed of them. No program. -/
import Derived.Test.YtnbmohekikhknaaRateStands
import Derived.Test.YtnbmohekikhknaaFirsts
import Derived.Test.YtnbmohekikhknaaMapB
namespace Go.Proofs.Ytnbmohekikhknaa
open Go.RowKit
structure Share where
  key : ByteArray
  came : Int
/-- The cells of a Share, and of a Rate. -/
def Share.cs (x : Share) : List Value := [.string x.key, .int .i64 x.came]
def byteOk (c : UInt8) : Bool := decide (32 ≤ c.toNat) && decide (c.toNat ≤ 126)
/-- The error of a key. -/
def keyErr (s : ByteArray) : Int := if 200 < s.size then 4 else if s.data.toList.all byteOk then 0 else 9
def keysOf (l : List Share) : List (List UInt8) := l.map fun x => x.key.data.toList
/-- The error at place k of shares. -/
def shErrAt (l : List Share) (k : Nat) : Int :=
  match l[k]? with
  | none => 0
  | some x => if keyErr x.key = 0 then (if (keysOf (l.take k)).contains x.key.data.toList then 6 else if outsideB x.came 0 1000000000 then 2 else 0) else keyErr x.key
def shErr (l : List Share) : Int := if 200 < l.length then 4 else firstErr (shErrAt l) l.length
end Go.Proofs.Ytnbmohekikhknaa
