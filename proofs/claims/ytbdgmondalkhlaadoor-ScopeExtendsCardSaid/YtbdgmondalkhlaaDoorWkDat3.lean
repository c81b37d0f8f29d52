
/- Revocation lists, their scopes and entries.
   Conditions: none. -/
import Derived.Test.YtbdgmondalkhlaaDoorWkSame
import Derived.Test.YtbdgmondalkhlaaDoorAwClo
namespace Go.Proofs.YtbdgmondalkhlaaDoor.Aw
open Go
structure Scp where
  names : List Gn
  onlyUser : Bool
  onlyCA : Bool
  reasons : Int
  indirect : Bool
def eScp (s : Scp) : List PL := [.sl (s.names.map eGn), .v (.bool s.onlyUser), .v (.bool s.onlyCA), .v (.int .i64 s.reasons), .v (.bool s.indirect)]
structure Ent where
  serial : Int
  time : Int
  reason : Int
  invalid : Int
  issuer : Name
def eEnt (e : Ent) : List PL := [.v (.int .i64 e.serial), .v (.int .i64 e.time), .v (.int .i64 e.reason), .v (.int .i64 e.invalid), .sl (e.issuer.map eRdn)]
structure CList where
  raw : ByteArray
  tbs : ByteArray
  issuer : Name
  since : Int
  until' : Int
  number : Int
  base : Int
  akey : ByteArray
  hasScope : Bool
  scope : Scp
  freshest : List Point
  entries : List Ent
  signature : ByteArray
def eCL (l : CList) : List PL := [.v (.string l.raw), .v (.string l.tbs), .sl (l.issuer.map eRdn), .v (.int .i64 l.since), .v (.int .i64 l.until'), .v (.int .i64 l.number), .v (.int .i64 l.base), .v (.string l.akey), .v (.bool l.hasScope),
  .sl (l.scope.names.map eGn), .v (.bool l.scope.onlyUser), .v (.bool l.scope.onlyCA), .v (.int .i64 l.scope.reasons), .v (.bool l.scope.indirect), .sl (l.freshest.map ePoint), .sl (l.entries.map eEnt), .v (.string l.signature)]
/-- Lists that are not too long. -/
def okCL (l : CList) : Prop := okNm l.issuer ∧ okGs l.scope.names
end Go.Proofs.YtbdgmondalkhlaaDoor.Aw
