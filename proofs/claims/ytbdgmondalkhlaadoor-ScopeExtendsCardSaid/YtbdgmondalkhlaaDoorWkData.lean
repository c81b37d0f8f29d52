
/- Data of the chapters: keys, general names, constraints, certificates, states.
   Conditions: none. -/
import Derived.Test.YtbdgmondalkhlaaDoorWkMatch
namespace Go.Proofs.YtbdgmondalkhlaaDoor.Aw
open Go

structure Key where
  h : Int
  id : ByteArray
  root : ByteArray
def eKey (k : Key) : List PL := [.v (.int .i64 k.h), .v (.string k.id), .v (.string k.root)]
structure Gn where
  kind : Int
  text : ByteArray
  name : Name
def eGn (g : Gn) : List PL := [.v (.int .i64 g.kind), .v (.string g.text), .sl (g.name.map eRdn)]
structure Sub where
  p : List Gn
  x : List Gn
def eSub (s : Sub) : List PL := [.sl (s.p.map eGn), .sl (s.x.map eGn)]
structure Anchor where
  name : Name
  key : Key
def eAnchor (a : Anchor) : List PL := [.sl (a.name.map eRdn), .v (.int .i64 a.key.h), .v (.string a.key.id), .v (.string a.key.root)]
structure Progress where
  issuer : Name
  key : Key
  lists : Bool
  length : Int
  explicit : Int
  mapping : Int
  any : Int
  cons : List Sub
def ePr (s : Progress) : List PL := [.sl (s.issuer.map eRdn), .v (.int .i64 s.key.h), .v (.string s.key.id), .v (.string s.key.root), .v (.bool s.lists), .v (.int .i64 s.length), .v (.int .i64 s.explicit), .v (.int .i64 s.mapping), .v (.int .i64 s.any), .sl (s.cons.map eSub)]
structure Mapp where
  i : ByteArray
  s : ByteArray
def eMapp (m : Mapp) : List PL := [.v (.string m.i), .v (.string m.s)]
structure Ext where
  id : ByteArray
  critical : Bool
  value : ByteArray
def eExt (e : Ext) : List PL := [.v (.string e.id), .v (.bool e.critical), .v (.string e.value)]
structure Point where
  names : List Gn
  reasons : Int
  hasIssuer : Bool
  issuer : Name
def ePoint (p : Point) : List PL := [.sl (p.names.map eGn), .v (.int .i64 p.reasons), .v (.bool p.hasIssuer), .sl (p.issuer.map eRdn)]
def eStr (s : ByteArray) : List PL := [.v (.string s)]
structure Info where
  hasBasic : Bool
  ca : Bool
  pathLen : Int
  usage : Int
  purposes : List ByteArray
  policies : List ByteArray
  mappings : List Mapp
  requireExplicit : Int
  inhibitMapping : Int
  inhibitAny : Int
  names : List Gn
  hasConstraints : Bool
  constraints : Sub
  subjectKey : ByteArray
  authorityKey : ByteArray
  points : List Point
  freshest : List Point
  unknown : List Ext
def eInfo (i : Info) : List PL := [.v (.bool i.hasBasic), .v (.bool i.ca), .v (.int .i64 i.pathLen), .v (.int .i64 i.usage), .sl (i.purposes.map eStr), .sl (i.policies.map eStr), .sl (i.mappings.map eMapp), .v (.int .i64 i.requireExplicit),
  .v (.int .i64 i.inhibitMapping), .v (.int .i64 i.inhibitAny), .sl (i.names.map eGn), .v (.bool i.hasConstraints), .sl (i.constraints.p.map eGn), .sl (i.constraints.x.map eGn), .v (.string i.subjectKey), .v (.string i.authorityKey),
  .sl (i.points.map ePoint), .sl (i.freshest.map ePoint), .sl (i.unknown.map eExt)]
structure Cert where
  raw : ByteArray
  tbs : ByteArray
  serial : Int
  issuer : Name
  subject : Name
  notBefore : Int
  notAfter : Int
  key : Key
  info : Info
  signature : ByteArray
def eCert (c : Cert) : List PL := [.v (.string c.raw), .v (.string c.tbs), .v (.int .i64 c.serial), .sl (c.issuer.map eRdn), .sl (c.subject.map eRdn), .v (.int .i64 c.notBefore), .v (.int .i64 c.notAfter), .v (.int .i64 c.key.h), .v (.string c.key.id), .v (.string c.key.root)] ++ eInfo c.info ++ [.v (.string c.signature)]
structure Query where
  time : Int
  purpose : ByteArray
  usage : Int
  policies : List ByteArray
  explicit : Bool
  noMapping : Bool
  noAny : Bool
  names : List Gn
  maxLength : Int
  status : Bool
  issuers : List Anchor
def eQuery (q : Query) : List PL := [.v (.int .i64 q.time), .v (.string q.purpose), .v (.int .i64 q.usage), .sl (q.policies.map eStr), .v (.bool q.explicit), .v (.bool q.noMapping), .v (.bool q.noAny), .sl (q.names.map eGn), .v (.int .i64 q.maxLength), .v (.bool q.status), .sl (q.issuers.map eAnchor)]
end Go.Proofs.YtbdgmondalkhlaaDoor.Aw
