
/- The walks of awake and the laws of step.
   Conditions: none. -/
import Derived.Test.YthhjfcmkelmobaaGreatWkLeave
import Derived.KernelRfl
namespace Go.Proofs.YthhjfcmkelmobaaGreat.Aw
open Go
set_option maxRecDepth 100000
set_option maxHeartbeats 4000000
set_option linter.unusedSimpArgs false
set_option linter.unusedVariables false

def q0 : Query := ⟨0, ⟨#[]⟩, 0, [], false, false, false, [], 0, false, []⟩
def awC (n : Name) : Cert := ⟨⟨#[]⟩, ⟨#[]⟩, 0, authS 0, n, 0, 0, ⟨0, ⟨#[]⟩, ⟨#[]⟩⟩, ⟨false, true, -1, 0, [], [], [], -1, -1, -1, [], false, ⟨[], []⟩, ⟨#[]⟩, ⟨#[]⟩, [], [], []⟩, ⟨#[]⟩⟩
def aw0 (v : Int) (k : Key) : Progress := ⟨authS v, k, true, 8, 9, 9, 9, []⟩
def aw1 (v : Int) (k : Key) : Progress := ⟨authS v, k, true, 0, 9, 9, 9, []⟩
theorem okP_aw0 {v : Int} {k : Key} : okP (aw0 v k) := ⟨okNm_auth _, Nat.zero_le _, fun x hx => by cases hx⟩
theorem okP_aw1 {v : Int} {k : Key} : okP (aw1 v k) := ⟨okNm_auth _, Nat.zero_le _, fun x hx => by cases hx⟩
theorem okI_aw {n : Name} : okI (awC n).info := ⟨Nat.zero_le _, Nat.zero_le _, Nat.zero_le _, Nat.zero_le _, okGs_nil, ⟨okGs_nil, okGs_nil⟩, okPts_nil, okPts_nil⟩
theorem okQ_q0 : okQ q0 := ⟨Nat.zero_le _, okGs_nil, Nat.zero_le _, fun a ha => by cases ha⟩
theorem nm01 : nmatch (authS 0) (authS 1) = false := by kernel_rfl
theorem nm08 : nmatch (authS 0) (authS 8) = true := by kernel_rfl
theorem lc1 {v : Int} {k : Key} : leaveC (aw0 v k) (awC (authS 1)) = 0 := by
  simp [leaveC, aw0, awC]
theorem lc2 {v : Int} {k : Key} : leaveC (aw1 v k) (awC (authS 1)) = 10 := by
  simp [leaveC, aw1, awC, fallS, selfIssued, nm01]
theorem lc3 {v : Int} {k : Key} : leaveC (aw1 v k) (awC (authS 8)) = 0 := by
  simp [leaveC, aw1, awC, fallS, selfIssued, nm08]
-- f22 certpath/certpathlaw30.awake
theorem F22 : Fn Tryz.prog 10 [] [] (fun r _ => r = sc (.bool true)) := by
  refine Fn.intro (rs := [.tmp 0]) hT Tryz.func10 (by kernel_rfl) rfl rfl rfl rfl fun C => ?_
  repeat (first | refine AwOps.nil ?_ | refine AwSch.nil ?_ | refine Aw.seq ?_ | refine Aw.region ?_ | refine Aw.block ?_ | refine Aw.skip ?_ | refine Aw.exit ?_ | refine Aw.condT rfl ?_ | refine Aw.condF rfl ?_)
  refine AwOps.v hT rfl ?_
  repeat (first | refine AwOps.nil ?_ | refine AwSch.nil ?_ | refine Aw.seq ?_ | refine Aw.region ?_ | refine Aw.block ?_ | refine Aw.skip ?_ | refine Aw.exit ?_ | refine Aw.condT rfl ?_ | refine Aw.condF rfl ?_)
  refine AwOps.cl (F25 _ (by first | omega | (simp only [w64] at *; omega) | (simp [w64] at *; omega))) [] rfl ⟨⟨rfl, rfl⟩, trivial⟩ trivial rfl ?_   -- certpathmade.Authority
  rintro _ _ rfl
  refine AwOps.cl (F25 _ (by first | omega | (simp only [w64] at *; omega) | (simp [w64] at *; omega))) [] rfl ⟨⟨rfl, rfl⟩, trivial⟩ trivial rfl ?_   -- certpathmade.Authority
  rintro _ _ rfl
  refine AwOps.build hT rfl ?_
  refine AwOps.turn (Less.say (t := 11) (B := .agg [.v (.bool false), _, _, .v (.int .i64 0), .sl (List.map eStr []), .sl (List.map eStr []), .sl (List.map eMapp []), _, _, _, .sl (List.map eGn []), .v (.bool false), .sl (List.map eGn []), .sl (List.map eGn []), .v (.string ⟨#[]⟩), .v (.string ⟨#[]⟩), .sl (List.map ePoint []), .sl (List.map ePoint []), .sl (List.map eExt [])]) rfl rfl) ?_
  refine AwOps.build hT rfl ?_
  refine AwOps.turn (Less.say (t := 12) (B := .agg [.v (.string ⟨#[]⟩), .v (.string ⟨#[]⟩), .v (.int .i64 0), _, _, .v (.int .i64 0), .v (.int .i64 0), .v (.int .i64 0), .v (.string ⟨#[]⟩), .v (.string ⟨#[]⟩), _, _, _, _, _, _, _, _, _, _, _, _, _, _, _, _, _, _, _, .v (.string ⟨#[]⟩)]) rfl rfl) ?_
  refine AwOps.eff hT rfl ?_
  refine AwOps.eff hT rfl ?_
  repeat (first | refine AwOps.nil ?_ | refine AwSch.nil ?_ | refine Aw.seq ?_ | refine Aw.region ?_ | refine Aw.block ?_ | refine Aw.skip ?_ | refine Aw.exit ?_ | refine Aw.condT rfl ?_ | refine Aw.condF rfl ?_)
  refine AwOps.cl (F9 _ (by omega)) [] rfl ⟨⟨rfl, rfl⟩, trivial⟩ trivial rfl ?_   -- certpathmade2.Anchor
  rintro _ _ ⟨v0, k0, hv0, rfl⟩
  refine AwOps.build hT rfl ?_
  refine AwOps.turn (Less.say (t := 14) (B := .agg [.v (.int .i64 0), .v (.string ⟨#[]⟩), .v (.int .i64 0), .sl (List.map eStr []), .v (.bool false), .v (.bool false), .v (.bool false), .sl (List.map eGn []), .v (.int .i64 0), .v (.bool false), .sl (List.map eAnchor [])]) rfl rfl) ?_
  refine AwOps.cl (F13 ⟨authS v0, k0⟩ q0 (okNm_auth _)) [] rfl ⟨⟨rfl, rfl⟩, ⟨rfl, rfl⟩, trivial⟩ trivial rfl ?_   -- step.Begin
  rintro _ _ rfl
  refine AwOps.eff hT rfl ?_
  refine AwOps.eff hT rfl ?_
  refine AwOps.turn (Tn.sayH (b := 2) (B := .box ⟨34, [_, _, _, _, _, _, _, _, _, _], []⟩) rfl rfl) ?_
  repeat (first | refine AwOps.nil ?_ | refine AwSch.nil ?_ | refine Aw.seq ?_ | refine Aw.region ?_ | refine Aw.block ?_ | refine Aw.skip ?_ | refine Aw.exit ?_ | refine Aw.condT rfl ?_ | refine Aw.condF rfl ?_)
  refine AwOps.v hT rfl ?_
  refine AwOps.v hT rfl ?_
  refine AwOps.cl (F23 (aw0 v0 k0) (awC (authS 1)) okP_aw0 (okNm_auth _).1 (okNm_auth _).1 okI_aw (okNm_auth _)) [] rfl ⟨⟨rfl, rfl⟩, ⟨rfl, rfl⟩, trivial⟩ trivial rfl ?_   -- step.Leave
  rintro _ _ rfl
  iterate 3 refine AwOps.v hT rfl ?_
  refine AwOps.turn (Less.say (t := 21) (B := sc (.int .i64 0)) rfl (by first | (rw [lc1]; done) | (rw [lc1]; rfl))) ?_
  refine AwOps.eff hT rfl ?_
  refine AwOps.eff hT rfl ?_
  refine AwOps.v hT rfl ?_
  repeat (first | refine AwOps.nil ?_ | refine AwSch.nil ?_ | refine Aw.seq ?_ | refine Aw.region ?_ | refine Aw.block ?_ | refine Aw.skip ?_ | refine Aw.exit ?_ | refine Aw.condT rfl ?_ | refine Aw.condF rfl ?_)
  refine AwOps.v hT rfl ?_
  refine AwOps.eff hT rfl ?_
  refine AwOps.turn (Tn.sayH (b := 2) (B := .box ⟨34, [_, _, _, _, _, _, _, _, _, _], []⟩) rfl rfl) ?_
  repeat (first | refine AwOps.nil ?_ | refine AwSch.nil ?_ | refine Aw.seq ?_ | refine Aw.region ?_ | refine Aw.block ?_ | refine Aw.skip ?_ | refine Aw.exit ?_ | refine Aw.condT rfl ?_ | refine Aw.condF rfl ?_)
  refine AwOps.v hT rfl ?_
  refine AwOps.v hT rfl ?_
  refine AwOps.cl (F23 (aw1 v0 k0) (awC (authS 1)) okP_aw1 (okNm_auth _).1 (okNm_auth _).1 okI_aw (okNm_auth _)) [] rfl ⟨⟨rfl, rfl⟩, ⟨rfl, rfl⟩, trivial⟩ trivial rfl ?_   -- step.Leave
  rintro _ _ rfl
  iterate 3 refine AwOps.v hT rfl ?_
  refine AwOps.turn (Less.say (t := 28) (B := sc (.int .i64 10)) rfl (by first | (rw [lc2]; done) | (rw [lc2]; rfl))) ?_
  refine AwOps.eff hT rfl ?_
  refine AwOps.eff hT rfl ?_
  refine AwOps.v hT rfl ?_
  repeat (first | refine AwOps.nil ?_ | refine AwSch.nil ?_ | refine Aw.seq ?_ | refine Aw.region ?_ | refine Aw.block ?_ | refine Aw.skip ?_ | refine Aw.exit ?_ | refine Aw.condT rfl ?_ | refine Aw.condF rfl ?_)
  refine AwOps.cl (F25 _ (by first | omega | (simp only [w64] at *; omega) | (simp [w64] at *; omega))) [] rfl ⟨⟨rfl, rfl⟩, trivial⟩ trivial rfl ?_   -- certpathmade.Authority
  rintro _ _ rfl
  refine AwOps.v hT rfl ?_
  refine AwOps.eff hT rfl ?_
  repeat (first | refine AwOps.nil ?_ | refine AwSch.nil ?_ | refine Aw.seq ?_ | refine Aw.region ?_ | refine Aw.block ?_ | refine Aw.skip ?_ | refine Aw.exit ?_ | refine Aw.condT rfl ?_ | refine Aw.condF rfl ?_)
  refine AwOps.v hT rfl ?_
  refine AwOps.v hT rfl ?_
  refine AwOps.cl (F23 (aw1 v0 k0) (awC (authS 8)) okP_aw1 (okNm_auth _).1 (okNm_auth _).1 okI_aw (okNm_auth _)) [] rfl ⟨⟨rfl, rfl⟩, ⟨rfl, rfl⟩, trivial⟩ trivial rfl ?_   -- step.Leave
  rintro _ _ rfl
  iterate 3 refine AwOps.v hT rfl ?_
  refine AwOps.turn (Less.say (t := 36) (B := sc (.int .i64 0)) rfl (by first | (rw [lc3]; done) | (rw [lc3]; rfl))) ?_
  refine AwOps.eff hT rfl ?_
  refine AwOps.eff hT rfl ?_
  refine AwOps.v hT rfl ?_
  repeat (first | refine AwOps.nil ?_ | refine AwSch.nil ?_ | refine Aw.seq ?_ | refine Aw.region ?_ | refine Aw.block ?_ | refine Aw.skip ?_ | refine Aw.exit ?_ | refine Aw.condT rfl ?_ | refine Aw.condF rfl ?_)
  iterate 17 refine AwOps.v hT rfl ?_
  refine AwOps.cl (F20 (aw1 v0 k0) (awC (authS 8)) true (okNm_auth _).1 (okNm_auth _).1) [] rfl ⟨⟨rfl, rfl⟩, ⟨rfl, rfl⟩, ⟨rfl, rfl⟩, trivial⟩ trivial rfl ?_   -- step.Special
  rintro _ _ rfl
  iterate 3 refine AwOps.v hT rfl ?_
  refine AwOps.build hT rfl ?_
  refine AwOps.turn (Less.say (t := 58) (B := .agg [.v (.int .i64 0), .v (.string ⟨#[]⟩), .v (.int .i64 0), .sl (List.map eStr []), .v (.bool false), .v (.bool false), .v (.bool false), .sl (List.map eGn []), .v (.int .i64 0), .v (.bool false), .sl (List.map eAnchor [])]) rfl rfl) ?_
  refine AwOps.cl (F16 (aw1 v0 k0) q0 okP_aw1 okQ_q0) [] rfl ⟨⟨rfl, rfl⟩, ⟨rfl, rfl⟩, trivial⟩ trivial rfl ?_   -- step.Signers
  rintro _ _ rfl
  iterate 4 refine AwOps.v hT rfl ?_
  repeat (first | refine AwOps.nil ?_ | refine AwSch.nil ?_ | refine Aw.seq ?_ | refine Aw.region ?_ | refine Aw.block ?_ | refine Aw.skip ?_ | refine Aw.exit ?_ | refine Aw.condT rfl ?_ | refine Aw.condF rfl ?_)
  refine Aw.ret ?_
  refine ⟨_, [], rfl, trivial, ?_⟩
  exact rfl
end Go.Proofs.YthhjfcmkelmobaaGreat.Aw
