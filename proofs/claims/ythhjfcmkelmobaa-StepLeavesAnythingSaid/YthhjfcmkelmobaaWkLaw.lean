/- The walks of awake and the laws of step.
   Conditions: none. -/
import Derived.Test.YthhjfcmkelmobaaWkLeave
import Derived.KernelRfl
namespace Go.Proofs.Ythhjfcmkelmobaa.Aw
open Go
set_option maxRecDepth 100000
set_option maxHeartbeats 4000000
set_option linter.unusedSimpArgs false
set_option linter.unusedVariables false

def q0 : Query := ⟨0, ⟨#[]⟩, 0, [], false, false, false, [], 0, false, []⟩
def awC (n : Name) : Cert := ⟨⟨#[]⟩, ⟨#[]⟩, 0, authS 0, n, 0, 0, ⟨0, ⟨#[]⟩, ⟨#[]⟩⟩, ⟨false, true, -1, 0, [], [], [], -1, -1, -1, [], false, ⟨[], []⟩, ⟨#[]⟩, ⟨#[]⟩, [], [], []⟩, ⟨#[]⟩⟩
def aw0 (v : Int) (k : Key) : Progress := ⟨authS v, k, true, 8, 9, 9, 9, []⟩
def aw1 (v : Int) (k : Key) : Progress := ⟨authS v, k, true, 0, 9, 9, 9, []⟩
theorem okP_aw0 {v : Int} {k : Key} : okP (aw0 v k) := ⟨okNm_auth _, Nat.zero_le _, fun x hx => by cases hx⟩
theorem okP_aw1 {v : Int} {k : Key} : okP (aw1 v k) := ⟨okNm_auth _, Nat.zero_le _, fun x hx => by cases hx⟩
theorem okI_aw {n : Name} : okI (awC n).info := ⟨Nat.zero_le _, Nat.zero_le _, Nat.zero_le _, Nat.zero_le _, okGs_nil, ⟨okGs_nil, okGs_nil⟩, okPts_nil, okPts_nil⟩
theorem okQ_q0 : okQ q0 := ⟨Nat.zero_le _, okGs_nil, Nat.zero_le _, fun a ha => by cases ha⟩
theorem nm01 : nmatch (authS 0) (authS 1) = false := by kernel_rfl
theorem nm08 : nmatch (authS 0) (authS 8) = true := by kernel_rfl
theorem lc1 {v : Int} {k : Key} : leaveC (aw0 v k) (awC (authS 1)) = 0 := by
  simp [leaveC, aw0, awC]
theorem lc2 {v : Int} {k : Key} : leaveC (aw1 v k) (awC (authS 1)) = 10 := by
  simp [leaveC, aw1, awC, fallS, selfIssued, nm01]
theorem lc3 {v : Int} {k : Key} : leaveC (aw1 v k) (awC (authS 8)) = 0 := by
  simp [leaveC, aw1, awC, fallS, selfIssued, nm08]
-- f22 certpath/certpathlaw30.awake
theorem F22 : Fn Try.prog 22 [] [] (fun r _ => r = sc (.bool true)) := by
  refine Fn.intro (rs := [.tmp 0]) hT Try.func22 (by kernel_rfl) rfl rfl rfl rfl fun C => ?_
  repeat (first | refine AwOps.nil ?_ | refine AwSch.nil ?_ | refine Aw.seq ?_ | refine Aw.region ?_ | refine Aw.block ?_ | refine Aw.skip ?_ | refine Aw.exit ?_ | refine Aw.condT rfl ?_ | refine Aw.condF rfl ?_)
  refine AwOps.v hT rfl ?_
  repeat (first | refine AwOps.nil ?_ | refine AwSch.nil ?_ | refine Aw.seq ?_ | refine Aw.region ?_ | refine Aw.block ?_ | refine Aw.skip ?_ | refine Aw.exit ?_ | refine Aw.condT rfl ?_ | refine Aw.condF rfl ?_)
  refine AwOps.cl (F25 _ (by first | omega | (simp only [w64] at *; omega) | (simp [w64] at *; omega))) [] rfl ⟨⟨rfl, rfl⟩, trivial⟩ trivial rfl ?_   -- certpathmade.Authority
  rintro _ _ rfl
  refine AwOps.cl (F25 _ (by first | omega | (simp only [w64] at *; omega) | (simp [w64] at *; omega))) [] rfl ⟨⟨rfl, rfl⟩, trivial⟩ trivial rfl ?_   -- certpathmade.Authority
  rintro _ _ rfl
  refine AwOps.build hT rfl ?_
  refine AwOps.turn (Less.say (t := 11) (B := .agg [.v (.bool false), _, _, .v (.int .i64 0), .sl (List.map eStr []), .sl (List.map eStr []), .sl (List.map eMapp []), _, _, _, .sl (List.map eGn []), .v (.bool false), .sl (List.map eGn []), .sl (List.map eGn []), .v (.string ⟨#[]⟩), .v (.string ⟨#[]⟩), .sl (List.map ePoint []), .sl (List.map ePoint []), .sl (List.map eExt [])]) rfl rfl) ?_
  refine AwOps.build hT rfl ?_
  refine AwOps.turn (Less.say (t := 12) (B := .agg [.v (.string ⟨#[]⟩), .v (.string ⟨#[]⟩), .v (.int .i64 0), _, _, .v (.int .i64 0), .v (.int .i64 0), .v (.int .i64 0), .v (.string ⟨#[]⟩), .v (.string ⟨#[]⟩), _, _, _, _, _, _, _, _, _, _, _, _, _, _, _, _, _, _, _, .v (.string ⟨#[]⟩)]) rfl rfl) ?_
  refine AwOps.eff hT rfl ?_
  refine AwOps.eff hT rfl ?_
  repeat (first | refine AwOps.nil ?_ | refine AwSch.nil ?_ | refine Aw.seq ?_ | refine Aw.region ?_ | refine Aw.block ?_ | refine Aw.skip ?_ | refine Aw.exit ?_ | refine Aw.condT rfl ?_ | refine Aw.condF rfl ?_)
  refine AwOps.cl (F9 _ (by omega)) [] rfl ⟨⟨rfl, rfl⟩, trivial⟩ trivial rfl ?_   -- certpathmade2.Anchor
  rintro _ _ ⟨v0, k0, hv0, rfl⟩
  refine AwOps.build hT rfl ?_
  refine AwOps.turn (Less.say (t := 14) (B := .agg [.v (.int .i64 0), .v (.string ⟨#[]⟩), .v (.int .i64 0), .sl (List.map eStr []), .v (.bool false), .v (.bool false), .v (.bool false), .sl (List.map eGn []), .v (.int .i64 0), .v (.bool false), .sl (List.map eAnchor [])]) rfl rfl) ?_
  refine AwOps.cl (F13 ⟨authS v0, k0⟩ q0 (okNm_auth _)) [] rfl ⟨⟨rfl, rfl⟩, ⟨rfl, rfl⟩, trivial⟩ trivial rfl ?_   -- step.Begin
  rintro _ _ rfl
  refine AwOps.eff hT rfl ?_
  refine AwOps.eff hT rfl ?_
  refine AwOps.turn (Tn.sayH (b := 2) (B := .box ⟨45, [_, _, _, _, _, _, _, _, _, _], []⟩) rfl rfl) ?_
  repeat (first | refine AwOps.nil ?_ | refine AwSch.nil ?_ | refine Aw.seq ?_ | refine Aw.region ?_ | refine Aw.block ?_ | refine Aw.skip ?_ | refine Aw.exit ?_ | refine Aw.condT rfl ?_ | refine Aw.condF rfl ?_)
  refine AwOps.v hT rfl ?_
  refine AwOps.v hT rfl ?_
  refine AwOps.cl (F23 (aw0 v0 k0) (awC (authS 1)) okP_aw0 (okNm_auth _).1 (okNm_auth _).1 okI_aw (okNm_auth _)) [] rfl ⟨⟨rfl, rfl⟩, ⟨rfl, rfl⟩, trivial⟩ trivial rfl ?_   -- step.Leave
  rintro _ _ rfl
  iterate 3 refine AwOps.v hT rfl ?_
  refine AwOps.turn (Less.say (t := 21) (B := sc (.int .i64 0)) rfl (by first | (rw [lc1]; done) | (rw [lc1]; rfl))) ?_
  refine AwOps.eff hT rfl ?_
  refine AwOps.eff hT rfl ?_
  refine AwOps.v hT rfl ?_
  repeat (first | refine AwOps.nil ?_ | refine AwSch.nil ?_ | refine Aw.seq ?_ | refine Aw.region ?_ | refine Aw.block ?_ | refine Aw.skip ?_ | refine Aw.exit ?_ | refine Aw.condT rfl ?_ | refine Aw.condF rfl ?_)
  refine AwOps.v hT rfl ?_
  refine AwOps.eff hT rfl ?_
  refine AwOps.turn (Tn.sayH (b := 2) (B := .box ⟨45, [_, _, _, _, _, _, _, _, _, _], []⟩) rfl rfl) ?_
  repeat (first | refine AwOps.nil ?_ | refine AwSch.nil ?_ | refine Aw.seq ?_ | refine Aw.region ?_ | refine Aw.block ?_ | refine Aw.skip ?_ | refine Aw.exit ?_ | refine Aw.condT rfl ?_ | refine Aw.condF rfl ?_)
  refine AwOps.v hT rfl ?_
  refine AwOps.v hT rfl ?_
  refine AwOps.cl (F23 (aw1 v0 k0) (awC (authS 1)) okP_aw1 (okNm_auth _).1 (okNm_auth _).1 okI_aw (okNm_auth _)) [] rfl ⟨⟨rfl, rfl⟩, ⟨rfl, rfl⟩, trivial⟩ trivial rfl ?_   -- step.Leave
  rintro _ _ rfl
  iterate 3 refine AwOps.v hT rfl ?_
  refine AwOps.turn (Less.say (t := 28) (B := sc (.int .i64 10)) rfl (by first | (rw [lc2]; done) | (rw [lc2]; rfl))) ?_
  refine AwOps.eff hT rfl ?_
  refine AwOps.eff hT rfl ?_
  refine AwOps.v hT rfl ?_
  repeat (first | refine AwOps.nil ?_ | refine AwSch.nil ?_ | refine Aw.seq ?_ | refine Aw.region ?_ | refine Aw.block ?_ | refine Aw.skip ?_ | refine Aw.exit ?_ | refine Aw.condT rfl ?_ | refine Aw.condF rfl ?_)
  refine AwOps.cl (F25 _ (by first | omega | (simp only [w64] at *; omega) | (simp [w64] at *; omega))) [] rfl ⟨⟨rfl, rfl⟩, trivial⟩ trivial rfl ?_   -- certpathmade.Authority
  rintro _ _ rfl
  refine AwOps.v hT rfl ?_
  refine AwOps.eff hT rfl ?_
  repeat (first | refine AwOps.nil ?_ | refine AwSch.nil ?_ | refine Aw.seq ?_ | refine Aw.region ?_ | refine Aw.block ?_ | refine Aw.skip ?_ | refine Aw.exit ?_ | refine Aw.condT rfl ?_ | refine Aw.condF rfl ?_)
  refine AwOps.v hT rfl ?_
  refine AwOps.v hT rfl ?_
  refine AwOps.cl (F23 (aw1 v0 k0) (awC (authS 8)) okP_aw1 (okNm_auth _).1 (okNm_auth _).1 okI_aw (okNm_auth _)) [] rfl ⟨⟨rfl, rfl⟩, ⟨rfl, rfl⟩, trivial⟩ trivial rfl ?_   -- step.Leave
  rintro _ _ rfl
  iterate 3 refine AwOps.v hT rfl ?_
  refine AwOps.turn (Less.say (t := 36) (B := sc (.int .i64 0)) rfl (by first | (rw [lc3]; done) | (rw [lc3]; rfl))) ?_
  refine AwOps.eff hT rfl ?_
  refine AwOps.eff hT rfl ?_
  refine AwOps.v hT rfl ?_
  repeat (first | refine AwOps.nil ?_ | refine AwSch.nil ?_ | refine Aw.seq ?_ | refine Aw.region ?_ | refine Aw.block ?_ | refine Aw.skip ?_ | refine Aw.exit ?_ | refine Aw.condT rfl ?_ | refine Aw.condF rfl ?_)
  iterate 17 refine AwOps.v hT rfl ?_
  refine AwOps.cl (F20 (aw1 v0 k0) (awC (authS 8)) true (okNm_auth _).1 (okNm_auth _).1) [] rfl ⟨⟨rfl, rfl⟩, ⟨rfl, rfl⟩, ⟨rfl, rfl⟩, trivial⟩ trivial rfl ?_   -- step.Special
  rintro _ _ rfl
  iterate 3 refine AwOps.v hT rfl ?_
  refine AwOps.build hT rfl ?_
  refine AwOps.turn (Less.say (t := 58) (B := .agg [.v (.int .i64 0), .v (.string ⟨#[]⟩), .v (.int .i64 0), .sl (List.map eStr []), .v (.bool false), .v (.bool false), .v (.bool false), .sl (List.map eGn []), .v (.int .i64 0), .v (.bool false), .sl (List.map eAnchor [])]) rfl rfl) ?_
  refine AwOps.cl (F16 (aw1 v0 k0) q0 okP_aw1 okQ_q0) [] rfl ⟨⟨rfl, rfl⟩, ⟨rfl, rfl⟩, trivial⟩ trivial rfl ?_   -- step.Signers
  rintro _ _ rfl
  iterate 4 refine AwOps.v hT rfl ?_
  repeat (first | refine AwOps.nil ?_ | refine AwSch.nil ?_ | refine Aw.seq ?_ | refine Aw.region ?_ | refine Aw.block ?_ | refine Aw.skip ?_ | refine Aw.exit ?_ | refine Aw.condT rfl ?_ | refine Aw.condF rfl ?_)
  refine Aw.ret ?_
  refine ⟨_, [], rfl, trivial, ?_⟩
  exact rfl
-- f3 certpath/certpathlaw30.StepBegins
theorem F3 (l : List Int) (last : Bool) : Fn Try.prog 3 [.pv (.one (.p (.sl (l.map eI)))), .pv (sc (.bool last))] [] (fun r _ => r = sc (.bool true)) := by
  refine Fn.intro (rs := [.tmp 4]) hT Try.func3 (by kernel_rfl) rfl rfl rfl rfl fun C => ?_
  repeat (first | refine AwOps.nil ?_ | refine AwSch.nil ?_ | refine Aw.seq ?_ | refine Aw.region ?_ | refine Aw.block ?_ | refine Aw.skip ?_ | refine Aw.exit ?_ | refine Aw.condT rfl ?_ | refine Aw.condF rfl ?_)
  refine AwOps.v hT rfl ?_
  repeat (first | refine AwOps.nil ?_ | refine AwSch.nil ?_ | refine Aw.seq ?_ | refine Aw.region ?_ | refine Aw.block ?_ | refine Aw.skip ?_ | refine Aw.exit ?_ | refine Aw.condT rfl ?_ | refine Aw.condF rfl ?_)
  refine AwOps.v hT rfl ?_
  refine AwOps.ed (N := []) (Ed.callO (F8 _) rfl rfl rfl rfl ?_)
  rintro _ rfl
  refine AwOps.v hT rfl ?_
  repeat (first | refine AwOps.nil ?_ | refine AwSch.nil ?_ | refine Aw.seq ?_ | refine Aw.region ?_ | refine Aw.block ?_ | refine Aw.skip ?_ | refine Aw.exit ?_ | refine Aw.condT rfl ?_ | refine Aw.condF rfl ?_)
  refine AwOps.v hT rfl ?_
  refine AwOps.cl (F10 _ _ (by first | omega | (simp only [w64] at *; omega) | (simp [w64] at *; omega)) (by first | omega | (simp only [w64] at *; omega) | (simp [w64] at *; omega))) [14] rfl ⟨⟨14, rfl, rfl⟩, ⟨rfl, rfl⟩, trivial⟩ ⟨rfl, trivial⟩ rfl ?_   -- certpathmade.Deck).Next
  rintro _ _ ⟨v2, d2, rfl, rfl, hv2, hw2⟩
  refine AwOps.cl (F9 _ (by omega)) [] rfl ⟨⟨rfl, rfl⟩, trivial⟩ trivial rfl ?_   -- certpathmade2.Anchor
  rintro _ _ ⟨v3, k3, hv3, rfl⟩
  refine AwOps.eff hT rfl ?_
  refine AwOps.eff hT rfl ?_
  repeat (first | refine AwOps.nil ?_ | refine AwSch.nil ?_ | refine Aw.seq ?_ | refine Aw.region ?_ | refine Aw.block ?_ | refine Aw.skip ?_ | refine Aw.exit ?_ | refine Aw.condT rfl ?_ | refine Aw.condF rfl ?_)
  refine AwOps.v hT rfl ?_
  refine AwOps.cl (F11 _) [14] rfl ⟨⟨14, rfl, rfl⟩, trivial⟩ ⟨rfl, trivial⟩ rfl ?_   -- certpathmade2.Query
  rintro _ _ ⟨q1, d3, rfl, rfl, hq1⟩
  refine AwOps.eff hT rfl ?_
  refine AwOps.eff hT rfl ?_
  repeat (first | refine AwOps.nil ?_ | refine AwSch.nil ?_ | refine Aw.seq ?_ | refine Aw.region ?_ | refine Aw.block ?_ | refine Aw.skip ?_ | refine Aw.exit ?_ | refine Aw.condT rfl ?_ | refine Aw.condF rfl ?_)
  refine Aw.regionS [] [(true, 0), (true, 1), (true, 3), (true, 4), (false, 2), (false, 5), (false, 6), (true, 7)] (by kernel_rfl) (by kernel_rfl) ?_
  iterate 4 refine AwSch.take (Yd.val hT rfl rfl) ?_
  refine AwSch.one ?_
  refine Ed.cl (F13 _ _ (okNm_auth _)) [] rfl ⟨⟨rfl, rfl⟩, ⟨rfl, rfl⟩, trivial⟩ trivial rfl rfl ?_   -- step.Begin
  rintro _ _ rfl
  refine AwSch.one ?_
  refine Ed.cl (F14 _ _ (okNm_auth _)) [] rfl ⟨⟨rfl, rfl⟩, ⟨rfl, rfl⟩, trivial⟩ trivial rfl rfl ?_   -- certpathref30.Begin
  rintro _ _ rfl
  refine AwSch.one ?_
  refine Ed.cl (F12 _ (Nat.zero_le _)) [] rfl ⟨⟨rfl, rfl⟩, ⟨rfl, rfl⟩, trivial⟩ trivial rfl rfl ?_   -- certpathlaw30.sameProgress
  rintro _ _ rfl
  refine AwSch.take (Yd.val hT rfl rfl) ?_
  repeat (first | refine AwOps.nil ?_ | refine AwSch.nil ?_ | refine Aw.seq ?_ | refine Aw.region ?_ | refine Aw.block ?_ | refine Aw.skip ?_ | refine Aw.exit ?_ | refine Aw.condT rfl ?_ | refine Aw.condF rfl ?_)
  refine AwOps.v hT rfl ?_
  refine AwOps.cl (F15 _) [14] rfl ⟨⟨14, rfl, rfl⟩, trivial⟩ ⟨rfl, trivial⟩ rfl ?_   -- certpathlaw30.progress
  rintro _ _ ⟨s1, d1, rfl, rfl, hs1⟩
  have hp1 := hs1.1
  refine AwOps.eff hT rfl ?_
  refine AwOps.eff hT rfl ?_
  repeat (first | refine AwOps.nil ?_ | refine AwSch.nil ?_ | refine Aw.seq ?_ | refine Aw.region ?_ | refine Aw.block ?_ | refine Aw.skip ?_ | refine Aw.exit ?_ | refine Aw.condT rfl ?_ | refine Aw.condF rfl ?_)
  refine Aw.regionS [] [(true, 0), (true, 1), (true, 3), (true, 4), (false, 2), (false, 5), (true, 6), (true, 7)] (by kernel_rfl) (by kernel_rfl) ?_
  iterate 4 refine AwSch.take (Yd.val hT rfl rfl) ?_
  refine AwSch.one ?_
  refine Ed.cl (F16 _ _ (by assumption) (by assumption)) [] rfl ⟨⟨rfl, rfl⟩, ⟨rfl, rfl⟩, trivial⟩ trivial rfl rfl ?_   -- step.Signers
  rintro _ _ rfl
  refine AwSch.one ?_
  refine Ed.cl (F17 _ _ (by assumption) (by assumption)) [] rfl ⟨⟨rfl, rfl⟩, ⟨rfl, rfl⟩, trivial⟩ trivial rfl rfl ?_   -- certpathref30.Signers
  rintro _ _ rfl
  refine AwSch.take (Yd.val hT rfl rfl) ?_
  refine AwSch.take (Yd.val hT rfl rfl) ?_
  repeat (first | refine AwOps.nil ?_ | refine AwSch.nil ?_ | refine Aw.seq ?_ | refine Aw.region ?_ | refine Aw.block ?_ | refine Aw.skip ?_ | refine Aw.exit ?_ | refine Aw.condT rfl ?_ | refine Aw.condF rfl ?_)
  iterate 5 refine AwOps.v hT rfl ?_
  repeat (first | refine AwOps.nil ?_ | refine AwSch.nil ?_ | refine Aw.seq ?_ | refine Aw.region ?_ | refine Aw.block ?_ | refine Aw.skip ?_ | refine Aw.exit ?_ | refine Aw.condT rfl ?_ | refine Aw.condF rfl ?_)
  refine Aw.tst rfl (fun hb40 => ?_) (fun hb40 => ?_)
  · skip
    simp [aeq_self, keq_self, seq] at hb40
  · skip
    repeat (first | refine AwOps.nil ?_ | refine AwSch.nil ?_ | refine Aw.seq ?_ | refine Aw.region ?_ | refine Aw.block ?_ | refine Aw.skip ?_ | refine Aw.exit ?_ | refine Aw.condT rfl ?_ | refine Aw.condF rfl ?_)
    refine AwOps.v hT rfl ?_
    repeat (first | refine AwOps.nil ?_ | refine AwSch.nil ?_ | refine Aw.seq ?_ | refine Aw.region ?_ | refine Aw.block ?_ | refine Aw.skip ?_ | refine Aw.exit ?_ | refine Aw.condT rfl ?_ | refine Aw.condF rfl ?_)
    refine Aw.bnd 9 rfl fun hB1 => ?_
    replace hB1 : (signersS s1 q1).length ≤ maxLen := by simpa using hB1
    repeat (first | refine AwOps.nil ?_ | refine AwSch.nil ?_ | refine Aw.seq ?_ | refine Aw.region ?_ | refine Aw.block ?_ | refine Aw.skip ?_ | refine Aw.exit ?_ | refine Aw.condT rfl ?_ | refine Aw.condF rfl ?_)
    refine Aw.lp (ι := Nat) (n := 90) [(1, _), (5, _), (8, _), (9, _), (10, _)] [(8, _), (14, _)] (fun gq => [(11, sc (.int .i64 gq))]) (fun gq => []) (fun gq => gq ≤ (signersS s1 q1).length ∧ (True)) (fun gq => (signersS s1 q1).length - gq) (0) ?ok1 (Less.tn ⟨rfl, ⟨rfl, rfl, rfl, rfl, rfl, rfl, trivial⟩, ⟨rfl, rfl, trivial⟩⟩) ?bd1
    case ok1 =>
      try dsimp only
      first | trivial | exact ⟨Nat.zero_le _, trivial⟩ | (simp; done) | (refine ⟨by simp, ?_⟩; (first | trivial | (simp; done))) | (simp; first | omega | (simp only [w64] at *; omega) | (simp [w64] at *; omega))
    case bd1 =>
      intro i1 hi1
      try dsimp only at hi1
      show Aw _ _ _ ⟨90, [(11, sc (.int .i64 i1))] ++ [(1, _), (5, _), (8, _), (9, _), (10, _)], [] ++ [(8, _), (14, _)]⟩ _
      repeat (first | refine AwOps.nil ?_ | refine AwSch.nil ?_ | refine Aw.seq ?_ | refine Aw.region ?_ | refine Aw.block ?_ | refine Aw.skip ?_ | refine Aw.exit ?_ | refine Aw.condT rfl ?_ | refine Aw.condF rfl ?_)
      iterate 4 refine AwOps.v hT rfl ?_
      repeat (first | refine AwOps.nil ?_ | refine AwSch.nil ?_ | refine Aw.seq ?_ | refine Aw.region ?_ | refine Aw.block ?_ | refine Aw.skip ?_ | refine Aw.exit ?_ | refine Aw.condT rfl ?_ | refine Aw.condF rfl ?_)
      refine Aw.tst rfl (fun hb44 => ?_) (fun hb44 => ?_)
      · skip
        have hlt1 : i1 < (signersS s1 q1).length := by simpa using hb44
        repeat (first | refine AwOps.nil ?_ | refine AwSch.nil ?_ | refine Aw.seq ?_ | refine Aw.region ?_ | refine Aw.block ?_ | refine Aw.skip ?_ | refine Aw.exit ?_ | refine Aw.condT rfl ?_ | refine Aw.condF rfl ?_)
        refine Aw.regionS [] [(true, 0), (true, 1), (true, 2), (true, 3), (true, 4), (true, 5), (true, 6), (true, 7), (true, 8), (true, 9), (true, 10), (true, 11), (true, 12), (true, 13), (true, 14), (true, 15), (true, 16), (true, 17), (true, 18), (true, 19), (true, 20), (true, 21), (false, 22), (true, 23), (true, 24)] (by kernel_rfl) (by kernel_rfl) ?_
        refine AwSch.take (Yd.val hT rfl rfl) ?_
        refine AwSch.take (Yd.val hT rfl rfl) ?_
        refine AwSch.take (Yd.im hT rfl hlt1 rfl) ?_
        iterate 4 refine AwSch.take (Yd.val hT rfl rfl) ?_
        refine AwSch.take (Yd.im hT rfl hlt1 rfl) ?_
        refine AwSch.take (Yd.val hT rfl rfl) ?_
        refine AwSch.take (Yd.val hT rfl rfl) ?_
        refine AwSch.take (Yd.bin rfl _ rfl (neq_eKey _ _)) ?_
        refine AwSch.take (Yd.val hT rfl rfl) ?_
        refine AwSch.split (t := 58) rfl (fun hb58 => ?_) (fun hb58 => ?_)
        · skip
          simp [aeq_self, keq_self, seq] at hb58
        · skip
          refine AwSch.take (Yd.val hT rfl rfl) ?_
          refine AwSch.take (Yd.val hT rfl rfl) ?_
          refine AwSch.take (Yd.im hT rfl hlt1 rfl) ?_
          iterate 4 refine AwSch.take (Yd.val hT rfl rfl) ?_
          refine AwSch.take (Yd.im hT rfl hlt1 rfl) ?_
          refine AwSch.take (Yd.val hT rfl rfl) ?_
          refine AwSch.take (Yd.val hT rfl rfl) ?_
          refine AwSch.one ?_
          refine Ed.cl (F18 _) [] rfl ⟨⟨rfl, rfl⟩, ⟨rfl, rfl⟩, trivial⟩ trivial rfl rfl ?_   -- certpathref07.ExactName
          rintro _ _ rfl
          refine AwSch.take (Yd.val hT rfl rfl) ?_
          refine AwSch.take (Yd.val hT rfl rfl) ?_
          repeat (first | refine AwOps.nil ?_ | refine AwSch.nil ?_ | refine Aw.seq ?_ | refine Aw.region ?_ | refine Aw.block ?_ | refine Aw.skip ?_ | refine Aw.exit ?_ | refine Aw.condT rfl ?_ | refine Aw.condF rfl ?_)
          iterate 3 refine AwOps.v hT rfl ?_
          repeat (first | refine AwOps.nil ?_ | refine AwSch.nil ?_ | refine Aw.seq ?_ | refine Aw.region ?_ | refine Aw.block ?_ | refine Aw.skip ?_ | refine Aw.exit ?_ | refine Aw.condT rfl ?_ | refine Aw.condF rfl ?_)
          refine ⟨(i1 + 1), ?nx1, ?mu1, Less.tn ⟨rfl, ⟨incS hlt1 hB1, rfl, rfl, rfl, rfl, rfl, trivial⟩, ⟨rfl, rfl, trivial⟩⟩⟩
          case nx1 =>
            try dsimp only
            first | exact ⟨hlt1, trivial⟩ | trivial
          case mu1 =>
            try dsimp only
            first | omega | (simp only [w64] at *; omega) | (simp [w64] at *; omega)
      · skip
        repeat (first | refine AwOps.nil ?_ | refine AwSch.nil ?_ | refine Aw.seq ?_ | refine Aw.region ?_ | refine Aw.block ?_ | refine Aw.skip ?_ | refine Aw.exit ?_ | refine Aw.condT rfl ?_ | refine Aw.condF rfl ?_)
        refine AwOps.v hT rfl ?_
        refine AwOps.v hT rfl ?_
        refine AwOps.cl (F10 _ _ (by first | omega | (simp only [w64] at *; omega) | (simp [w64] at *; omega)) (by first | omega | (simp only [w64] at *; omega) | (simp [w64] at *; omega))) [14] rfl ⟨⟨14, rfl, rfl⟩, ⟨rfl, rfl⟩, trivial⟩ ⟨rfl, trivial⟩ rfl ?_   -- certpathmade.Deck).Next
        rintro _ _ ⟨v12, d12, rfl, rfl, hv12, hw12⟩
        refine AwOps.v hT rfl ?_
        refine AwOps.cl (F10 _ _ (by first | omega | (simp only [w64] at *; omega) | (simp [w64] at *; omega)) (by first | omega | (simp only [w64] at *; omega) | (simp [w64] at *; omega))) [14] rfl ⟨⟨14, rfl, rfl⟩, ⟨rfl, rfl⟩, trivial⟩ ⟨rfl, trivial⟩ rfl ?_   -- certpathmade.Deck).Next
        rintro _ _ ⟨v13, d13, rfl, rfl, hv13, hw13⟩
        refine AwOps.cl (F19 _ _ _ _ (by omega) (by omega)) [14] rfl ⟨⟨14, rfl, rfl⟩, ⟨rfl, rfl⟩, ⟨rfl, rfl⟩, ⟨rfl, rfl⟩, trivial⟩ ⟨rfl, trivial⟩ rfl ?_   -- certpathmade2.CertFields
        rintro _ _ ⟨c1, d2, rfl, rfl, ho1, ⟨ia1, hia1⟩, ⟨ib1, hib1⟩⟩
        have hci : okN c1.issuer := by rw [hia1.2]; exact (okNm_auth _).1
        have hcs : okN c1.subject := by rw [hib1.2]; exact (okNm_auth _).1
        refine AwOps.eff hT rfl ?_
        refine AwOps.eff hT rfl ?_
        repeat (first | refine AwOps.nil ?_ | refine AwSch.nil ?_ | refine Aw.seq ?_ | refine Aw.region ?_ | refine Aw.block ?_ | refine Aw.skip ?_ | refine Aw.exit ?_ | refine Aw.condT rfl ?_ | refine Aw.condF rfl ?_)
        refine Aw.regionS [] [(true, 0), (true, 1), (true, 2), (true, 4), (true, 5), (true, 6), (false, 3), (false, 7), (true, 8), (true, 9), (false, 10), (true, 11), (true, 12)] (by kernel_rfl) (by kernel_rfl) ?_
        iterate 6 refine AwSch.take (Yd.val hT rfl rfl) ?_
        refine AwSch.one ?_
        refine Ed.cl (F20 _ _ _ (by assumption) (by assumption)) [] rfl ⟨⟨rfl, rfl⟩, ⟨rfl, rfl⟩, ⟨rfl, rfl⟩, trivial⟩ trivial rfl rfl ?_   -- step.Special
        rintro _ _ rfl
        refine AwSch.one ?_
        refine Ed.cl (F21 _ _ _ (by assumption) (by assumption)) [] rfl ⟨⟨rfl, rfl⟩, ⟨rfl, rfl⟩, ⟨rfl, rfl⟩, trivial⟩ trivial rfl rfl ?_   -- certpathref30.Special
        rintro _ _ rfl
        refine AwSch.take (Yd.val hT rfl rfl) ?_
        refine AwSch.say (t := 86) (B := sc (.bool true)) rfl (by simp) ?_
        refine AwSch.take (Yd.val hT rfl rfl) ?_
        refine AwSch.one ?_
        refine Ed.cl (F22) [] rfl trivial trivial rfl rfl ?_   -- certpathlaw30.awake
        rintro _ _ rfl
        refine AwSch.take (Yd.val hT rfl rfl) ?_
        refine AwSch.take (Yd.val hT rfl rfl) ?_
        repeat (first | refine AwOps.nil ?_ | refine AwSch.nil ?_ | refine Aw.seq ?_ | refine Aw.region ?_ | refine Aw.block ?_ | refine Aw.skip ?_ | refine Aw.exit ?_ | refine Aw.condT rfl ?_ | refine Aw.condF rfl ?_)
        refine Aw.ret ?_
        refine ⟨_, [], rfl, trivial, ?_⟩
        exact rfl
end Go.Proofs.Ythhjfcmkelmobaa.Aw
