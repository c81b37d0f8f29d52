
/- The walks of Begin, Signers, the exact comparisons.
   Conditions: none. -/
import Derived.Test.YthhjfcmkelmobaaGreatWkCopy
namespace Go.Proofs.YthhjfcmkelmobaaGreat.Aw
open Go
set_option maxRecDepth 100000
set_option maxHeartbeats 4000000
set_option linter.unusedSimpArgs false
set_option linter.unusedVariables false

/-- What Begin answers. -/
def beginS (a : Anchor) (q : Query) : Progress := ⟨a.name, a.key, true, 8, limitS q.explicit, limitS q.noMapping, limitS q.noAny, []⟩
-- f13 certpath/step.Begin
theorem F13 (a : Anchor) (q : Query) (h : okNm a.name) : Fn Tryz.prog 30 [.pv (.agg (eAnchor a)), .pv (.agg (eQuery q))] [] (fun r _ => r = .agg (ePr (beginS a q))) := by
  refine Fn.intro (rs := [.cell 4 34]) hT Tryz.func30 (by kernel_rfl) rfl rfl rfl rfl fun C => ?_
  repeat (first | refine AwOps.nil ?_ | refine AwSch.nil ?_ | refine Aw.seq ?_ | refine Aw.region ?_ | refine Aw.block ?_ | refine Aw.skip ?_ | refine Aw.exit ?_ | refine Aw.condT rfl ?_ | refine Aw.condF rfl ?_)
  iterate 3 refine AwOps.eff hT rfl ?_
  repeat (first | refine AwOps.nil ?_ | refine AwSch.nil ?_ | refine Aw.seq ?_ | refine Aw.region ?_ | refine Aw.block ?_ | refine Aw.skip ?_ | refine Aw.exit ?_ | refine Aw.condT rfl ?_ | refine Aw.condF rfl ?_)
  refine Aw.regionS [4] [(true, 0), (true, 1), (true, 3), (true, 4), (true, 5), (true, 6), (true, 8), (true, 9), (true, 11), (true, 12), (false, 2), (false, 7), (false, 10), (false, 13), (true, 14), (false, 15)] (by kernel_rfl) (by kernel_rfl) ?_
  iterate 10 refine AwSch.take (Yd.val hT rfl rfl) ?_
  refine AwSch.one ?_
  refine Ed.cl (F39 _ (by assumption)) [] rfl ⟨⟨rfl, rfl⟩, trivial⟩ trivial rfl rfl ?_   -- copies.Name
  rintro _ _ rfl
  refine AwSch.one ?_
  refine Ed.cl (F40 _) [] rfl ⟨⟨rfl, rfl⟩, trivial⟩ trivial rfl rfl ?_   -- step.limit
  rintro _ _ rfl
  refine AwSch.one ?_
  refine Ed.cl (F40 _) [] rfl ⟨⟨rfl, rfl⟩, trivial⟩ trivial rfl rfl ?_   -- step.limit
  rintro _ _ rfl
  refine AwSch.one ?_
  refine Ed.cl (F40 _) [] rfl ⟨⟨rfl, rfl⟩, trivial⟩ trivial rfl rfl ?_   -- step.limit
  rintro _ _ rfl
  refine AwSch.take (Yd.build hT rfl) ?_
  refine AwSch.say (t := 19) (B := .agg [_, _, _, _, _, _, _, _, _, .sl (List.map eSub [])]) rfl rfl ?_
  refine AwSch.one ?_
  refine Ed.eff hT rfl (fun b hb => by injection hb with hb; subst hb; decide) ?_
  repeat (first | refine AwOps.nil ?_ | refine AwSch.nil ?_ | refine Aw.seq ?_ | refine Aw.region ?_ | refine Aw.block ?_ | refine Aw.skip ?_ | refine Aw.exit ?_ | refine Aw.condT rfl ?_ | refine Aw.condF rfl ?_)
  refine Aw.ret ?_
  refine ⟨_, [], rfl, trivial, ?_⟩
  exact rfl
theorem aeq_self (a : Attr) : aeq a a = true := by simp [aeq, seq]
theorem keq_self (a : Key) : keq a a = true := by simp [keq, seq]
-- f18 certpath/certpathref07.ExactName
theorem F18 (n : Name) : Fn Tryz.prog 28 [.pv (.agg (eName n)), .pv (.agg (eName n))] [] (fun r _ => r = sc (.bool true)) := by
  refine Fn.intro (rs := [.tmp 4]) hT Tryz.func28 (by kernel_rfl) rfl rfl rfl rfl fun C => ?_
  repeat (first | refine AwOps.nil ?_ | refine AwSch.nil ?_ | refine Aw.seq ?_ | refine Aw.region ?_ | refine Aw.block ?_ | refine Aw.skip ?_ | refine Aw.exit ?_ | refine Aw.condT rfl ?_ | refine Aw.condF rfl ?_)
  refine AwOps.eff hT rfl ?_
  refine AwOps.eff hT rfl ?_
  refine AwOps.v hT rfl ?_
  repeat (first | refine AwOps.nil ?_ | refine AwSch.nil ?_ | refine Aw.seq ?_ | refine Aw.region ?_ | refine Aw.block ?_ | refine Aw.skip ?_ | refine Aw.exit ?_ | refine Aw.condT rfl ?_ | refine Aw.condF rfl ?_)
  iterate 7 refine AwOps.v hT rfl ?_
  repeat (first | refine AwOps.nil ?_ | refine AwSch.nil ?_ | refine Aw.seq ?_ | refine Aw.region ?_ | refine Aw.block ?_ | refine Aw.skip ?_ | refine Aw.exit ?_ | refine Aw.condT rfl ?_ | refine Aw.condF rfl ?_)
  refine Aw.tst rfl (fun hb13 => ?_) (fun hb13 => ?_)
  · skip
    simp [aeq_self, keq_self, seq] at hb13
  · skip
    repeat (first | refine AwOps.nil ?_ | refine AwSch.nil ?_ | refine Aw.seq ?_ | refine Aw.region ?_ | refine Aw.block ?_ | refine Aw.skip ?_ | refine Aw.exit ?_ | refine Aw.condT rfl ?_ | refine Aw.condF rfl ?_)
    iterate 4 refine AwOps.v hT rfl ?_
    repeat (first | refine AwOps.nil ?_ | refine AwSch.nil ?_ | refine Aw.seq ?_ | refine Aw.region ?_ | refine Aw.block ?_ | refine Aw.skip ?_ | refine Aw.exit ?_ | refine Aw.condT rfl ?_ | refine Aw.condF rfl ?_)
    refine Aw.bnd 15 rfl fun hB1 => ?_
    replace hB1 : n.length ≤ maxLen := by simpa using hB1
    repeat (first | refine AwOps.nil ?_ | refine AwSch.nil ?_ | refine Aw.seq ?_ | refine Aw.region ?_ | refine Aw.block ?_ | refine Aw.skip ?_ | refine Aw.exit ?_ | refine Aw.condT rfl ?_ | refine Aw.condF rfl ?_)
    refine Aw.lp (ι := Nat) (n := 61) [(2, _), (3, _), (16, _)] [(2, _), (3, _)] (fun gq => [(17, sc (.int .i64 gq))]) (fun gq => []) (fun gq => gq ≤ n.length ∧ (True)) (fun gq => n.length - gq) (0) ?ok1 (Less.tn ⟨rfl, ⟨rfl, rfl, rfl, rfl, trivial⟩, ⟨rfl, rfl, trivial⟩⟩) ?bd1
    case ok1 =>
      try dsimp only
      first | trivial | exact ⟨Nat.zero_le _, trivial⟩ | (simp; done) | (refine ⟨by simp, ?_⟩; (first | trivial | (simp; done))) | (simp; first | omega | (simp only [w64] at *; omega) | (simp [w64] at *; omega))
    case bd1 =>
      intro i1 hi1
      try dsimp only at hi1
      show Aw _ _ _ ⟨61, [(17, sc (.int .i64 i1))] ++ [(2, _), (3, _), (16, _)], [] ++ [(2, _), (3, _)]⟩ _
      repeat (first | refine AwOps.nil ?_ | refine AwSch.nil ?_ | refine Aw.seq ?_ | refine Aw.region ?_ | refine Aw.block ?_ | refine Aw.skip ?_ | refine Aw.exit ?_ | refine Aw.condT rfl ?_ | refine Aw.condF rfl ?_)
      refine AwOps.v hT rfl ?_
      repeat (first | refine AwOps.nil ?_ | refine AwSch.nil ?_ | refine Aw.seq ?_ | refine Aw.region ?_ | refine Aw.block ?_ | refine Aw.skip ?_ | refine Aw.exit ?_ | refine Aw.condT rfl ?_ | refine Aw.condF rfl ?_)
      refine Aw.tst rfl (fun hb18 => ?_) (fun hb18 => ?_)
      · skip
        have hlt1 : i1 < n.length := by simpa using hb18
        repeat (first | refine AwOps.nil ?_ | refine AwSch.nil ?_ | refine Aw.seq ?_ | refine Aw.region ?_ | refine Aw.block ?_ | refine Aw.skip ?_ | refine Aw.exit ?_ | refine Aw.condT rfl ?_ | refine Aw.condF rfl ?_)
        refine AwOps.v hT rfl ?_
        refine AwOps.v hT rfl ?_
        repeat (first | refine AwOps.nil ?_ | refine AwSch.nil ?_ | refine Aw.seq ?_ | refine Aw.region ?_ | refine Aw.block ?_ | refine Aw.skip ?_ | refine Aw.exit ?_ | refine Aw.condT rfl ?_ | refine Aw.condF rfl ?_)
        refine Aw.regionS [] [(true, 0), (true, 1), (true, 2), (true, 3), (true, 4), (true, 5), (true, 6), (true, 7), (true, 8), (true, 9), (true, 10), (true, 11), (true, 12)] (by kernel_rfl) (by kernel_rfl) ?_
        iterate 3 refine AwSch.take (Yd.val hT rfl rfl) ?_
        refine AwSch.take (Yd.im hT rfl hlt1 rfl) ?_
        iterate 5 refine AwSch.take (Yd.val hT rfl rfl) ?_
        refine AwSch.take (Yd.im hT rfl hlt1 rfl) ?_
        iterate 3 refine AwSch.take (Yd.val hT rfl rfl) ?_
        repeat (first | refine AwOps.nil ?_ | refine AwSch.nil ?_ | refine Aw.seq ?_ | refine Aw.region ?_ | refine Aw.block ?_ | refine Aw.skip ?_ | refine Aw.exit ?_ | refine Aw.condT rfl ?_ | refine Aw.condF rfl ?_)
        refine Aw.tst rfl (fun hb32 => ?_) (fun hb32 => ?_)
        · skip
          simp [aeq_self, keq_self, seq] at hb32
        · skip
          repeat (first | refine AwOps.nil ?_ | refine AwSch.nil ?_ | refine Aw.seq ?_ | refine Aw.region ?_ | refine Aw.block ?_ | refine Aw.skip ?_ | refine Aw.exit ?_ | refine Aw.condT rfl ?_ | refine Aw.condF rfl ?_)
          iterate 3 refine AwOps.v hT rfl ?_
          refine AwOps.im hT rfl hlt1 rfl ?_
          iterate 3 refine AwOps.v hT rfl ?_
          repeat (first | refine AwOps.nil ?_ | refine AwSch.nil ?_ | refine Aw.seq ?_ | refine Aw.region ?_ | refine Aw.block ?_ | refine Aw.skip ?_ | refine Aw.exit ?_ | refine Aw.condT rfl ?_ | refine Aw.condF rfl ?_)
          refine Aw.bnd 37 rfl fun hB2 => ?_
          replace hB2 : n[i1].length ≤ maxLen := by simpa using hB2
          repeat (first | refine AwOps.nil ?_ | refine AwSch.nil ?_ | refine Aw.seq ?_ | refine Aw.region ?_ | refine Aw.block ?_ | refine Aw.skip ?_ | refine Aw.exit ?_ | refine Aw.condT rfl ?_ | refine Aw.condF rfl ?_)
          refine Aw.lp (ι := Nat) (n := 61) [(2, _), (3, _), (5, _), (16, _), (17, _), (38, _)] [(2, _), (3, _)] (fun gq => [(39, sc (.int .i64 gq))]) (fun gq => []) (fun gq => gq ≤ n[i1].length ∧ (True)) (fun gq => n[i1].length - gq) (0) ?ok2 (Less.tn ⟨rfl, ⟨rfl, rfl, rfl, rfl, rfl, rfl, rfl, trivial⟩, ⟨rfl, rfl, trivial⟩⟩) ?bd2
          case ok2 =>
            try dsimp only
            first | trivial | exact ⟨Nat.zero_le _, trivial⟩ | (simp; done) | (refine ⟨by simp, ?_⟩; (first | trivial | (simp; done))) | (simp; first | omega | (simp only [w64] at *; omega) | (simp [w64] at *; omega))
          case bd2 =>
            intro i2 hi2
            try dsimp only at hi2
            show Aw _ _ _ ⟨61, [(39, sc (.int .i64 i2))] ++ [(2, _), (3, _), (5, _), (16, _), (17, _), (38, _)], [] ++ [(2, _), (3, _)]⟩ _
            repeat (first | refine AwOps.nil ?_ | refine AwSch.nil ?_ | refine Aw.seq ?_ | refine Aw.region ?_ | refine Aw.block ?_ | refine Aw.skip ?_ | refine Aw.exit ?_ | refine Aw.condT rfl ?_ | refine Aw.condF rfl ?_)
            refine AwOps.v hT rfl ?_
            repeat (first | refine AwOps.nil ?_ | refine AwSch.nil ?_ | refine Aw.seq ?_ | refine Aw.region ?_ | refine Aw.block ?_ | refine Aw.skip ?_ | refine Aw.exit ?_ | refine Aw.condT rfl ?_ | refine Aw.condF rfl ?_)
            refine Aw.tst rfl (fun hb40 => ?_) (fun hb40 => ?_)
            · skip
              have hlt2 : i2 < n[i1].length := by simpa using hb40
              repeat (first | refine AwOps.nil ?_ | refine AwSch.nil ?_ | refine Aw.seq ?_ | refine Aw.region ?_ | refine Aw.block ?_ | refine Aw.skip ?_ | refine Aw.exit ?_ | refine Aw.condT rfl ?_ | refine Aw.condF rfl ?_)
              refine AwOps.v hT rfl ?_
              refine AwOps.v hT rfl ?_
              repeat (first | refine AwOps.nil ?_ | refine AwSch.nil ?_ | refine Aw.seq ?_ | refine Aw.region ?_ | refine Aw.block ?_ | refine Aw.skip ?_ | refine Aw.exit ?_ | refine Aw.condT rfl ?_ | refine Aw.condF rfl ?_)
              refine Aw.regionS [] [(true, 0), (true, 1), (true, 2), (true, 3), (true, 4), (true, 5), (true, 6), (true, 7), (true, 8), (true, 9), (true, 10), (true, 11), (true, 12), (true, 13), (true, 14), (true, 15), (true, 16)] (by kernel_rfl) (by kernel_rfl) ?_
              iterate 3 refine AwSch.take (Yd.val hT rfl rfl) ?_
              refine AwSch.take (Yd.im hT rfl hlt1 rfl) ?_
              refine AwSch.take (Yd.val hT rfl rfl) ?_
              refine AwSch.take (Yd.val hT rfl rfl) ?_
              refine AwSch.take (Yd.im hT rfl hlt2 rfl) ?_
              iterate 4 refine AwSch.take (Yd.val hT rfl rfl) ?_
              refine AwSch.take (Yd.im hT rfl hlt1 rfl) ?_
              refine AwSch.take (Yd.val hT rfl rfl) ?_
              refine AwSch.take (Yd.val hT rfl rfl) ?_
              refine AwSch.take (Yd.im hT rfl hlt2 rfl) ?_
              refine AwSch.take (Yd.val hT rfl rfl) ?_
              refine AwSch.take (Yd.bin rfl _ rfl (neq_eAttr _ _)) ?_
              repeat (first | refine AwOps.nil ?_ | refine AwSch.nil ?_ | refine Aw.seq ?_ | refine Aw.region ?_ | refine Aw.block ?_ | refine Aw.skip ?_ | refine Aw.exit ?_ | refine Aw.condT rfl ?_ | refine Aw.condF rfl ?_)
              refine Aw.tst rfl (fun hb58 => ?_) (fun hb58 => ?_)
              · skip
                simp [aeq_self, keq_self, seq] at hb58
              · skip
                repeat (first | refine AwOps.nil ?_ | refine AwSch.nil ?_ | refine Aw.seq ?_ | refine Aw.region ?_ | refine Aw.block ?_ | refine Aw.skip ?_ | refine Aw.exit ?_ | refine Aw.condT rfl ?_ | refine Aw.condF rfl ?_)
                refine AwOps.v hT rfl ?_
                refine AwOps.v hT rfl ?_
                repeat (first | refine AwOps.nil ?_ | refine AwSch.nil ?_ | refine Aw.seq ?_ | refine Aw.region ?_ | refine Aw.block ?_ | refine Aw.skip ?_ | refine Aw.exit ?_ | refine Aw.condT rfl ?_ | refine Aw.condF rfl ?_)
                refine ⟨(i2 + 1), ?nx2, ?mu2, Less.tn ⟨rfl, ⟨incS hlt2 hB2, rfl, rfl, rfl, rfl, rfl, rfl, trivial⟩, ⟨rfl, rfl, trivial⟩⟩⟩
                case nx2 =>
                  try dsimp only
                  first | exact ⟨hlt2, trivial⟩ | trivial
                case mu2 =>
                  try dsimp only
                  first | omega | (simp only [w64] at *; omega) | (simp [w64] at *; omega)
            · skip
              repeat (first | refine AwOps.nil ?_ | refine AwSch.nil ?_ | refine Aw.seq ?_ | refine Aw.region ?_ | refine Aw.block ?_ | refine Aw.skip ?_ | refine Aw.exit ?_ | refine Aw.condT rfl ?_ | refine Aw.condF rfl ?_)
              refine AwOps.v hT rfl ?_
              refine AwOps.v hT rfl ?_
              repeat (first | refine AwOps.nil ?_ | refine AwSch.nil ?_ | refine Aw.seq ?_ | refine Aw.region ?_ | refine Aw.block ?_ | refine Aw.skip ?_ | refine Aw.exit ?_ | refine Aw.condT rfl ?_ | refine Aw.condF rfl ?_)
              refine ⟨(i1 + 1), ?nx1, ?mu1, Less.tn ⟨rfl, ⟨incS hlt1 hB1, rfl, rfl, rfl, trivial⟩, ⟨rfl, rfl, trivial⟩⟩⟩
              case nx1 =>
                try dsimp only
                first | exact ⟨hlt1, trivial⟩ | trivial
              case mu1 =>
                try dsimp only
                first | omega | (simp only [w64] at *; omega) | (simp [w64] at *; omega)
      · skip
        repeat (first | refine AwOps.nil ?_ | refine AwSch.nil ?_ | refine Aw.seq ?_ | refine Aw.region ?_ | refine Aw.block ?_ | refine Aw.skip ?_ | refine Aw.exit ?_ | refine Aw.condT rfl ?_ | refine Aw.condF rfl ?_)
        refine AwOps.v hT rfl ?_
        repeat (first | refine AwOps.nil ?_ | refine AwSch.nil ?_ | refine Aw.seq ?_ | refine Aw.region ?_ | refine Aw.block ?_ | refine Aw.skip ?_ | refine Aw.exit ?_ | refine Aw.condT rfl ?_ | refine Aw.condF rfl ?_)
        refine Aw.ret ?_
        refine ⟨_, [], rfl, trivial, ?_⟩
        exact rfl
-- f38 certpath/certpathref07.ExactGenerals
theorem F38 (l : List Gn) : Fn Tryz.prog 29 [.pv (.one (.p (.sl (l.map eGn)))), .pv (.one (.p (.sl (l.map eGn))))] [] (fun r _ => r = sc (.bool true)) := by
  refine Fn.intro (rs := [.tmp 4]) hT Tryz.func29 (by kernel_rfl) rfl rfl rfl rfl fun C => ?_
  repeat (first | refine AwOps.nil ?_ | refine AwSch.nil ?_ | refine Aw.seq ?_ | refine Aw.region ?_ | refine Aw.block ?_ | refine Aw.skip ?_ | refine Aw.exit ?_ | refine Aw.condT rfl ?_ | refine Aw.condF rfl ?_)
  refine AwOps.v hT rfl ?_
  repeat (first | refine AwOps.nil ?_ | refine AwSch.nil ?_ | refine Aw.seq ?_ | refine Aw.region ?_ | refine Aw.block ?_ | refine Aw.skip ?_ | refine Aw.exit ?_ | refine Aw.condT rfl ?_ | refine Aw.condF rfl ?_)
  iterate 5 refine AwOps.v hT rfl ?_
  repeat (first | refine AwOps.nil ?_ | refine AwSch.nil ?_ | refine Aw.seq ?_ | refine Aw.region ?_ | refine Aw.block ?_ | refine Aw.skip ?_ | refine Aw.exit ?_ | refine Aw.condT rfl ?_ | refine Aw.condF rfl ?_)
  refine Aw.tst rfl (fun hb10 => ?_) (fun hb10 => ?_)
  · skip
    simp [aeq_self, keq_self, seq] at hb10
  · skip
    repeat (first | refine AwOps.nil ?_ | refine AwSch.nil ?_ | refine Aw.seq ?_ | refine Aw.region ?_ | refine Aw.block ?_ | refine Aw.skip ?_ | refine Aw.exit ?_ | refine Aw.condT rfl ?_ | refine Aw.condF rfl ?_)
    iterate 3 refine AwOps.v hT rfl ?_
    repeat (first | refine AwOps.nil ?_ | refine AwSch.nil ?_ | refine Aw.seq ?_ | refine Aw.region ?_ | refine Aw.block ?_ | refine Aw.skip ?_ | refine Aw.exit ?_ | refine Aw.condT rfl ?_ | refine Aw.condF rfl ?_)
    refine Aw.bnd 11 rfl fun hB1 => ?_
    replace hB1 : l.length ≤ maxLen := by simpa using hB1
    repeat (first | refine AwOps.nil ?_ | refine AwSch.nil ?_ | refine Aw.seq ?_ | refine Aw.region ?_ | refine Aw.block ?_ | refine Aw.skip ?_ | refine Aw.exit ?_ | refine Aw.condT rfl ?_ | refine Aw.condF rfl ?_)
    refine Aw.lp (ι := Nat) (n := 55) [(0, _), (1, _), (12, _)] [] (fun gq => [(13, sc (.int .i64 gq))]) (fun gq => []) (fun gq => gq ≤ l.length ∧ (True)) (fun gq => l.length - gq) (0) ?ok1 (Less.tn ⟨rfl, ⟨rfl, rfl, rfl, rfl, trivial⟩, trivial⟩) ?bd1
    case ok1 =>
      try dsimp only
      first | trivial | exact ⟨Nat.zero_le _, trivial⟩ | (simp; done) | (refine ⟨by simp, ?_⟩; (first | trivial | (simp; done))) | (simp; first | omega | (simp only [w64] at *; omega) | (simp [w64] at *; omega))
    case bd1 =>
      intro i1 hi1
      try dsimp only at hi1
      show Aw _ _ _ ⟨55, [(13, sc (.int .i64 i1))] ++ [(0, _), (1, _), (12, _)], [] ++ []⟩ _
      repeat (first | refine AwOps.nil ?_ | refine AwSch.nil ?_ | refine Aw.seq ?_ | refine Aw.region ?_ | refine Aw.block ?_ | refine Aw.skip ?_ | refine Aw.exit ?_ | refine Aw.condT rfl ?_ | refine Aw.condF rfl ?_)
      refine AwOps.v hT rfl ?_
      repeat (first | refine AwOps.nil ?_ | refine AwSch.nil ?_ | refine Aw.seq ?_ | refine Aw.region ?_ | refine Aw.block ?_ | refine Aw.skip ?_ | refine Aw.exit ?_ | refine Aw.condT rfl ?_ | refine Aw.condF rfl ?_)
      refine Aw.tst rfl (fun hb14 => ?_) (fun hb14 => ?_)
      · skip
        have hlt1 : i1 < l.length := by simpa using hb14
        repeat (first | refine AwOps.nil ?_ | refine AwSch.nil ?_ | refine Aw.seq ?_ | refine Aw.region ?_ | refine Aw.block ?_ | refine Aw.skip ?_ | refine Aw.exit ?_ | refine Aw.condT rfl ?_ | refine Aw.condF rfl ?_)
        refine AwOps.v hT rfl ?_
        refine AwOps.v hT rfl ?_
        repeat (first | refine AwOps.nil ?_ | refine AwSch.nil ?_ | refine Aw.seq ?_ | refine Aw.region ?_ | refine Aw.block ?_ | refine Aw.skip ?_ | refine Aw.exit ?_ | refine Aw.condT rfl ?_ | refine Aw.condF rfl ?_)
        refine Aw.regionS [] [(true, 0), (true, 1), (true, 2), (true, 3), (true, 4), (true, 5), (true, 6), (true, 7), (true, 8), (true, 9), (true, 10), (true, 11), (true, 12), (true, 13), (true, 14), (true, 15), (true, 16), (true, 17), (true, 18), (true, 19), (true, 20), (true, 21), (true, 22), (true, 23), (true, 24), (true, 25), (true, 26), (true, 27), (true, 28), (true, 29), (true, 30), (true, 31), (true, 32), (true, 33), (true, 34), (false, 35), (true, 36), (true, 37)] (by kernel_rfl) (by kernel_rfl) ?_
        refine AwSch.take (Yd.val hT rfl rfl) ?_
        refine AwSch.take (Yd.val hT rfl rfl) ?_
        refine AwSch.take (Yd.im hT rfl hlt1 rfl) ?_
        iterate 4 refine AwSch.take (Yd.val hT rfl rfl) ?_
        refine AwSch.take (Yd.im hT rfl hlt1 rfl) ?_
        iterate 4 refine AwSch.take (Yd.val hT rfl rfl) ?_
        refine AwSch.split (t := 27) rfl (fun hb27 => ?_) (fun hb27 => ?_)
        · skip
          simp [aeq_self, keq_self, seq] at hb27
        · skip
          refine AwSch.take (Yd.val hT rfl rfl) ?_
          refine AwSch.take (Yd.val hT rfl rfl) ?_
          refine AwSch.take (Yd.im hT rfl hlt1 rfl) ?_
          iterate 4 refine AwSch.take (Yd.val hT rfl rfl) ?_
          refine AwSch.take (Yd.im hT rfl hlt1 rfl) ?_
          iterate 5 refine AwSch.take (Yd.val hT rfl rfl) ?_
          refine AwSch.split (t := 40) rfl (fun hb40 => ?_) (fun hb40 => ?_)
          · skip
            simp [aeq_self, keq_self, seq] at hb40
          · skip
            refine AwSch.take (Yd.val hT rfl rfl) ?_
            refine AwSch.take (Yd.val hT rfl rfl) ?_
            refine AwSch.take (Yd.im hT rfl hlt1 rfl) ?_
            iterate 4 refine AwSch.take (Yd.val hT rfl rfl) ?_
            refine AwSch.take (Yd.im hT rfl hlt1 rfl) ?_
            refine AwSch.take (Yd.val hT rfl rfl) ?_
            refine AwSch.take (Yd.val hT rfl rfl) ?_
            refine AwSch.one ?_
            refine Ed.cl (F18 _) [] rfl ⟨⟨rfl, rfl⟩, ⟨rfl, rfl⟩, trivial⟩ trivial rfl rfl ?_   -- certpathref07.ExactName
            rintro _ _ rfl
            refine AwSch.take (Yd.val hT rfl rfl) ?_
            refine AwSch.take (Yd.val hT rfl rfl) ?_
            repeat (first | refine AwOps.nil ?_ | refine AwSch.nil ?_ | refine Aw.seq ?_ | refine Aw.region ?_ | refine Aw.block ?_ | refine Aw.skip ?_ | refine Aw.exit ?_ | refine Aw.condT rfl ?_ | refine Aw.condF rfl ?_)
            refine AwOps.v hT rfl ?_
            refine AwOps.v hT rfl ?_
            repeat (first | refine AwOps.nil ?_ | refine AwSch.nil ?_ | refine Aw.seq ?_ | refine Aw.region ?_ | refine Aw.block ?_ | refine Aw.skip ?_ | refine Aw.exit ?_ | refine Aw.condT rfl ?_ | refine Aw.condF rfl ?_)
            refine ⟨(i1 + 1), ?nx1, ?mu1, Less.tn ⟨rfl, ⟨incS hlt1 hB1, rfl, rfl, rfl, trivial⟩, trivial⟩⟩
            case nx1 =>
              try dsimp only
              first | exact ⟨hlt1, trivial⟩ | trivial
            case mu1 =>
              try dsimp only
              first | omega | (simp only [w64] at *; omega) | (simp [w64] at *; omega)
      · skip
        repeat (first | refine AwOps.nil ?_ | refine AwSch.nil ?_ | refine Aw.seq ?_ | refine Aw.region ?_ | refine Aw.block ?_ | refine Aw.skip ?_ | refine Aw.exit ?_ | refine Aw.condT rfl ?_ | refine Aw.condF rfl ?_)
        refine AwOps.v hT rfl ?_
        repeat (first | refine AwOps.nil ?_ | refine AwSch.nil ?_ | refine Aw.seq ?_ | refine Aw.region ?_ | refine Aw.block ?_ | refine Aw.skip ?_ | refine Aw.exit ?_ | refine Aw.condT rfl ?_ | refine Aw.condF rfl ?_)
        refine Aw.ret ?_
        refine ⟨_, [], rfl, trivial, ?_⟩
        exact rfl
-- f12 certpath/certpathlaw30.sameProgress
theorem F12 (s : Progress) (h : s.cons.length ≤ 1001) : Fn Tryz.prog 9 [.pv (.agg (ePr s)), .pv (.agg (ePr s))] [] (fun r _ => r = sc (.bool true)) := by
  refine Fn.intro (rs := [.tmp 4]) hT Tryz.func9 (by kernel_rfl) rfl rfl rfl rfl fun C => ?_
  repeat (first | refine AwOps.nil ?_ | refine AwSch.nil ?_ | refine Aw.seq ?_ | refine Aw.region ?_ | refine Aw.block ?_ | refine Aw.skip ?_ | refine Aw.exit ?_ | refine Aw.condT rfl ?_ | refine Aw.condF rfl ?_)
  refine AwOps.eff hT rfl ?_
  refine AwOps.eff hT rfl ?_
  refine AwOps.v hT rfl ?_
  repeat (first | refine AwOps.nil ?_ | refine AwSch.nil ?_ | refine Aw.seq ?_ | refine Aw.region ?_ | refine Aw.block ?_ | refine Aw.skip ?_ | refine Aw.exit ?_ | refine Aw.condT rfl ?_ | refine Aw.condF rfl ?_)
  iterate 6 refine AwOps.v hT rfl ?_
  refine AwOps.split (t := 13) rfl (fun hb13 => ?_) (fun hb13 => ?_)
  · skip
    simp [aeq_self, keq_self, seq] at hb13
  · skip
    iterate 7 refine AwOps.v hT rfl ?_
    refine AwOps.split (t := 20) rfl (fun hb20 => ?_) (fun hb20 => ?_)
    · skip
      simp [aeq_self, keq_self, seq] at hb20
    · skip
      iterate 7 refine AwOps.v hT rfl ?_
      refine AwOps.split (t := 27) rfl (fun hb27 => ?_) (fun hb27 => ?_)
      · skip
        simp [aeq_self, keq_self, seq] at hb27
      · skip
        iterate 7 refine AwOps.v hT rfl ?_
        refine AwOps.split (t := 34) rfl (fun hb34 => ?_) (fun hb34 => ?_)
        · skip
          simp [aeq_self, keq_self, seq] at hb34
        · skip
          iterate 7 refine AwOps.v hT rfl ?_
          refine AwOps.split (t := 41) rfl (fun hb41 => ?_) (fun hb41 => ?_)
          · skip
            simp [aeq_self, keq_self, seq] at hb41
          · skip
            iterate 4 refine AwOps.v hT rfl ?_
            refine AwOps.bin rfl _ rfl (neq_eKey _ _) ?_
            refine AwOps.v hT rfl ?_
            refine AwOps.v hT rfl ?_
            refine AwOps.split (t := 48) rfl (fun hb48 => ?_) (fun hb48 => ?_)
            · skip
              simp [aeq_self, keq_self, seq] at hb48
            · skip
              iterate 4 refine AwOps.v hT rfl ?_
              refine AwOps.cl (F18 _) [] rfl ⟨⟨rfl, rfl⟩, ⟨rfl, rfl⟩, trivial⟩ trivial rfl ?_   -- certpathref07.ExactName
              rintro _ _ rfl
              iterate 13 refine AwOps.v hT rfl ?_
              repeat (first | refine AwOps.nil ?_ | refine AwSch.nil ?_ | refine Aw.seq ?_ | refine Aw.region ?_ | refine Aw.block ?_ | refine Aw.skip ?_ | refine Aw.exit ?_ | refine Aw.condT rfl ?_ | refine Aw.condF rfl ?_)
              refine Aw.tst rfl (fun hb66 => ?_) (fun hb66 => ?_)
              · skip
                simp [aeq_self, keq_self, seq] at hb66
              · skip
                repeat (first | refine AwOps.nil ?_ | refine AwSch.nil ?_ | refine Aw.seq ?_ | refine Aw.region ?_ | refine Aw.block ?_ | refine Aw.skip ?_ | refine Aw.exit ?_ | refine Aw.condT rfl ?_ | refine Aw.condF rfl ?_)
                refine AwOps.v hT rfl ?_
                repeat (first | refine AwOps.nil ?_ | refine AwSch.nil ?_ | refine Aw.seq ?_ | refine Aw.region ?_ | refine Aw.block ?_ | refine Aw.skip ?_ | refine Aw.exit ?_ | refine Aw.condT rfl ?_ | refine Aw.condF rfl ?_)
                have hB1 : s.cons.length ≤ maxLen := by unfold maxLen; omega
                repeat (first | refine AwOps.nil ?_ | refine AwSch.nil ?_ | refine Aw.seq ?_ | refine Aw.region ?_ | refine Aw.block ?_ | refine Aw.skip ?_ | refine Aw.exit ?_ | refine Aw.condT rfl ?_ | refine Aw.condF rfl ?_)
                refine Aw.lp (ι := Nat) (n := 101) [(2, _), (3, _)] [(2, _), (3, _)] (fun gq => [(5, sc (.int .i64 gq))]) (fun gq => []) (fun gq => gq ≤ s.cons.length ∧ (True)) (fun gq => s.cons.length - gq) (0) ?ok1 (Less.tn ⟨rfl, ⟨rfl, rfl, rfl, trivial⟩, ⟨rfl, rfl, trivial⟩⟩) ?bd1
                case ok1 =>
                  try dsimp only
                  first | trivial | exact ⟨Nat.zero_le _, trivial⟩ | (simp; done) | (refine ⟨by simp, ?_⟩; (first | trivial | (simp; done))) | (simp; first | omega | (simp only [w64] at *; omega) | (simp [w64] at *; omega))
                case bd1 =>
                  intro i1 hi1
                  try dsimp only at hi1
                  show Aw _ _ _ ⟨101, [(5, sc (.int .i64 i1))] ++ [(2, _), (3, _)], [] ++ [(2, _), (3, _)]⟩ _
                  repeat (first | refine AwOps.nil ?_ | refine AwSch.nil ?_ | refine Aw.seq ?_ | refine Aw.region ?_ | refine Aw.block ?_ | refine Aw.skip ?_ | refine Aw.exit ?_ | refine Aw.condT rfl ?_ | refine Aw.condF rfl ?_)
                  iterate 6 refine AwOps.v hT rfl ?_
                  repeat (first | refine AwOps.nil ?_ | refine AwSch.nil ?_ | refine Aw.seq ?_ | refine Aw.region ?_ | refine Aw.block ?_ | refine Aw.skip ?_ | refine Aw.exit ?_ | refine Aw.condT rfl ?_ | refine Aw.condF rfl ?_)
                  refine Aw.tst rfl (fun hb72 => ?_) (fun hb72 => ?_)
                  · skip
                    have hlt1 : i1 < s.cons.length := by simpa using hb72
                    repeat (first | refine AwOps.nil ?_ | refine AwSch.nil ?_ | refine Aw.seq ?_ | refine Aw.region ?_ | refine Aw.block ?_ | refine Aw.skip ?_ | refine Aw.exit ?_ | refine Aw.condT rfl ?_ | refine Aw.condF rfl ?_)
                    refine Aw.regionAny [6, 7] (by kernel_rfl) ?_
                    refine AwAny.tk (i := 0) (Yd.val hT rfl rfl) (by kernel_rfl) ?_
                    refine AwAny.tk (i := 1) (Yd.val hT rfl rfl) (by kernel_rfl) ?_
                    refine AwAny.tk (i := 2) (Yd.val hT rfl rfl) (by kernel_rfl) ?_
                    refine AwAny.tk (i := 3) (Yd.val hT rfl rfl) (by kernel_rfl) ?_
                    refine AwAny.tk (i := 4) (Yd.im hT rfl hlt1 rfl) (by kernel_rfl) ?_
                    refine AwAny.tk (i := 5) (Yd.val hT rfl rfl) (by kernel_rfl) ?_
                    refine AwAny.tk (i := 6) (Yd.val hT rfl rfl) (by kernel_rfl) ?_
                    refine AwAny.tk (i := 7) (Yd.val hT rfl rfl) (by kernel_rfl) ?_
                    refine AwAny.tk (i := 8) (Yd.val hT rfl rfl) (by kernel_rfl) ?_
                    refine AwAny.tk (i := 9) (Yd.val hT rfl rfl) (by kernel_rfl) ?_
                    refine AwAny.tk (i := 10) (Yd.im hT rfl hlt1 rfl) (by kernel_rfl) ?_
                    refine AwAny.tk (i := 11) (Yd.val hT rfl rfl) (by kernel_rfl) ?_
                    refine AwAny.two (i := 12) (j := 13) (by kernel_rfl) ?_ ?_
                    · skip
                      refine Ed.eff hT rfl (fun b hb => by cases hb) ?_
                      refine AwAny.one (i := 13) (by kernel_rfl) ?_
                      refine Ed.eff hT rfl (fun b hb => by cases hb) ?_
                      refine AwAny.one (i := 14) (by kernel_rfl) ?_
                      refine Ed.eff hT rfl (fun b hb => by injection hb with hb; subst hb; decide) ?_
                      refine AwAny.one (i := 15) (by kernel_rfl) ?_
                      refine Ed.eff hT rfl (fun b hb => by injection hb with hb; subst hb; decide) ?_
                      refine AwAny.done (by kernel_rfl) ?_
                      repeat (first | refine AwOps.nil ?_ | refine AwSch.nil ?_ | refine Aw.seq ?_ | refine Aw.region ?_ | refine Aw.block ?_ | refine Aw.skip ?_ | refine Aw.exit ?_ | refine Aw.condT rfl ?_ | refine Aw.condF rfl ?_)
                      iterate 4 refine AwOps.v hT rfl ?_
                      refine AwOps.cl (F38 _) [] rfl ⟨⟨rfl, rfl⟩, ⟨rfl, rfl⟩, trivial⟩ trivial rfl ?_   -- certpathref07.ExactGenerals
                      rintro _ _ rfl
                      iterate 6 refine AwOps.v hT rfl ?_
                      refine AwOps.cl (F38 _) [] rfl ⟨⟨rfl, rfl⟩, ⟨rfl, rfl⟩, trivial⟩ trivial rfl ?_   -- certpathref07.ExactGenerals
                      rintro _ _ rfl
                      refine AwOps.v hT rfl ?_
                      refine AwOps.v hT rfl ?_
                      repeat (first | refine AwOps.nil ?_ | refine AwSch.nil ?_ | refine Aw.seq ?_ | refine Aw.region ?_ | refine Aw.block ?_ | refine Aw.skip ?_ | refine Aw.exit ?_ | refine Aw.condT rfl ?_ | refine Aw.condF rfl ?_)
                      iterate 3 refine AwOps.v hT rfl ?_
                      repeat (first | refine AwOps.nil ?_ | refine AwSch.nil ?_ | refine Aw.seq ?_ | refine Aw.region ?_ | refine Aw.block ?_ | refine Aw.skip ?_ | refine Aw.exit ?_ | refine Aw.condT rfl ?_ | refine Aw.condF rfl ?_)
                      refine ⟨(i1 + 1), ?nx1, ?mu1, Less.tn ⟨rfl, ⟨incS hlt1 hB1, rfl, rfl, trivial⟩, ⟨rfl, rfl, trivial⟩⟩⟩
                      case nx1 =>
                        try dsimp only
                        first | exact ⟨hlt1, trivial⟩ | trivial
                      case mu1 =>
                        try dsimp only
                        first | omega | (simp only [w64] at *; omega) | (simp [w64] at *; omega)
                    · skip
                      refine Ed.eff hT rfl (fun b hb => by cases hb) ?_
                      refine AwAny.one (i := 12) (by kernel_rfl) ?_
                      refine Ed.eff hT rfl (fun b hb => by cases hb) ?_
                      refine AwAny.one (i := 14) (by kernel_rfl) ?_
                      refine Ed.eff hT rfl (fun b hb => by injection hb with hb; subst hb; decide) ?_
                      refine AwAny.one (i := 15) (by kernel_rfl) ?_
                      refine Ed.eff hT rfl (fun b hb => by injection hb with hb; subst hb; decide) ?_
                      refine AwAny.done (by kernel_rfl) ?_
                      repeat (first | refine AwOps.nil ?_ | refine AwSch.nil ?_ | refine Aw.seq ?_ | refine Aw.region ?_ | refine Aw.block ?_ | refine Aw.skip ?_ | refine Aw.exit ?_ | refine Aw.condT rfl ?_ | refine Aw.condF rfl ?_)
                      iterate 4 refine AwOps.v hT rfl ?_
                      refine AwOps.cl (F38 _) [] rfl ⟨⟨rfl, rfl⟩, ⟨rfl, rfl⟩, trivial⟩ trivial rfl ?_   -- certpathref07.ExactGenerals
                      rintro _ _ rfl
                      iterate 6 refine AwOps.v hT rfl ?_
                      refine AwOps.cl (F38 _) [] rfl ⟨⟨rfl, rfl⟩, ⟨rfl, rfl⟩, trivial⟩ trivial rfl ?_   -- certpathref07.ExactGenerals
                      rintro _ _ rfl
                      refine AwOps.v hT rfl ?_
                      refine AwOps.v hT rfl ?_
                      repeat (first | refine AwOps.nil ?_ | refine AwSch.nil ?_ | refine Aw.seq ?_ | refine Aw.region ?_ | refine Aw.block ?_ | refine Aw.skip ?_ | refine Aw.exit ?_ | refine Aw.condT rfl ?_ | refine Aw.condF rfl ?_)
                      iterate 3 refine AwOps.v hT rfl ?_
                      repeat (first | refine AwOps.nil ?_ | refine AwSch.nil ?_ | refine Aw.seq ?_ | refine Aw.region ?_ | refine Aw.block ?_ | refine Aw.skip ?_ | refine Aw.exit ?_ | refine Aw.condT rfl ?_ | refine Aw.condF rfl ?_)
                      refine ⟨(i1 + 1), ?nx1, ?mu1, Less.tn ⟨rfl, ⟨incS hlt1 hB1, rfl, rfl, trivial⟩, ⟨rfl, rfl, trivial⟩⟩⟩
                      case nx1 =>
                        try dsimp only
                        first | exact ⟨hlt1, trivial⟩ | trivial
                      case mu1 =>
                        try dsimp only
                        first | omega | (simp only [w64] at *; omega) | (simp [w64] at *; omega)
                  · skip
                    repeat (first | refine AwOps.nil ?_ | refine AwSch.nil ?_ | refine Aw.seq ?_ | refine Aw.region ?_ | refine Aw.block ?_ | refine Aw.skip ?_ | refine Aw.exit ?_ | refine Aw.condT rfl ?_ | refine Aw.condF rfl ?_)
                    refine AwOps.v hT rfl ?_
                    repeat (first | refine AwOps.nil ?_ | refine AwSch.nil ?_ | refine Aw.seq ?_ | refine Aw.region ?_ | refine Aw.block ?_ | refine Aw.skip ?_ | refine Aw.exit ?_ | refine Aw.condT rfl ?_ | refine Aw.condF rfl ?_)
                    refine Aw.ret ?_
                    refine ⟨_, [], rfl, trivial, ?_⟩
                    exact rfl
/-- The keys that may sign the next step. -/
def signersS (s : Progress) (q : Query) : List Anchor := (if s.lists then [⟨s.issuer, s.key⟩] else []) ++ q.issuers
-- f16 certpath/step.Signers
theorem F16 (s : Progress) (q : Query) (hs : okP s) (hq : okQ q) : Fn Tryz.prog 32 [.pv (.agg (ePr s)), .pv (.agg (eQuery q))] [] (fun r _ => r = .one (.p (.sl ((signersS s q).map eAnchor)))) := by
  refine Fn.intro (rs := [.tmp 4]) hT Tryz.func32 (by kernel_rfl) rfl rfl rfl rfl fun C => ?_
  have hs0 := hs.1
  have hq3 := hq.2.2.1
  have hq4 := hq.2.2.2
  repeat (first | refine AwOps.nil ?_ | refine AwSch.nil ?_ | refine Aw.seq ?_ | refine Aw.region ?_ | refine Aw.block ?_ | refine Aw.skip ?_ | refine Aw.exit ?_ | refine Aw.condT rfl ?_ | refine Aw.condF rfl ?_)
  refine AwOps.eff hT rfl ?_
  refine AwOps.eff hT rfl ?_
  refine AwOps.v hT rfl ?_
  repeat (first | refine AwOps.nil ?_ | refine AwSch.nil ?_ | refine Aw.seq ?_ | refine Aw.region ?_ | refine Aw.block ?_ | refine Aw.skip ?_ | refine Aw.exit ?_ | refine Aw.condT rfl ?_ | refine Aw.condF rfl ?_)
  refine AwOps.v hT rfl ?_
  repeat (first | refine AwOps.nil ?_ | refine AwSch.nil ?_ | refine Aw.seq ?_ | refine Aw.region ?_ | refine Aw.block ?_ | refine Aw.skip ?_ | refine Aw.exit ?_ | refine Aw.condT rfl ?_ | refine Aw.condF rfl ?_)
  refine AwOps.v hT rfl ?_
  refine AwOps.v hT rfl ?_
  repeat (first | refine AwOps.nil ?_ | refine AwSch.nil ?_ | refine Aw.seq ?_ | refine Aw.region ?_ | refine Aw.block ?_ | refine Aw.skip ?_ | refine Aw.exit ?_ | refine Aw.condT rfl ?_ | refine Aw.condF rfl ?_)
  refine Aw.tst rfl (fun hb7 => ?_) (fun hb7 => ?_)
  · skip
    repeat (first | refine AwOps.nil ?_ | refine AwSch.nil ?_ | refine Aw.seq ?_ | refine Aw.region ?_ | refine Aw.block ?_ | refine Aw.skip ?_ | refine Aw.exit ?_ | refine Aw.condT rfl ?_ | refine Aw.condF rfl ?_)
    refine Aw.regionS [] [(true, 0), (true, 1), (true, 2), (true, 4), (true, 5), (false, 3), (true, 6), (false, 7), (false, 8), (true, 9)] (by kernel_rfl) (by kernel_rfl) ?_
    iterate 5 refine AwSch.take (Yd.val hT rfl rfl) ?_
    refine AwSch.one ?_
    refine Ed.cl (F39 _ (by assumption)) [] rfl ⟨⟨rfl, rfl⟩, trivial⟩ trivial rfl rfl ?_   -- copies.Name
    rintro _ _ rfl
    refine AwSch.take (Yd.build hT rfl) ?_
    refine AwSch.say (t := 14) (B := .agg [_, _, _, _]) rfl rfl ?_
    refine AwSch.one ?_
    refine Ed.lit hT rfl ?_
    refine AwSch.freeze 15 rfl rfl (by first | rfl | (simp; done)) rfl ?_
    refine AwSch.say (t := 15) (B := .one (.p (.sl (List.map eAnchor [⟨_, ⟨_, _, _⟩⟩])))) rfl rfl ?_
    refine AwSch.one ?_
    refine Ed.appm (xs := []) hT rfl rfl rfl (by first | rfl | (simp; done)) (by first | rfl | (simp; done)) (fun _ => rfl) (by simp only [List.length_append, List.length_cons, List.length_nil]; omega) (by intro b hb; cases hb <;> decide) ?_
    refine AwSch.take (Yd.val hT rfl rfl) ?_
    repeat (first | refine AwOps.nil ?_ | refine AwSch.nil ?_ | refine Aw.seq ?_ | refine Aw.region ?_ | refine Aw.block ?_ | refine Aw.skip ?_ | refine Aw.exit ?_ | refine Aw.condT rfl ?_ | refine Aw.condF rfl ?_)
    iterate 3 refine AwOps.v hT rfl ?_
    refine AwOps.cl (F43 _ (by omega) (by assumption)) [] rfl ⟨⟨rfl, rfl⟩, trivial⟩ trivial rfl ?_   -- copies.Anchors
    rintro _ _ rfl
    refine AwOps.appm  hT rfl rfl rfl (by first | rfl | (simp; done)) (by first | rfl | (simp; done)) (fun _ => rfl) (by simp only [List.length_append, List.length_cons, List.length_nil]; omega) ?_
    refine AwOps.turn (Tn.fz 21 rfl rfl (by first | rfl | (simp; done)) rfl) ?_
    refine AwOps.v hT rfl ?_
    repeat (first | refine AwOps.nil ?_ | refine AwSch.nil ?_ | refine Aw.seq ?_ | refine Aw.region ?_ | refine Aw.block ?_ | refine Aw.skip ?_ | refine Aw.exit ?_ | refine Aw.condT rfl ?_ | refine Aw.condF rfl ?_)
    refine Aw.ret ?_
    refine ⟨_, [], rfl, trivial, ?_⟩
    (simp [signersS, hb7]) <;> rfl
  · skip
    repeat (first | refine AwOps.nil ?_ | refine AwSch.nil ?_ | refine Aw.seq ?_ | refine Aw.region ?_ | refine Aw.block ?_ | refine Aw.skip ?_ | refine Aw.exit ?_ | refine Aw.condT rfl ?_ | refine Aw.condF rfl ?_)
    iterate 3 refine AwOps.v hT rfl ?_
    refine AwOps.cl (F43 _ (by omega) (by assumption)) [] rfl ⟨⟨rfl, rfl⟩, trivial⟩ trivial rfl ?_   -- copies.Anchors
    rintro _ _ rfl
    refine AwOps.appm (xs := []) hT rfl rfl rfl (by first | rfl | (simp; done)) (by first | rfl | (simp; done)) (fun _ => rfl) (by simp only [List.length_append, List.length_cons, List.length_nil]; omega) ?_
    refine AwOps.turn (Tn.fz 21 rfl rfl (by first | rfl | (simp; done)) rfl) ?_
    refine AwOps.v hT rfl ?_
    repeat (first | refine AwOps.nil ?_ | refine AwSch.nil ?_ | refine Aw.seq ?_ | refine Aw.region ?_ | refine Aw.block ?_ | refine Aw.skip ?_ | refine Aw.exit ?_ | refine Aw.condT rfl ?_ | refine Aw.condF rfl ?_)
    refine Aw.ret ?_
    refine ⟨_, [], rfl, trivial, ?_⟩
    (simp [signersS, hb7]) <;> rfl
-- f77 certpath/subtree.each[certpath/api.Subtrees,certpath/api.Subtrees]
theorem F77o (f : Nat) (l : List Sub) (hl : l.length ≤ 1000000) (hf : ∀ x ∈ l, Fn Tryz.prog f [.pv (.agg (eSub x))] [] (fun r _ => r = .agg (eSub x))) : FnO Tryz.prog 50 [.one (.p (.sl (l.map eSub))), sc (.func (.func f) #[] #[])] (fun o => o = .row 40 2 (l.map eSub)) := by
  refine FnO.intro Tryz.func50 (by kernel_rfl) rfl rfl rfl rfl fun C => ?_
  repeat (first | refine AwOps.nil ?_ | refine AwSch.nil ?_ | refine Aw.seq ?_ | refine Aw.region ?_ | refine Aw.block ?_ | refine Aw.skip ?_ | refine Aw.exit ?_ | refine Aw.condT rfl ?_ | refine Aw.condF rfl ?_)
  refine AwOps.v hT rfl ?_
  repeat (first | refine AwOps.nil ?_ | refine AwSch.nil ?_ | refine Aw.seq ?_ | refine Aw.region ?_ | refine Aw.block ?_ | refine Aw.skip ?_ | refine Aw.exit ?_ | refine Aw.condT rfl ?_ | refine Aw.condF rfl ?_)
  refine AwOps.v hT rfl ?_
  repeat (first | refine AwOps.nil ?_ | refine AwSch.nil ?_ | refine Aw.seq ?_ | refine Aw.region ?_ | refine Aw.block ?_ | refine Aw.skip ?_ | refine Aw.exit ?_ | refine Aw.condT rfl ?_ | refine Aw.condF rfl ?_)
  iterate 3 refine AwOps.v hT rfl ?_
  repeat (first | refine AwOps.nil ?_ | refine AwSch.nil ?_ | refine Aw.seq ?_ | refine Aw.region ?_ | refine Aw.block ?_ | refine Aw.skip ?_ | refine Aw.exit ?_ | refine Aw.condT rfl ?_ | refine Aw.condF rfl ?_)
  refine Aw.bnd 8 rfl fun hB1 => ?_
  replace hB1 : l.length ≤ maxLen := by simpa using hB1
  repeat (first | refine AwOps.nil ?_ | refine AwSch.nil ?_ | refine Aw.seq ?_ | refine Aw.region ?_ | refine Aw.block ?_ | refine Aw.skip ?_ | refine Aw.exit ?_ | refine Aw.condT rfl ?_ | refine Aw.condF rfl ?_)
  refine Aw.turn (Tn.own 5 905 40 2 rfl (by decide) (by decide) rfl) ?_
  refine Aw.lp (ι := Nat) (n := 22) [(1, _), (8, _), (9, _)] [] (fun gq => [(5, .one (.own 905 (l.take gq).length)), (10, sc (.int .i64 gq))]) (fun gq => [(905, .row 40 2 true (List.map eSub (l.take gq)))]) (fun gq => gq ≤ l.length ∧ (True)) (fun gq => l.length - gq) (0) ?ok1 (Less.tn ⟨rfl, ⟨rfl, rfl, rfl, rfl, rfl, trivial⟩, ⟨rfl, trivial⟩⟩) ?bd1
  case ok1 =>
    try dsimp only
    exact ⟨Nat.zero_le _, trivial⟩
  case bd1 =>
    intro i1 hi1
    try dsimp only at hi1
    show Aw _ _ _ ⟨22, [(5, .one (.own 905 (l.take i1).length)), (10, sc (.int .i64 i1))] ++ [(1, _), (8, _), (9, _)], [(905, .row 40 2 true (List.map eSub (l.take i1)))] ++ []⟩ _
    repeat (first | refine AwOps.nil ?_ | refine AwSch.nil ?_ | refine Aw.seq ?_ | refine Aw.region ?_ | refine Aw.block ?_ | refine Aw.skip ?_ | refine Aw.exit ?_ | refine Aw.condT rfl ?_ | refine Aw.condF rfl ?_)
    refine AwOps.v hT rfl ?_
    repeat (first | refine AwOps.nil ?_ | refine AwSch.nil ?_ | refine Aw.seq ?_ | refine Aw.region ?_ | refine Aw.block ?_ | refine Aw.skip ?_ | refine Aw.exit ?_ | refine Aw.condT rfl ?_ | refine Aw.condF rfl ?_)
    refine Aw.tst rfl (fun hb11 => ?_) (fun hb11 => ?_)
    · skip
      have hlt1 : i1 < l.length := by simpa using hb11
      repeat (first | refine AwOps.nil ?_ | refine AwSch.nil ?_ | refine Aw.seq ?_ | refine Aw.region ?_ | refine Aw.block ?_ | refine Aw.skip ?_ | refine Aw.exit ?_ | refine Aw.condT rfl ?_ | refine Aw.condF rfl ?_)
      refine AwOps.im hT rfl hlt1 rfl ?_
      refine AwOps.v hT rfl ?_
      refine AwOps.eff hT rfl ?_
      refine AwOps.eff hT rfl ?_
      repeat (first | refine AwOps.nil ?_ | refine AwSch.nil ?_ | refine Aw.seq ?_ | refine Aw.region ?_ | refine Aw.block ?_ | refine Aw.skip ?_ | refine Aw.exit ?_ | refine Aw.condT rfl ?_ | refine Aw.condF rfl ?_)
      iterate 3 refine AwOps.v hT rfl ?_
      refine AwOps.cl (hf _ (List.getElem_mem hlt1)) [] rfl ⟨⟨rfl, rfl⟩, trivial⟩ trivial rfl ?_   -- fv
      rintro _ _ rfl
      refine AwOps.lit hT rfl ?_
      refine AwOps.turn (Tn.sayH (b := 18) (B := .row 40 2 true (List.map eSub [⟨_, _⟩])) rfl rfl) ?_
      refine AwOps.appm (ys := [⟨_, _⟩])  hT rfl rfl rfl (by first | rfl | (simp; done)) (by first | rfl | (simp; done)) (fun _ => rfl) (by simp only [List.length_cons, List.length_nil, List.length_take]; omega) ?_
      refine AwOps.v hT rfl ?_
      repeat (first | refine AwOps.nil ?_ | refine AwSch.nil ?_ | refine Aw.seq ?_ | refine Aw.region ?_ | refine Aw.block ?_ | refine Aw.skip ?_ | refine Aw.exit ?_ | refine Aw.condT rfl ?_ | refine Aw.condF rfl ?_)
      refine AwOps.v hT rfl ?_
      refine AwOps.v hT rfl ?_
      repeat (first | refine AwOps.nil ?_ | refine AwSch.nil ?_ | refine Aw.seq ?_ | refine Aw.region ?_ | refine Aw.block ?_ | refine Aw.skip ?_ | refine Aw.exit ?_ | refine Aw.condT rfl ?_ | refine Aw.condF rfl ?_)
      refine ⟨(i1 + 1), ?nx1, ?mu1, Tn.trans (Less.tn (τ := ⟨22, [(5, _), (10, _), (1, _), (8, _), (9, _)], [(19, _)]⟩) ⟨rfl, ⟨rfl, rfl, rfl, rfl, rfl, trivial⟩, ⟨rfl, trivial⟩⟩) (Tn.trans (Tn.ren 19 905 rfl rfl rfl) (Less.tn ⟨rfl, ⟨(ownsnoc hlt1), incS hlt1 hB1, rfl, rfl, rfl, trivial⟩, ⟨(rowsnoc hlt1), trivial⟩⟩))⟩
      case nx1 =>
        try dsimp only
        first | exact ⟨hlt1, trivial⟩ | trivial
      case mu1 =>
        try dsimp only
        first | omega | (simp only [w64] at *; omega) | (simp [w64] at *; omega)
    · skip
      have hi : i1 = l.length := by have := of_decide_eq_false hb11; simp only [List.length_map] at this; omega
      subst hi
      rw [List.take_length]
      repeat (first | refine AwOps.nil ?_ | refine AwSch.nil ?_ | refine Aw.seq ?_ | refine Aw.region ?_ | refine Aw.block ?_ | refine Aw.skip ?_ | refine Aw.exit ?_ | refine Aw.condT rfl ?_ | refine Aw.condF rfl ?_)
      refine AwOps.v hT rfl ?_
      refine AwOps.v hT rfl ?_
      repeat (first | refine AwOps.nil ?_ | refine AwSch.nil ?_ | refine Aw.seq ?_ | refine Aw.region ?_ | refine Aw.block ?_ | refine Aw.skip ?_ | refine Aw.exit ?_ | refine Aw.condT rfl ?_ | refine Aw.condF rfl ?_)
      refine Aw.ret ?_
      exact ⟨905, by decide, .inl ⟨_, _, _, _, rfl, rfl, by simp, rfl⟩⟩
-- f52 certpath/subtree.Add
theorem F52 (l : List Sub) (x : Sub) (hl : l.length ≤ 1000) (hk : ∀ x ∈ l, okSub x) (hx : okSub x) : Fn Tryz.prog 26 [.pv (.agg (eNSt l)), .pv (.agg (eSub x))] [] (fun r _ => r = .agg (eNSt (l ++ [x]))) := by
  refine Fn.intro (rs := [.cell 4 32]) hT Tryz.func26 (by kernel_rfl) rfl rfl rfl rfl fun C => ?_
  repeat (first | refine AwOps.nil ?_ | refine AwSch.nil ?_ | refine Aw.seq ?_ | refine Aw.region ?_ | refine Aw.block ?_ | refine Aw.skip ?_ | refine Aw.exit ?_ | refine Aw.condT rfl ?_ | refine Aw.condF rfl ?_)
  iterate 3 refine AwOps.eff hT rfl ?_
  repeat (first | refine AwOps.nil ?_ | refine AwSch.nil ?_ | refine Aw.seq ?_ | refine Aw.region ?_ | refine Aw.block ?_ | refine Aw.skip ?_ | refine Aw.exit ?_ | refine Aw.condT rfl ?_ | refine Aw.condF rfl ?_)
  refine Aw.regionS [4, 7] [(true, 0), (true, 1), (true, 3), (false, 2), (false, 4), (false, 5), (false, 6), (true, 7), (false, 8)] (by kernel_rfl) (by kernel_rfl) ?_
  iterate 3 refine AwSch.take (Yd.val hT rfl rfl) ?_
  refine AwSch.one ?_
  refine Ed.callO (F77o 51 _ (by omega) (fun x hx => F78 x (hk x hx))) rfl rfl rfl rfl ?_
  rintro _ rfl
  refine AwSch.one ?_
  refine Ed.cl (F78 _ hx) [] rfl ⟨⟨rfl, rfl⟩, trivial⟩ trivial rfl rfl ?_   -- subtree.clone
  rintro _ _ rfl
  refine AwSch.one ?_
  refine Ed.lit hT rfl ?_
  refine AwSch.freeze 10 rfl rfl (by first | rfl | (simp; done)) rfl ?_
  refine AwSch.say (t := 10) (B := .one (.p (.sl (List.map eSub [⟨_, _⟩])))) rfl rfl ?_
  refine AwSch.one ?_
  refine Ed.appm  hT rfl rfl rfl (by first | rfl | (simp; done)) (by first | rfl | (simp; done)) (fun _ => rfl) (by simp only [List.length_cons, List.length_nil]; omega) (by intro b hb; cases hb <;> decide) ?_
  refine AwSch.take (Yd.buildM hT rfl) ?_
  refine AwSch.one ?_
  refine Ed.stoM hT rfl (by decide) ?_
  repeat (first | refine AwOps.nil ?_ | refine AwSch.nil ?_ | refine Aw.seq ?_ | refine Aw.region ?_ | refine Aw.block ?_ | refine Aw.skip ?_ | refine Aw.exit ?_ | refine Aw.condT rfl ?_ | refine Aw.condF rfl ?_)
  refine Aw.turn (Tn.freezeC 4 0 rfl rfl rfl (by first | rfl | (simp; done)) rfl rfl) ?_
  refine Aw.ret ?_
  refine ⟨_, [], rfl, trivial, ?_⟩
  exact rfl
end Go.Proofs.YthhjfcmkelmobaaGreat.Aw
