
/- The walks of scope: Covers, Points and Mask; program and reference.
   Conditions: none. -/
import Derived.Test.YtbdgmondalkhlaaDoorWkScope
import Derived.Test.YtbdgmondalkhlaaDoorWkCopy
namespace Go.Proofs.YtbdgmondalkhlaaDoor.Aw
open Go
set_option maxRecDepth 100000
set_option maxHeartbeats 4000000
set_option linter.unusedSimpArgs false
set_option linter.unusedVariables false

-- f171 certpath/scope.Covers$1
theorem F171 (p : Point) (g : Gn) (hg : okG g) (hp : okPt p) : Fn Tryd.prog 28 [.pv (.agg (eGn g)), .ptr 0 0] [(53, ePoint p)] (fun r H' => r = sc (.bool (fitsB g p)) ∧ H' = [ePoint p]) := by
  refine Fn.intro (rs := [.tmp 3]) hT Tryd.func28 (by kernel_rfl) rfl rfl rfl rfl fun C => ?_
  refine Aw.seq (Aw.region ?_)
  refine AwOps.eff hT rfl ?_
  refine AwOps.v hT rfl ?_
  refine AwOps.nil (Aw.seq (Aw.region ?_))
  refine AwOps.v hT rfl ?_
  refine AwOps.v hT rfl ?_
  refine AwOps.cl (F172 _ _ (by assumption) (by assumption)) [] rfl ⟨⟨rfl, rfl⟩, ⟨rfl, rfl⟩, trivial⟩ trivial rfl ?_   -- scope.fits
  rintro _ _ rfl
  refine AwOps.v hT rfl ?_
  refine AwOps.nil ?_
  refine Aw.ret ?_
  refine ⟨_, [_], rfl, ⟨rfl, trivial⟩, ?_⟩
  exact ⟨rfl, rfl⟩
-- f174 certpath/certpathref26.fits
theorem F174 (gs : List Gn) (p : Point) (hgs : okGs gs) (hp : okPt p) : Fn Tryd.prog 32 [.pv (.one (.p (.sl (gs.map eGn)))), .pv (.agg (ePoint p))] [] (fun r _ => r = sc (.bool (gs.any fun g => fitsB g p))) := by
  refine Fn.intro (rs := [.tmp 4]) hT Tryd.func32 (by kernel_rfl) rfl rfl rfl rfl fun C => ?_
  refine Aw.seq (Aw.region ?_)
  refine AwOps.eff hT rfl ?_
  refine AwOps.v hT rfl ?_
  refine AwOps.nil (Aw.seq (Aw.seq (Aw.region ?_)))
  refine AwOps.v hT rfl ?_
  refine AwOps.nil (Aw.block ?_)
  have hB1 : gs.length ≤ maxLen := by have := hgs.1; unfold maxLen; omega
  refine Aw.lp (ι := Nat) (n := 48) [(0, _), (3, _)] [(3, _)] (fun gq => [(5, sc (.int .i64 gq))]) (fun gq => []) (fun gq => gq ≤ gs.length ∧ ((gs.take gq).any (fun g => fitsB g p) = false)) (fun gq => gs.length - gq) (0) ?ok1 (Less.tn ⟨rfl, ⟨rfl, rfl, rfl, trivial⟩, ⟨rfl, trivial⟩⟩) ?bd1
  case ok1 =>
    try dsimp only
    exact ⟨Nat.zero_le _, rfl⟩
  case bd1 =>
    intro i1 hi1
    try dsimp only at hi1
    show Aw _ _ _ ⟨48, [(5, sc (.int .i64 i1))] ++ [(0, _), (3, _)], [] ++ [(3, _)]⟩ _
    refine Aw.seq (Aw.seq (Aw.region ?_))
    iterate 4 refine AwOps.v hT rfl ?_
    refine AwOps.nil ?_
    refine Aw.tst rfl (fun hb10 => ?_) (fun hb10 => ?_)
    · skip
      have hlt1 : i1 < gs.length := by simpa using hb10
      refine Aw.skip (Aw.seq (Aw.block (Aw.seq (Aw.seq (Aw.region ?_)))))
      refine AwOps.v hT rfl ?_
      refine AwOps.nil (Aw.block ?_)
      have hB2 : p.names.length ≤ maxLen := by have := hp.1.1; unfold maxLen; omega
      refine Aw.lp (ι := Nat) (n := 48) [(0, _), (3, _), (5, _)] [(3, _)] (fun gq => [(6, sc (.int .i64 gq))]) (fun gq => []) (fun gq => gq ≤ p.names.length ∧ ((p.names.take gq).any (fun n => sameG gs[i1] n) = false)) (fun gq => p.names.length - gq) (0) ?ok2 (Less.tn ⟨rfl, ⟨rfl, rfl, rfl, rfl, trivial⟩, ⟨rfl, trivial⟩⟩) ?bd2
      case ok2 =>
        try dsimp only
        exact ⟨Nat.zero_le _, rfl⟩
      case bd2 =>
        intro i2 hi2
        try dsimp only at hi2
        show Aw _ _ _ ⟨48, [(6, sc (.int .i64 i2))] ++ [(0, _), (3, _), (5, _)], [] ++ [(3, _)]⟩ _
        refine Aw.seq (Aw.seq (Aw.region ?_))
        iterate 5 refine AwOps.v hT rfl ?_
        refine AwOps.nil ?_
        refine Aw.tst rfl (fun hb17 => ?_) (fun hb17 => ?_)
        · skip
          have hlt2 : i2 < p.names.length := by simpa using hb17
          refine Aw.skip (Aw.seq (Aw.block (Aw.seq ?_)))
          refine Aw.regionS [] [(true, 0), (true, 1), (true, 2), (true, 3), (true, 4), (true, 5), (true, 6), (true, 7), (true, 8), (false, 9)] (by kernel_rfl) (by kernel_rfl) ?_
          refine AwSch.take (Yd.val hT rfl rfl) ?_
          refine AwSch.take (Yd.val hT rfl rfl) ?_
          refine AwSch.take (Yd.im hT rfl hlt1 rfl) ?_
          iterate 4 refine AwSch.take (Yd.val hT rfl rfl) ?_
          refine AwSch.take (Yd.im hT rfl hlt2 rfl) ?_
          refine AwSch.take (Yd.val hT rfl rfl) ?_
          refine AwSch.one ?_
          refine Ed.cl (F183 _ _ (hgs.2 _ (List.getElem_mem hlt1)) (hp.1.2 _ (List.getElem_mem hlt2))) [] rfl ⟨⟨rfl, rfl⟩, ⟨rfl, rfl⟩, trivial⟩ trivial rfl rfl ?_   -- certpathref07.SameGeneral
          rintro _ _ rfl
          refine AwSch.nil ?_
          refine Aw.tst rfl (fun hb29 => ?_) (fun hb29 => ?_)
          · skip
            refine Aw.seq (Aw.region ?_)
            refine AwOps.v hT rfl ?_
            refine AwOps.nil ?_
            refine Aw.ret ?_
            refine ⟨_, [], rfl, trivial, ?_⟩
            exact congrArg (fun b => sc (.bool b)) (any_hit hlt1 (fits_yes hlt1 hlt2 hb29)).symm
          · skip
            refine Aw.skip (Aw.region ?_)
            iterate 3 refine AwOps.v hT rfl ?_
            refine AwOps.nil ?_
            refine ⟨(i2 + 1), ?nx2, ?mu2, Less.tn ⟨rfl, ⟨incS hlt2 hB2, rfl, rfl, rfl, trivial⟩, ⟨rfl, trivial⟩⟩⟩
            case nx2 =>
              try dsimp only
              exact ⟨hlt2, any_take hlt2 hi2.2 hb29⟩
            case mu2 =>
              try dsimp only
              first | omega | (simp only [w64] at *; omega) | (simp [w64] at *; omega)
        · skip
          have hin := any_full hi2.2 (by simpa using hb17)
          refine Aw.exit (Aw.seq ?_)
          refine Aw.regionS [] [(true, 0), (true, 1), (true, 2), (true, 3), (true, 4), (true, 5), (true, 6), (true, 7), (true, 8), (true, 9), (true, 10), (true, 11), (true, 12), (true, 13), (true, 14), (true, 15), (false, 16), (true, 17)] (by kernel_rfl) (by kernel_rfl) ?_
          iterate 5 refine AwSch.take (Yd.val hT rfl rfl) ?_
          refine AwSch.split (t := 34) rfl (fun hb34 => ?_) (fun hb34 => ?_)
          · skip
            iterate 4 refine AwSch.take (Yd.val hT rfl rfl) ?_
            refine AwSch.split (t := 38) rfl (fun hb38 => ?_) (fun hb38 => ?_)
            · skip
              refine AwSch.take (Yd.val hT rfl rfl) ?_
              refine AwSch.take (Yd.val hT rfl rfl) ?_
              refine AwSch.take (Yd.im hT rfl hlt1 rfl) ?_
              iterate 3 refine AwSch.take (Yd.val hT rfl rfl) ?_
              refine AwSch.take (Yd.build hT rfl) ?_
              refine AwSch.say (t := 45) (B := .agg [_, .v (.string ⟨#[]⟩), _]) rfl rfl ?_
              refine AwSch.one ?_
              refine Ed.cl (F183 _ (issG p) (hgs.2 _ (List.getElem_mem hlt1)) (okG_iss hp)) [] rfl ⟨⟨rfl, rfl⟩, ⟨rfl, rfl⟩, trivial⟩ trivial rfl rfl ?_   -- certpathref07.SameGeneral
              rintro _ _ rfl
              refine AwSch.take (Yd.val hT rfl rfl) ?_
              refine AwSch.nil ?_
              refine Aw.tst rfl (fun hb47 => ?_) (fun hb47 => ?_)
              · skip
                refine Aw.seq (Aw.region ?_)
                refine AwOps.v hT rfl ?_
                refine AwOps.nil ?_
                refine Aw.ret ?_
                refine ⟨_, [], rfl, trivial, ?_⟩
                exact congrArg (fun b => sc (.bool b)) (any_hit hlt1 (by rw [fits_ref]; simp only [show (((p.names.length : Nat) : Int) == 0) = true by simpa using hb34, show p.hasIssuer = true from hb38, show sameG gs[i1] (issG p) = true from hb47, Bool.and_true, Bool.or_true])).symm
              · skip
                refine Aw.skip (Aw.region ?_)
                iterate 3 refine AwOps.v hT rfl ?_
                refine AwOps.nil ?_
                refine ⟨(i1 + 1), ?nx1, ?mu1, Less.tn ⟨rfl, ⟨incS hlt1 hB1, rfl, rfl, trivial⟩, ⟨rfl, trivial⟩⟩⟩
                case nx1 =>
                  try dsimp only
                  exact ⟨hlt1, any_take hlt1 hi1.2 (fits_no hlt1 hin (by simp only [show (((p.names.length : Nat) : Int) == 0) = true by simpa using hb34, show p.hasIssuer = true from hb38, Bool.and_true, Bool.true_and, Bool.and_false, Bool.false_and] <;> first | exact hb47 | rfl))⟩
                case mu1 =>
                  try dsimp only
                  first | omega | (simp only [w64] at *; omega) | (simp [w64] at *; omega)
            · skip
              iterate 7 refine AwSch.take (Yd.val hT rfl rfl) ?_
              refine AwSch.one ?_
              refine Yd.ed (Yd.val hT rfl rfl) ?_
              refine AwSch.take (Yd.val hT rfl rfl) ?_
              refine AwSch.nil (Aw.condF rfl (Aw.skip (Aw.region ?_)))
              iterate 3 refine AwOps.v hT rfl ?_
              refine AwOps.nil ?_
              refine ⟨(i1 + 1), ?nx1, ?mu1, Less.tn ⟨rfl, ⟨incS hlt1 hB1, rfl, rfl, trivial⟩, ⟨rfl, trivial⟩⟩⟩
              case nx1 =>
                try dsimp only
                exact ⟨hlt1, any_take hlt1 hi1.2 (fits_no hlt1 hin (by simp only [show (((p.names.length : Nat) : Int) == 0) = true by simpa using hb34, show p.hasIssuer = false from hb38, Bool.and_true, Bool.true_and, Bool.and_false, Bool.false_and] <;> first | exact hb47 | rfl))⟩
              case mu1 =>
                try dsimp only
                first | omega | (simp only [w64] at *; omega) | (simp [w64] at *; omega)
          · skip
            iterate 11 refine AwSch.take (Yd.val hT rfl rfl) ?_
            refine AwSch.one ?_
            refine Yd.ed (Yd.val hT rfl rfl) ?_
            refine AwSch.take (Yd.val hT rfl rfl) ?_
            refine AwSch.nil (Aw.condF rfl (Aw.skip (Aw.region ?_)))
            iterate 3 refine AwOps.v hT rfl ?_
            refine AwOps.nil ?_
            refine ⟨(i1 + 1), ?nx1, ?mu1, Less.tn ⟨rfl, ⟨incS hlt1 hB1, rfl, rfl, trivial⟩, ⟨rfl, trivial⟩⟩⟩
            case nx1 =>
              try dsimp only
              exact ⟨hlt1, any_take hlt1 hi1.2 (fits_no hlt1 hin (by simp only [show (((p.names.length : Nat) : Int) == 0) = false by simpa using hb34, Bool.false_and]))⟩
            case mu1 =>
              try dsimp only
              first | omega | (simp only [w64] at *; omega) | (simp [w64] at *; omega)
    · skip
      refine Aw.exit (Aw.seq (Aw.region ?_))
      refine AwOps.v hT rfl ?_
      refine AwOps.nil ?_
      refine Aw.ret ?_
      refine ⟨_, [], rfl, trivial, ?_⟩
      exact congrArg (fun b => sc (.bool b)) (any_full hi1.2 (by simpa using hb10)).symm
-- f160 certpath/scope.Covers
theorem F160 (c : Cert) (p : Point) (l : CList) (hc : okNm c.issuer) (hp : okPt p) (hl : okCL l) : Fn Tryd.prog 12 [.pv (.agg (eCert c)), .pv (.agg (ePoint p)), .pv (.agg (eCL l))] [] (fun r _ => r = .tup [.one (.p (.v (.int .i64 (covS c p l).1))), .one (.p (.v (.int .i64 (covS c p l).2)))]) := by
  refine Fn.intro (rs := [.tmp 6, .tmp 7]) hT Tryd.func12 (by kernel_rfl) rfl rfl rfl rfl fun C => ?_
  refine Aw.seq (Aw.region ?_)
  iterate 3 refine AwOps.eff hT rfl ?_
  refine AwOps.v hT rfl ?_
  refine AwOps.v hT rfl ?_
  refine AwOps.nil (Aw.seq (Aw.region ?_))
  iterate 4 refine AwOps.v hT rfl ?_
  refine AwOps.cl (Match_ok _ _ hl.1.1 hc.1) [] rfl ⟨⟨rfl, rfl⟩, ⟨rfl, rfl⟩, trivial⟩ trivial rfl ?_   -- dname.Match
  rintro _ _ rfl
  refine AwOps.v hT rfl ?_
  refine AwOps.nil (Aw.seq (Aw.seq (Aw.region ?_)))
  iterate 3 refine AwOps.v hT rfl ?_
  refine AwOps.split (t := 18) rfl (fun hb18 => ?_) (fun hb18 => ?_)
  · skip
    iterate 4 refine AwOps.v hT rfl ?_
    refine AwOps.cl (Match_ok _ _ hl.1.1 hp.2.1) [] rfl ⟨⟨rfl, rfl⟩, ⟨rfl, rfl⟩, trivial⟩ trivial rfl ?_   -- dname.Match
    rintro _ _ rfl
    iterate 3 refine AwOps.v hT rfl ?_
    refine AwOps.split (t := 26) rfl (fun hb26 => ?_) (fun hb26 => ?_)
    · skip
      iterate 8 refine AwOps.v hT rfl ?_
      refine AwOps.nil (Aw.condT rfl (Aw.seq (Aw.region ?_)))
      refine AwOps.v hT rfl ?_
      refine AwOps.v hT rfl ?_
      refine AwOps.nil ?_
      refine Aw.ret ?_
      refine ⟨_, [], rfl, trivial, ?_⟩
      exact cov_of (by simp only [show (p.hasIssuer) = true from hb18, show (nmatch l.issuer p.issuer) = false by simpa using hb26, covS, covN, covM, if_true, if_false, Bool.false_eq_true, Bool.true_and, Bool.false_and, Bool.true_or, Bool.false_or, Bool.or_true, Bool.and_true, Bool.or_false, Bool.and_false, Bool.not_true, Bool.not_false] <;> first | done | rfl | (simp; done))
    · skip
      iterate 4 refine AwOps.v hT rfl ?_
      refine AwOps.turn (Less.say (t := 30) (B := sc (.bool false)) rfl (by rw [show (!p.hasIssuer) = false by simpa using hb18])) ?_
      iterate 4 refine AwOps.v hT rfl ?_
      refine AwOps.nil (Aw.condF rfl (Aw.skip (Aw.seq (Aw.seq (Aw.region ?_)))))
      iterate 3 refine AwOps.v hT rfl ?_
      refine AwOps.split (t := 37) rfl (fun hb37 => ?_) (fun hb37 => ?_)
      · skip
        iterate 3 refine AwOps.v hT rfl ?_
        refine AwOps.split (t := 40) rfl (fun hb40 => ?_) (fun hb40 => ?_)
        · skip
          iterate 6 refine AwOps.v hT rfl ?_
          refine AwOps.nil ?_
          refine Aw.tst rfl (fun hb46 => ?_) (fun hb46 => ?_)
          · skip
            refine Aw.seq (Aw.region ?_)
            refine AwOps.v hT rfl ?_
            refine AwOps.v hT rfl ?_
            refine AwOps.nil ?_
            refine Aw.ret ?_
            refine ⟨_, [], rfl, trivial, ?_⟩
            exact cov_of (by simp only [show (p.hasIssuer) = true from hb18, show (nmatch l.issuer p.issuer) = true by simpa using hb26, show (nmatch l.issuer c.issuer) = false by simpa using hb37, show (l.hasScope) = true from hb40, show (l.scope.indirect) = false by simpa using hb46, covS, covN, covM, if_true, if_false, Bool.false_eq_true, Bool.true_and, Bool.false_and, Bool.true_or, Bool.false_or, Bool.or_true, Bool.and_true, Bool.or_false, Bool.and_false, Bool.not_true, Bool.not_false] <;> first | done | rfl | (simp; done))
          · skip
            refine Aw.skip (Aw.seq (Aw.region ?_))
            refine AwOps.v hT rfl ?_
            refine AwOps.v hT rfl ?_
            refine AwOps.cl (F169 _) [] rfl ⟨⟨rfl, rfl⟩, trivial⟩ trivial rfl ?_   -- scope.all
            rintro _ _ rfl
            refine AwOps.v hT rfl ?_
            refine AwOps.nil (Aw.seq (Aw.seq (Aw.region ?_)))
            refine AwOps.v hT rfl ?_
            refine AwOps.v hT rfl ?_
            refine AwOps.turn (Less.say (t := 51) (B := sc (.bool true)) rfl (by rw [show (l.hasScope) = true by simpa using hb40])) ?_
            refine AwOps.nil (Aw.condT rfl (Aw.seq (Aw.region ?_)))
            refine AwOps.v hT rfl ?_
            refine AwOps.v hT rfl ?_
            refine AwOps.eff hT rfl ?_
            refine AwOps.eff hT rfl ?_
            refine AwOps.nil (Aw.seq (Aw.seq (Aw.region ?_)))
            iterate 5 refine AwOps.v hT rfl ?_
            refine AwOps.split (t := 58) rfl (fun hb58 => ?_) (fun hb58 => ?_)
            · skip
              replace hb58 : decide ((l.scope.names.length : Int) > 0) = true := by simpa using hb58
              refine AwOps.v hT rfl ?_
              refine AwOps.v hT rfl ?_
              refine AwOps.mkf rfl ?_
              refine AwOps.cl (F170c 28 53 (ePoint p) (fun g => fitsB g p) l.scope.names (fun g hg => F171 p g (hl.2.2 g hg) hp)) [4] rfl ⟨⟨rfl, rfl⟩, ⟨_, rfl, ⟨⟨rfl, rfl⟩, trivial⟩⟩, trivial⟩ ⟨rfl, trivial⟩ rfl ?_   -- api.GeneralName]
              rintro _ _ ⟨rfl, rfl⟩
              refine AwOps.v hT rfl ?_
              refine AwOps.v hT rfl ?_
              refine AwOps.nil ?_
              refine Aw.tst rfl (fun hb64 => ?_) (fun hb64 => ?_)
              · skip
                refine Aw.seq (Aw.region ?_)
                refine AwOps.v hT rfl ?_
                refine AwOps.v hT rfl ?_
                refine AwOps.nil ?_
                refine Aw.ret ?_
                refine ⟨_, [], rfl, trivial, ?_⟩
                exact cov_of (by simp only [show (p.hasIssuer) = true from hb18, show (nmatch l.issuer p.issuer) = true by simpa using hb26, show (nmatch l.issuer c.issuer) = false by simpa using hb37, show (l.hasScope) = true from hb40, show (l.scope.indirect) = true by simpa using hb46, show (decide ((l.scope.names.length : Int) > 0)) = true from hb58, show (l.scope.names.any fun g => fitsB g p) = false by simpa using hb64, covS, covN, covM, if_true, if_false, Bool.false_eq_true, Bool.true_and, Bool.false_and, Bool.true_or, Bool.false_or, Bool.or_true, Bool.and_true, Bool.or_false, Bool.and_false, Bool.not_true, Bool.not_false] <;> first | done | rfl | (simp; done))
              · skip
                refine Aw.skip (Aw.seq (Aw.seq (Aw.region ?_)))
                iterate 3 refine AwOps.v hT rfl ?_
                refine AwOps.split (t := 67) rfl (fun hb67 => ?_) (fun hb67 => ?_)
                · skip
                  iterate 5 refine AwOps.v hT rfl ?_
                  refine AwOps.split (t := 72) rfl (fun hb72 => ?_) (fun hb72 => ?_)
                  · skip
                    iterate 9 refine AwOps.v hT rfl ?_
                    refine AwOps.nil (Aw.condT rfl (Aw.seq (Aw.region ?_)))
                    refine AwOps.v hT rfl ?_
                    refine AwOps.v hT rfl ?_
                    refine AwOps.nil ?_
                    refine Aw.ret ?_
                    refine ⟨_, [], rfl, trivial, ?_⟩
                    exact cov_of (by simp only [show (p.hasIssuer) = true from hb18, show (nmatch l.issuer p.issuer) = true by simpa using hb26, show (nmatch l.issuer c.issuer) = false by simpa using hb37, show (l.hasScope) = true from hb40, show (l.scope.indirect) = true by simpa using hb46, show (decide ((l.scope.names.length : Int) > 0)) = true from hb58, show (l.scope.names.any fun g => fitsB g p) = true by simpa using hb64, show (l.scope.onlyUser) = true from hb67, show (c.info.ca) = true from hb72, covS, covN, covM, if_true, if_false, Bool.false_eq_true, Bool.true_and, Bool.false_and, Bool.true_or, Bool.false_or, Bool.or_true, Bool.and_true, Bool.or_false, Bool.and_false, Bool.not_true, Bool.not_false] <;> first | done | rfl | (simp; done))
                  · skip
                    iterate 3 refine AwOps.v hT rfl ?_
                    refine AwOps.split (t := 75) rfl (fun hb75 => ?_) (fun hb75 => ?_)
                    · skip
                      iterate 4 refine AwOps.v hT rfl ?_
                      refine AwOps.turn (Less.say (t := 79) (B := sc (.bool true)) rfl (by rw [show (!c.info.ca) = true by simpa using hb72])) ?_
                      refine AwOps.v hT rfl ?_
                      refine AwOps.v hT rfl ?_
                      refine AwOps.nil (Aw.condT rfl (Aw.seq (Aw.region ?_)))
                      refine AwOps.v hT rfl ?_
                      refine AwOps.v hT rfl ?_
                      refine AwOps.nil ?_
                      refine Aw.ret ?_
                      refine ⟨_, [], rfl, trivial, ?_⟩
                      exact cov_of (by simp only [show (p.hasIssuer) = true from hb18, show (nmatch l.issuer p.issuer) = true by simpa using hb26, show (nmatch l.issuer c.issuer) = false by simpa using hb37, show (l.hasScope) = true from hb40, show (l.scope.indirect) = true by simpa using hb46, show (decide ((l.scope.names.length : Int) > 0)) = true from hb58, show (l.scope.names.any fun g => fitsB g p) = true by simpa using hb64, show (l.scope.onlyUser) = true from hb67, show (c.info.ca) = false from hb72, show (l.scope.onlyCA) = true from hb75, covS, covN, covM, if_true, if_false, Bool.false_eq_true, Bool.true_and, Bool.false_and, Bool.true_or, Bool.false_or, Bool.or_true, Bool.and_true, Bool.or_false, Bool.and_false, Bool.not_true, Bool.not_false] <;> first | done | rfl | (simp; done))
                    · skip
                      iterate 6 refine AwOps.v hT rfl ?_
                      refine AwOps.nil (Aw.condF rfl (Aw.skip (Aw.region ?_)))
                      iterate 3 refine AwOps.v hT rfl ?_
                      refine AwOps.cl (F169 _) [] rfl ⟨⟨rfl, rfl⟩, trivial⟩ trivial rfl ?_   -- scope.all
                      rintro _ _ rfl
                      refine AwOps.bin rfl _ rfl band_run ?_
                      refine AwOps.v hT rfl ?_
                      refine AwOps.nil (Aw.seq (Aw.seq (Aw.region ?_)))
                      refine AwOps.v hT rfl ?_
                      refine AwOps.v hT rfl ?_
                      refine AwOps.nil ?_
                      refine Aw.tst rfl (fun hb88 => ?_) (fun hb88 => ?_)
                      · skip
                        refine Aw.seq (Aw.region ?_)
                        refine AwOps.v hT rfl ?_
                        refine AwOps.v hT rfl ?_
                        refine AwOps.nil ?_
                        refine Aw.ret ?_
                        refine ⟨_, [], rfl, trivial, ?_⟩
                        exact cov_of (by simp only [show (p.hasIssuer) = true from hb18, show (nmatch l.issuer p.issuer) = true by simpa using hb26, show (nmatch l.issuer c.issuer) = false by simpa using hb37, show (l.hasScope) = true from hb40, show (l.scope.indirect) = true by simpa using hb46, show (decide ((l.scope.names.length : Int) > 0)) = true from hb58, show (l.scope.names.any fun g => fitsB g p) = true by simpa using hb64, show (l.scope.onlyUser) = true from hb67, show (c.info.ca) = false from hb72, show (l.scope.onlyCA) = false from hb75, show (band (allR p.reasons) (allR l.scope.reasons) == 0) = true from hb88, covS, covN, covM, if_true, if_false, Bool.false_eq_true, Bool.true_and, Bool.false_and, Bool.true_or, Bool.false_or, Bool.or_true, Bool.and_true, Bool.or_false, Bool.and_false, Bool.not_true, Bool.not_false] <;> first | done | rfl | (simp; done))
                      · skip
                        refine Aw.skip (Aw.seq (Aw.region ?_))
                        iterate 3 refine AwOps.v hT rfl ?_
                        refine AwOps.nil ?_
                        refine Aw.ret ?_
                        refine ⟨_, [], rfl, trivial, ?_⟩
                        exact cov_of (by simp only [show (p.hasIssuer) = true from hb18, show (nmatch l.issuer p.issuer) = true by simpa using hb26, show (nmatch l.issuer c.issuer) = false by simpa using hb37, show (l.hasScope) = true from hb40, show (l.scope.indirect) = true by simpa using hb46, show (decide ((l.scope.names.length : Int) > 0)) = true from hb58, show (l.scope.names.any fun g => fitsB g p) = true by simpa using hb64, show (l.scope.onlyUser) = true from hb67, show (c.info.ca) = false from hb72, show (l.scope.onlyCA) = false from hb75, show (band (allR p.reasons) (allR l.scope.reasons) == 0) = false from hb88, covS, covN, covM, if_true, if_false, Bool.false_eq_true, Bool.true_and, Bool.false_and, Bool.true_or, Bool.false_or, Bool.or_true, Bool.and_true, Bool.or_false, Bool.and_false, Bool.not_true, Bool.not_false] <;> first | done | rfl | (simp; done))
                · skip
                  iterate 8 refine AwOps.v hT rfl ?_
                  refine AwOps.split (t := 75) rfl (fun hb75 => ?_) (fun hb75 => ?_)
                  · skip
                    iterate 6 refine AwOps.v hT rfl ?_
                    refine AwOps.nil ?_
                    refine Aw.tst rfl (fun hb81 => ?_) (fun hb81 => ?_)
                    · skip
                      refine Aw.seq (Aw.region ?_)
                      refine AwOps.v hT rfl ?_
                      refine AwOps.v hT rfl ?_
                      refine AwOps.nil ?_
                      refine Aw.ret ?_
                      refine ⟨_, [], rfl, trivial, ?_⟩
                      exact cov_of (by simp only [show (p.hasIssuer) = true from hb18, show (nmatch l.issuer p.issuer) = true by simpa using hb26, show (nmatch l.issuer c.issuer) = false by simpa using hb37, show (l.hasScope) = true from hb40, show (l.scope.indirect) = true by simpa using hb46, show (decide ((l.scope.names.length : Int) > 0)) = true from hb58, show (l.scope.names.any fun g => fitsB g p) = true by simpa using hb64, show (l.scope.onlyUser) = false from hb67, show (l.scope.onlyCA) = true from hb75, show (c.info.ca) = false by simpa using hb81, covS, covN, covM, if_true, if_false, Bool.false_eq_true, Bool.true_and, Bool.false_and, Bool.true_or, Bool.false_or, Bool.or_true, Bool.and_true, Bool.or_false, Bool.and_false, Bool.not_true, Bool.not_false] <;> first | done | rfl | (simp; done))
                    · skip
                      refine Aw.skip (Aw.region ?_)
                      iterate 3 refine AwOps.v hT rfl ?_
                      refine AwOps.cl (F169 _) [] rfl ⟨⟨rfl, rfl⟩, trivial⟩ trivial rfl ?_   -- scope.all
                      rintro _ _ rfl
                      refine AwOps.bin rfl _ rfl band_run ?_
                      refine AwOps.v hT rfl ?_
                      refine AwOps.nil (Aw.seq (Aw.seq (Aw.region ?_)))
                      refine AwOps.v hT rfl ?_
                      refine AwOps.v hT rfl ?_
                      refine AwOps.nil ?_
                      refine Aw.tst rfl (fun hb88 => ?_) (fun hb88 => ?_)
                      · skip
                        refine Aw.seq (Aw.region ?_)
                        refine AwOps.v hT rfl ?_
                        refine AwOps.v hT rfl ?_
                        refine AwOps.nil ?_
                        refine Aw.ret ?_
                        refine ⟨_, [], rfl, trivial, ?_⟩
                        exact cov_of (by simp only [show (p.hasIssuer) = true from hb18, show (nmatch l.issuer p.issuer) = true by simpa using hb26, show (nmatch l.issuer c.issuer) = false by simpa using hb37, show (l.hasScope) = true from hb40, show (l.scope.indirect) = true by simpa using hb46, show (decide ((l.scope.names.length : Int) > 0)) = true from hb58, show (l.scope.names.any fun g => fitsB g p) = true by simpa using hb64, show (l.scope.onlyUser) = false from hb67, show (l.scope.onlyCA) = true from hb75, show (c.info.ca) = true by simpa using hb81, show (band (allR p.reasons) (allR l.scope.reasons) == 0) = true from hb88, covS, covN, covM, if_true, if_false, Bool.false_eq_true, Bool.true_and, Bool.false_and, Bool.true_or, Bool.false_or, Bool.or_true, Bool.and_true, Bool.or_false, Bool.and_false, Bool.not_true, Bool.not_false] <;> first | done | rfl | (simp; done))
                      · skip
                        refine Aw.skip (Aw.seq (Aw.region ?_))
                        iterate 3 refine AwOps.v hT rfl ?_
                        refine AwOps.nil ?_
                        refine Aw.ret ?_
                        refine ⟨_, [], rfl, trivial, ?_⟩
                        exact cov_of (by simp only [show (p.hasIssuer) = true from hb18, show (nmatch l.issuer p.issuer) = true by simpa using hb26, show (nmatch l.issuer c.issuer) = false by simpa using hb37, show (l.hasScope) = true from hb40, show (l.scope.indirect) = true by simpa using hb46, show (decide ((l.scope.names.length : Int) > 0)) = true from hb58, show (l.scope.names.any fun g => fitsB g p) = true by simpa using hb64, show (l.scope.onlyUser) = false from hb67, show (l.scope.onlyCA) = true from hb75, show (c.info.ca) = true by simpa using hb81, show (band (allR p.reasons) (allR l.scope.reasons) == 0) = false from hb88, covS, covN, covM, if_true, if_false, Bool.false_eq_true, Bool.true_and, Bool.false_and, Bool.true_or, Bool.false_or, Bool.or_true, Bool.and_true, Bool.or_false, Bool.and_false, Bool.not_true, Bool.not_false] <;> first | done | rfl | (simp; done))
                  · skip
                    iterate 6 refine AwOps.v hT rfl ?_
                    refine AwOps.nil (Aw.condF rfl (Aw.skip (Aw.region ?_)))
                    iterate 3 refine AwOps.v hT rfl ?_
                    refine AwOps.cl (F169 _) [] rfl ⟨⟨rfl, rfl⟩, trivial⟩ trivial rfl ?_   -- scope.all
                    rintro _ _ rfl
                    refine AwOps.bin rfl _ rfl band_run ?_
                    refine AwOps.v hT rfl ?_
                    refine AwOps.nil (Aw.seq (Aw.seq (Aw.region ?_)))
                    refine AwOps.v hT rfl ?_
                    refine AwOps.v hT rfl ?_
                    refine AwOps.nil ?_
                    refine Aw.tst rfl (fun hb88 => ?_) (fun hb88 => ?_)
                    · skip
                      refine Aw.seq (Aw.region ?_)
                      refine AwOps.v hT rfl ?_
                      refine AwOps.v hT rfl ?_
                      refine AwOps.nil ?_
                      refine Aw.ret ?_
                      refine ⟨_, [], rfl, trivial, ?_⟩
                      exact cov_of (by simp only [show (p.hasIssuer) = true from hb18, show (nmatch l.issuer p.issuer) = true by simpa using hb26, show (nmatch l.issuer c.issuer) = false by simpa using hb37, show (l.hasScope) = true from hb40, show (l.scope.indirect) = true by simpa using hb46, show (decide ((l.scope.names.length : Int) > 0)) = true from hb58, show (l.scope.names.any fun g => fitsB g p) = true by simpa using hb64, show (l.scope.onlyUser) = false from hb67, show (l.scope.onlyCA) = false from hb75, show (band (allR p.reasons) (allR l.scope.reasons) == 0) = true from hb88, covS, covN, covM, if_true, if_false, Bool.false_eq_true, Bool.true_and, Bool.false_and, Bool.true_or, Bool.false_or, Bool.or_true, Bool.and_true, Bool.or_false, Bool.and_false, Bool.not_true, Bool.not_false] <;> first | done | rfl | (simp; done))
                    · skip
                      refine Aw.skip (Aw.seq (Aw.region ?_))
                      iterate 3 refine AwOps.v hT rfl ?_
                      refine AwOps.nil ?_
                      refine Aw.ret ?_
                      refine ⟨_, [], rfl, trivial, ?_⟩
                      exact cov_of (by simp only [show (p.hasIssuer) = true from hb18, show (nmatch l.issuer p.issuer) = true by simpa using hb26, show (nmatch l.issuer c.issuer) = false by simpa using hb37, show (l.hasScope) = true from hb40, show (l.scope.indirect) = true by simpa using hb46, show (decide ((l.scope.names.length : Int) > 0)) = true from hb58, show (l.scope.names.any fun g => fitsB g p) = true by simpa using hb64, show (l.scope.onlyUser) = false from hb67, show (l.scope.onlyCA) = false from hb75, show (band (allR p.reasons) (allR l.scope.reasons) == 0) = false from hb88, covS, covN, covM, if_true, if_false, Bool.false_eq_true, Bool.true_and, Bool.false_and, Bool.true_or, Bool.false_or, Bool.or_true, Bool.and_true, Bool.or_false, Bool.and_false, Bool.not_true, Bool.not_false] <;> first | done | rfl | (simp; done))
            · skip
              replace hb58 : decide ((l.scope.names.length : Int) > 0) = false := by simpa using hb58
              iterate 6 refine AwOps.v hT rfl ?_
              refine AwOps.nil (Aw.condF rfl (Aw.skip (Aw.seq (Aw.seq (Aw.region ?_)))))
              iterate 3 refine AwOps.v hT rfl ?_
              refine AwOps.split (t := 67) rfl (fun hb67 => ?_) (fun hb67 => ?_)
              · skip
                iterate 5 refine AwOps.v hT rfl ?_
                refine AwOps.split (t := 72) rfl (fun hb72 => ?_) (fun hb72 => ?_)
                · skip
                  iterate 9 refine AwOps.v hT rfl ?_
                  refine AwOps.nil (Aw.condT rfl (Aw.seq (Aw.region ?_)))
                  refine AwOps.v hT rfl ?_
                  refine AwOps.v hT rfl ?_
                  refine AwOps.nil ?_
                  refine Aw.ret ?_
                  refine ⟨_, [], rfl, trivial, ?_⟩
                  exact cov_of (by simp only [show (p.hasIssuer) = true from hb18, show (nmatch l.issuer p.issuer) = true by simpa using hb26, show (nmatch l.issuer c.issuer) = false by simpa using hb37, show (l.hasScope) = true from hb40, show (l.scope.indirect) = true by simpa using hb46, show (decide ((l.scope.names.length : Int) > 0)) = false from hb58, show (l.scope.onlyUser) = true from hb67, show (c.info.ca) = true from hb72, covS, covN, covM, if_true, if_false, Bool.false_eq_true, Bool.true_and, Bool.false_and, Bool.true_or, Bool.false_or, Bool.or_true, Bool.and_true, Bool.or_false, Bool.and_false, Bool.not_true, Bool.not_false] <;> first | done | rfl | (simp; done))
                · skip
                  iterate 3 refine AwOps.v hT rfl ?_
                  refine AwOps.split (t := 75) rfl (fun hb75 => ?_) (fun hb75 => ?_)
                  · skip
                    iterate 4 refine AwOps.v hT rfl ?_
                    refine AwOps.turn (Less.say (t := 79) (B := sc (.bool true)) rfl (by rw [show (!c.info.ca) = true by simpa using hb72])) ?_
                    refine AwOps.v hT rfl ?_
                    refine AwOps.v hT rfl ?_
                    refine AwOps.nil (Aw.condT rfl (Aw.seq (Aw.region ?_)))
                    refine AwOps.v hT rfl ?_
                    refine AwOps.v hT rfl ?_
                    refine AwOps.nil ?_
                    refine Aw.ret ?_
                    refine ⟨_, [], rfl, trivial, ?_⟩
                    exact cov_of (by simp only [show (p.hasIssuer) = true from hb18, show (nmatch l.issuer p.issuer) = true by simpa using hb26, show (nmatch l.issuer c.issuer) = false by simpa using hb37, show (l.hasScope) = true from hb40, show (l.scope.indirect) = true by simpa using hb46, show (decide ((l.scope.names.length : Int) > 0)) = false from hb58, show (l.scope.onlyUser) = true from hb67, show (c.info.ca) = false from hb72, show (l.scope.onlyCA) = true from hb75, covS, covN, covM, if_true, if_false, Bool.false_eq_true, Bool.true_and, Bool.false_and, Bool.true_or, Bool.false_or, Bool.or_true, Bool.and_true, Bool.or_false, Bool.and_false, Bool.not_true, Bool.not_false] <;> first | done | rfl | (simp; done))
                  · skip
                    iterate 6 refine AwOps.v hT rfl ?_
                    refine AwOps.nil (Aw.condF rfl (Aw.skip (Aw.region ?_)))
                    iterate 3 refine AwOps.v hT rfl ?_
                    refine AwOps.cl (F169 _) [] rfl ⟨⟨rfl, rfl⟩, trivial⟩ trivial rfl ?_   -- scope.all
                    rintro _ _ rfl
                    refine AwOps.bin rfl _ rfl band_run ?_
                    refine AwOps.v hT rfl ?_
                    refine AwOps.nil (Aw.seq (Aw.seq (Aw.region ?_)))
                    refine AwOps.v hT rfl ?_
                    refine AwOps.v hT rfl ?_
                    refine AwOps.nil ?_
                    refine Aw.tst rfl (fun hb88 => ?_) (fun hb88 => ?_)
                    · skip
                      refine Aw.seq (Aw.region ?_)
                      refine AwOps.v hT rfl ?_
                      refine AwOps.v hT rfl ?_
                      refine AwOps.nil ?_
                      refine Aw.ret ?_
                      refine ⟨_, [], rfl, trivial, ?_⟩
                      exact cov_of (by simp only [show (p.hasIssuer) = true from hb18, show (nmatch l.issuer p.issuer) = true by simpa using hb26, show (nmatch l.issuer c.issuer) = false by simpa using hb37, show (l.hasScope) = true from hb40, show (l.scope.indirect) = true by simpa using hb46, show (decide ((l.scope.names.length : Int) > 0)) = false from hb58, show (l.scope.onlyUser) = true from hb67, show (c.info.ca) = false from hb72, show (l.scope.onlyCA) = false from hb75, show (band (allR p.reasons) (allR l.scope.reasons) == 0) = true from hb88, covS, covN, covM, if_true, if_false, Bool.false_eq_true, Bool.true_and, Bool.false_and, Bool.true_or, Bool.false_or, Bool.or_true, Bool.and_true, Bool.or_false, Bool.and_false, Bool.not_true, Bool.not_false] <;> first | done | rfl | (simp; done))
                    · skip
                      refine Aw.skip (Aw.seq (Aw.region ?_))
                      iterate 3 refine AwOps.v hT rfl ?_
                      refine AwOps.nil ?_
                      refine Aw.ret ?_
                      refine ⟨_, [], rfl, trivial, ?_⟩
                      exact cov_of (by simp only [show (p.hasIssuer) = true from hb18, show (nmatch l.issuer p.issuer) = true by simpa using hb26, show (nmatch l.issuer c.issuer) = false by simpa using hb37, show (l.hasScope) = true from hb40, show (l.scope.indirect) = true by simpa using hb46, show (decide ((l.scope.names.length : Int) > 0)) = false from hb58, show (l.scope.onlyUser) = true from hb67, show (c.info.ca) = false from hb72, show (l.scope.onlyCA) = false from hb75, show (band (allR p.reasons) (allR l.scope.reasons) == 0) = false from hb88, covS, covN, covM, if_true, if_false, Bool.false_eq_true, Bool.true_and, Bool.false_and, Bool.true_or, Bool.false_or, Bool.or_true, Bool.and_true, Bool.or_false, Bool.and_false, Bool.not_true, Bool.not_false] <;> first | done | rfl | (simp; done))
              · skip
                iterate 8 refine AwOps.v hT rfl ?_
                refine AwOps.split (t := 75) rfl (fun hb75 => ?_) (fun hb75 => ?_)
                · skip
                  iterate 6 refine AwOps.v hT rfl ?_
                  refine AwOps.nil ?_
                  refine Aw.tst rfl (fun hb81 => ?_) (fun hb81 => ?_)
                  · skip
                    refine Aw.seq (Aw.region ?_)
                    refine AwOps.v hT rfl ?_
                    refine AwOps.v hT rfl ?_
                    refine AwOps.nil ?_
                    refine Aw.ret ?_
                    refine ⟨_, [], rfl, trivial, ?_⟩
                    exact cov_of (by simp only [show (p.hasIssuer) = true from hb18, show (nmatch l.issuer p.issuer) = true by simpa using hb26, show (nmatch l.issuer c.issuer) = false by simpa using hb37, show (l.hasScope) = true from hb40, show (l.scope.indirect) = true by simpa using hb46, show (decide ((l.scope.names.length : Int) > 0)) = false from hb58, show (l.scope.onlyUser) = false from hb67, show (l.scope.onlyCA) = true from hb75, show (c.info.ca) = false by simpa using hb81, covS, covN, covM, if_true, if_false, Bool.false_eq_true, Bool.true_and, Bool.false_and, Bool.true_or, Bool.false_or, Bool.or_true, Bool.and_true, Bool.or_false, Bool.and_false, Bool.not_true, Bool.not_false] <;> first | done | rfl | (simp; done))
                  · skip
                    refine Aw.skip (Aw.region ?_)
                    iterate 3 refine AwOps.v hT rfl ?_
                    refine AwOps.cl (F169 _) [] rfl ⟨⟨rfl, rfl⟩, trivial⟩ trivial rfl ?_   -- scope.all
                    rintro _ _ rfl
                    refine AwOps.bin rfl _ rfl band_run ?_
                    refine AwOps.v hT rfl ?_
                    refine AwOps.nil (Aw.seq (Aw.seq (Aw.region ?_)))
                    refine AwOps.v hT rfl ?_
                    refine AwOps.v hT rfl ?_
                    refine AwOps.nil ?_
                    refine Aw.tst rfl (fun hb88 => ?_) (fun hb88 => ?_)
                    · skip
                      refine Aw.seq (Aw.region ?_)
                      refine AwOps.v hT rfl ?_
                      refine AwOps.v hT rfl ?_
                      refine AwOps.nil ?_
                      refine Aw.ret ?_
                      refine ⟨_, [], rfl, trivial, ?_⟩
                      exact cov_of (by simp only [show (p.hasIssuer) = true from hb18, show (nmatch l.issuer p.issuer) = true by simpa using hb26, show (nmatch l.issuer c.issuer) = false by simpa using hb37, show (l.hasScope) = true from hb40, show (l.scope.indirect) = true by simpa using hb46, show (decide ((l.scope.names.length : Int) > 0)) = false from hb58, show (l.scope.onlyUser) = false from hb67, show (l.scope.onlyCA) = true from hb75, show (c.info.ca) = true by simpa using hb81, show (band (allR p.reasons) (allR l.scope.reasons) == 0) = true from hb88, covS, covN, covM, if_true, if_false, Bool.false_eq_true, Bool.true_and, Bool.false_and, Bool.true_or, Bool.false_or, Bool.or_true, Bool.and_true, Bool.or_false, Bool.and_false, Bool.not_true, Bool.not_false] <;> first | done | rfl | (simp; done))
                    · skip
                      refine Aw.skip (Aw.seq (Aw.region ?_))
                      iterate 3 refine AwOps.v hT rfl ?_
                      refine AwOps.nil ?_
                      refine Aw.ret ?_
                      refine ⟨_, [], rfl, trivial, ?_⟩
                      exact cov_of (by simp only [show (p.hasIssuer) = true from hb18, show (nmatch l.issuer p.issuer) = true by simpa using hb26, show (nmatch l.issuer c.issuer) = false by simpa using hb37, show (l.hasScope) = true from hb40, show (l.scope.indirect) = true by simpa using hb46, show (decide ((l.scope.names.length : Int) > 0)) = false from hb58, show (l.scope.onlyUser) = false from hb67, show (l.scope.onlyCA) = true from hb75, show (c.info.ca) = true by simpa using hb81, show (band (allR p.reasons) (allR l.scope.reasons) == 0) = false from hb88, covS, covN, covM, if_true, if_false, Bool.false_eq_true, Bool.true_and, Bool.false_and, Bool.true_or, Bool.false_or, Bool.or_true, Bool.and_true, Bool.or_false, Bool.and_false, Bool.not_true, Bool.not_false] <;> first | done | rfl | (simp; done))
                · skip
                  iterate 6 refine AwOps.v hT rfl ?_
                  refine AwOps.nil (Aw.condF rfl (Aw.skip (Aw.region ?_)))
                  iterate 3 refine AwOps.v hT rfl ?_
                  refine AwOps.cl (F169 _) [] rfl ⟨⟨rfl, rfl⟩, trivial⟩ trivial rfl ?_   -- scope.all
                  rintro _ _ rfl
                  refine AwOps.bin rfl _ rfl band_run ?_
                  refine AwOps.v hT rfl ?_
                  refine AwOps.nil (Aw.seq (Aw.seq (Aw.region ?_)))
                  refine AwOps.v hT rfl ?_
                  refine AwOps.v hT rfl ?_
                  refine AwOps.nil ?_
                  refine Aw.tst rfl (fun hb88 => ?_) (fun hb88 => ?_)
                  · skip
                    refine Aw.seq (Aw.region ?_)
                    refine AwOps.v hT rfl ?_
                    refine AwOps.v hT rfl ?_
                    refine AwOps.nil ?_
                    refine Aw.ret ?_
                    refine ⟨_, [], rfl, trivial, ?_⟩
                    exact cov_of (by simp only [show (p.hasIssuer) = true from hb18, show (nmatch l.issuer p.issuer) = true by simpa using hb26, show (nmatch l.issuer c.issuer) = false by simpa using hb37, show (l.hasScope) = true from hb40, show (l.scope.indirect) = true by simpa using hb46, show (decide ((l.scope.names.length : Int) > 0)) = false from hb58, show (l.scope.onlyUser) = false from hb67, show (l.scope.onlyCA) = false from hb75, show (band (allR p.reasons) (allR l.scope.reasons) == 0) = true from hb88, covS, covN, covM, if_true, if_false, Bool.false_eq_true, Bool.true_and, Bool.false_and, Bool.true_or, Bool.false_or, Bool.or_true, Bool.and_true, Bool.or_false, Bool.and_false, Bool.not_true, Bool.not_false] <;> first | done | rfl | (simp; done))
                  · skip
                    refine Aw.skip (Aw.seq (Aw.region ?_))
                    iterate 3 refine AwOps.v hT rfl ?_
                    refine AwOps.nil ?_
                    refine Aw.ret ?_
                    refine ⟨_, [], rfl, trivial, ?_⟩
                    exact cov_of (by simp only [show (p.hasIssuer) = true from hb18, show (nmatch l.issuer p.issuer) = true by simpa using hb26, show (nmatch l.issuer c.issuer) = false by simpa using hb37, show (l.hasScope) = true from hb40, show (l.scope.indirect) = true by simpa using hb46, show (decide ((l.scope.names.length : Int) > 0)) = false from hb58, show (l.scope.onlyUser) = false from hb67, show (l.scope.onlyCA) = false from hb75, show (band (allR p.reasons) (allR l.scope.reasons) == 0) = false from hb88, covS, covN, covM, if_true, if_false, Bool.false_eq_true, Bool.true_and, Bool.false_and, Bool.true_or, Bool.false_or, Bool.or_true, Bool.and_true, Bool.or_false, Bool.and_false, Bool.not_true, Bool.not_false] <;> first | done | rfl | (simp; done))
        · skip
          iterate 6 refine AwOps.v hT rfl ?_
          refine AwOps.nil (Aw.condT rfl (Aw.seq (Aw.region ?_)))
          refine AwOps.v hT rfl ?_
          refine AwOps.v hT rfl ?_
          refine AwOps.nil ?_
          refine Aw.ret ?_
          refine ⟨_, [], rfl, trivial, ?_⟩
          exact cov_of (by simp only [show (p.hasIssuer) = true from hb18, show (nmatch l.issuer p.issuer) = true by simpa using hb26, show (nmatch l.issuer c.issuer) = false by simpa using hb37, show (l.hasScope) = false from hb40, covS, covN, covM, if_true, if_false, Bool.false_eq_true, Bool.true_and, Bool.false_and, Bool.true_or, Bool.false_or, Bool.or_true, Bool.and_true, Bool.or_false, Bool.and_false, Bool.not_true, Bool.not_false] <;> first | done | rfl | (simp; done))
      · skip
        iterate 9 refine AwOps.v hT rfl ?_
        refine AwOps.nil (Aw.condF rfl (Aw.skip (Aw.seq (Aw.region ?_))))
        refine AwOps.v hT rfl ?_
        refine AwOps.v hT rfl ?_
        refine AwOps.cl (F169 _) [] rfl ⟨⟨rfl, rfl⟩, trivial⟩ trivial rfl ?_   -- scope.all
        rintro _ _ rfl
        refine AwOps.v hT rfl ?_
        refine AwOps.nil (Aw.seq (Aw.seq (Aw.region ?_)))
        refine AwOps.v hT rfl ?_
        refine AwOps.v hT rfl ?_
        refine AwOps.nil ?_
        refine Aw.tst rfl (fun hb51 => ?_) (fun hb51 => ?_)
        · skip
          refine Aw.seq (Aw.region ?_)
          refine AwOps.v hT rfl ?_
          refine AwOps.v hT rfl ?_
          refine AwOps.eff hT rfl ?_
          refine AwOps.eff hT rfl ?_
          refine AwOps.nil (Aw.seq (Aw.seq (Aw.region ?_)))
          iterate 5 refine AwOps.v hT rfl ?_
          refine AwOps.split (t := 58) rfl (fun hb58 => ?_) (fun hb58 => ?_)
          · skip
            replace hb58 : decide ((l.scope.names.length : Int) > 0) = true := by simpa using hb58
            refine AwOps.v hT rfl ?_
            refine AwOps.v hT rfl ?_
            refine AwOps.mkf rfl ?_
            refine AwOps.cl (F170c 28 53 (ePoint p) (fun g => fitsB g p) l.scope.names (fun g hg => F171 p g (hl.2.2 g hg) hp)) [4] rfl ⟨⟨rfl, rfl⟩, ⟨_, rfl, ⟨⟨rfl, rfl⟩, trivial⟩⟩, trivial⟩ ⟨rfl, trivial⟩ rfl ?_   -- api.GeneralName]
            rintro _ _ ⟨rfl, rfl⟩
            refine AwOps.v hT rfl ?_
            refine AwOps.v hT rfl ?_
            refine AwOps.nil ?_
            refine Aw.tst rfl (fun hb64 => ?_) (fun hb64 => ?_)
            · skip
              refine Aw.seq (Aw.region ?_)
              refine AwOps.v hT rfl ?_
              refine AwOps.v hT rfl ?_
              refine AwOps.nil ?_
              refine Aw.ret ?_
              refine ⟨_, [], rfl, trivial, ?_⟩
              exact cov_of (by simp only [show (p.hasIssuer) = true from hb18, show (nmatch l.issuer p.issuer) = true by simpa using hb26, show (nmatch l.issuer c.issuer) = true by simpa using hb37, show (l.hasScope) = true from hb51, show (decide ((l.scope.names.length : Int) > 0)) = true from hb58, show (l.scope.names.any fun g => fitsB g p) = false by simpa using hb64, covS, covN, covM, if_true, if_false, Bool.false_eq_true, Bool.true_and, Bool.false_and, Bool.true_or, Bool.false_or, Bool.or_true, Bool.and_true, Bool.or_false, Bool.and_false, Bool.not_true, Bool.not_false] <;> first | done | rfl | (simp; done))
            · skip
              refine Aw.skip (Aw.seq (Aw.seq (Aw.region ?_)))
              iterate 3 refine AwOps.v hT rfl ?_
              refine AwOps.split (t := 67) rfl (fun hb67 => ?_) (fun hb67 => ?_)
              · skip
                iterate 5 refine AwOps.v hT rfl ?_
                refine AwOps.split (t := 72) rfl (fun hb72 => ?_) (fun hb72 => ?_)
                · skip
                  iterate 9 refine AwOps.v hT rfl ?_
                  refine AwOps.nil (Aw.condT rfl (Aw.seq (Aw.region ?_)))
                  refine AwOps.v hT rfl ?_
                  refine AwOps.v hT rfl ?_
                  refine AwOps.nil ?_
                  refine Aw.ret ?_
                  refine ⟨_, [], rfl, trivial, ?_⟩
                  exact cov_of (by simp only [show (p.hasIssuer) = true from hb18, show (nmatch l.issuer p.issuer) = true by simpa using hb26, show (nmatch l.issuer c.issuer) = true by simpa using hb37, show (l.hasScope) = true from hb51, show (decide ((l.scope.names.length : Int) > 0)) = true from hb58, show (l.scope.names.any fun g => fitsB g p) = true by simpa using hb64, show (l.scope.onlyUser) = true from hb67, show (c.info.ca) = true from hb72, covS, covN, covM, if_true, if_false, Bool.false_eq_true, Bool.true_and, Bool.false_and, Bool.true_or, Bool.false_or, Bool.or_true, Bool.and_true, Bool.or_false, Bool.and_false, Bool.not_true, Bool.not_false] <;> first | done | rfl | (simp; done))
                · skip
                  iterate 3 refine AwOps.v hT rfl ?_
                  refine AwOps.split (t := 75) rfl (fun hb75 => ?_) (fun hb75 => ?_)
                  · skip
                    iterate 4 refine AwOps.v hT rfl ?_
                    refine AwOps.turn (Less.say (t := 79) (B := sc (.bool true)) rfl (by rw [show (!c.info.ca) = true by simpa using hb72])) ?_
                    refine AwOps.v hT rfl ?_
                    refine AwOps.v hT rfl ?_
                    refine AwOps.nil (Aw.condT rfl (Aw.seq (Aw.region ?_)))
                    refine AwOps.v hT rfl ?_
                    refine AwOps.v hT rfl ?_
                    refine AwOps.nil ?_
                    refine Aw.ret ?_
                    refine ⟨_, [], rfl, trivial, ?_⟩
                    exact cov_of (by simp only [show (p.hasIssuer) = true from hb18, show (nmatch l.issuer p.issuer) = true by simpa using hb26, show (nmatch l.issuer c.issuer) = true by simpa using hb37, show (l.hasScope) = true from hb51, show (decide ((l.scope.names.length : Int) > 0)) = true from hb58, show (l.scope.names.any fun g => fitsB g p) = true by simpa using hb64, show (l.scope.onlyUser) = true from hb67, show (c.info.ca) = false from hb72, show (l.scope.onlyCA) = true from hb75, covS, covN, covM, if_true, if_false, Bool.false_eq_true, Bool.true_and, Bool.false_and, Bool.true_or, Bool.false_or, Bool.or_true, Bool.and_true, Bool.or_false, Bool.and_false, Bool.not_true, Bool.not_false] <;> first | done | rfl | (simp; done))
                  · skip
                    iterate 6 refine AwOps.v hT rfl ?_
                    refine AwOps.nil (Aw.condF rfl (Aw.skip (Aw.region ?_)))
                    iterate 3 refine AwOps.v hT rfl ?_
                    refine AwOps.cl (F169 _) [] rfl ⟨⟨rfl, rfl⟩, trivial⟩ trivial rfl ?_   -- scope.all
                    rintro _ _ rfl
                    refine AwOps.bin rfl _ rfl band_run ?_
                    refine AwOps.v hT rfl ?_
                    refine AwOps.nil (Aw.seq (Aw.seq (Aw.region ?_)))
                    refine AwOps.v hT rfl ?_
                    refine AwOps.v hT rfl ?_
                    refine AwOps.nil ?_
                    refine Aw.tst rfl (fun hb88 => ?_) (fun hb88 => ?_)
                    · skip
                      refine Aw.seq (Aw.region ?_)
                      refine AwOps.v hT rfl ?_
                      refine AwOps.v hT rfl ?_
                      refine AwOps.nil ?_
                      refine Aw.ret ?_
                      refine ⟨_, [], rfl, trivial, ?_⟩
                      exact cov_of (by simp only [show (p.hasIssuer) = true from hb18, show (nmatch l.issuer p.issuer) = true by simpa using hb26, show (nmatch l.issuer c.issuer) = true by simpa using hb37, show (l.hasScope) = true from hb51, show (decide ((l.scope.names.length : Int) > 0)) = true from hb58, show (l.scope.names.any fun g => fitsB g p) = true by simpa using hb64, show (l.scope.onlyUser) = true from hb67, show (c.info.ca) = false from hb72, show (l.scope.onlyCA) = false from hb75, show (band (allR p.reasons) (allR l.scope.reasons) == 0) = true from hb88, covS, covN, covM, if_true, if_false, Bool.false_eq_true, Bool.true_and, Bool.false_and, Bool.true_or, Bool.false_or, Bool.or_true, Bool.and_true, Bool.or_false, Bool.and_false, Bool.not_true, Bool.not_false] <;> first | done | rfl | (simp; done))
                    · skip
                      refine Aw.skip (Aw.seq (Aw.region ?_))
                      iterate 3 refine AwOps.v hT rfl ?_
                      refine AwOps.nil ?_
                      refine Aw.ret ?_
                      refine ⟨_, [], rfl, trivial, ?_⟩
                      exact cov_of (by simp only [show (p.hasIssuer) = true from hb18, show (nmatch l.issuer p.issuer) = true by simpa using hb26, show (nmatch l.issuer c.issuer) = true by simpa using hb37, show (l.hasScope) = true from hb51, show (decide ((l.scope.names.length : Int) > 0)) = true from hb58, show (l.scope.names.any fun g => fitsB g p) = true by simpa using hb64, show (l.scope.onlyUser) = true from hb67, show (c.info.ca) = false from hb72, show (l.scope.onlyCA) = false from hb75, show (band (allR p.reasons) (allR l.scope.reasons) == 0) = false from hb88, covS, covN, covM, if_true, if_false, Bool.false_eq_true, Bool.true_and, Bool.false_and, Bool.true_or, Bool.false_or, Bool.or_true, Bool.and_true, Bool.or_false, Bool.and_false, Bool.not_true, Bool.not_false] <;> first | done | rfl | (simp; done))
              · skip
                iterate 8 refine AwOps.v hT rfl ?_
                refine AwOps.split (t := 75) rfl (fun hb75 => ?_) (fun hb75 => ?_)
                · skip
                  iterate 6 refine AwOps.v hT rfl ?_
                  refine AwOps.nil ?_
                  refine Aw.tst rfl (fun hb81 => ?_) (fun hb81 => ?_)
                  · skip
                    refine Aw.seq (Aw.region ?_)
                    refine AwOps.v hT rfl ?_
                    refine AwOps.v hT rfl ?_
                    refine AwOps.nil ?_
                    refine Aw.ret ?_
                    refine ⟨_, [], rfl, trivial, ?_⟩
                    exact cov_of (by simp only [show (p.hasIssuer) = true from hb18, show (nmatch l.issuer p.issuer) = true by simpa using hb26, show (nmatch l.issuer c.issuer) = true by simpa using hb37, show (l.hasScope) = true from hb51, show (decide ((l.scope.names.length : Int) > 0)) = true from hb58, show (l.scope.names.any fun g => fitsB g p) = true by simpa using hb64, show (l.scope.onlyUser) = false from hb67, show (l.scope.onlyCA) = true from hb75, show (c.info.ca) = false by simpa using hb81, covS, covN, covM, if_true, if_false, Bool.false_eq_true, Bool.true_and, Bool.false_and, Bool.true_or, Bool.false_or, Bool.or_true, Bool.and_true, Bool.or_false, Bool.and_false, Bool.not_true, Bool.not_false] <;> first | done | rfl | (simp; done))
                  · skip
                    refine Aw.skip (Aw.region ?_)
                    iterate 3 refine AwOps.v hT rfl ?_
                    refine AwOps.cl (F169 _) [] rfl ⟨⟨rfl, rfl⟩, trivial⟩ trivial rfl ?_   -- scope.all
                    rintro _ _ rfl
                    refine AwOps.bin rfl _ rfl band_run ?_
                    refine AwOps.v hT rfl ?_
                    refine AwOps.nil (Aw.seq (Aw.seq (Aw.region ?_)))
                    refine AwOps.v hT rfl ?_
                    refine AwOps.v hT rfl ?_
                    refine AwOps.nil ?_
                    refine Aw.tst rfl (fun hb88 => ?_) (fun hb88 => ?_)
                    · skip
                      refine Aw.seq (Aw.region ?_)
                      refine AwOps.v hT rfl ?_
                      refine AwOps.v hT rfl ?_
                      refine AwOps.nil ?_
                      refine Aw.ret ?_
                      refine ⟨_, [], rfl, trivial, ?_⟩
                      exact cov_of (by simp only [show (p.hasIssuer) = true from hb18, show (nmatch l.issuer p.issuer) = true by simpa using hb26, show (nmatch l.issuer c.issuer) = true by simpa using hb37, show (l.hasScope) = true from hb51, show (decide ((l.scope.names.length : Int) > 0)) = true from hb58, show (l.scope.names.any fun g => fitsB g p) = true by simpa using hb64, show (l.scope.onlyUser) = false from hb67, show (l.scope.onlyCA) = true from hb75, show (c.info.ca) = true by simpa using hb81, show (band (allR p.reasons) (allR l.scope.reasons) == 0) = true from hb88, covS, covN, covM, if_true, if_false, Bool.false_eq_true, Bool.true_and, Bool.false_and, Bool.true_or, Bool.false_or, Bool.or_true, Bool.and_true, Bool.or_false, Bool.and_false, Bool.not_true, Bool.not_false] <;> first | done | rfl | (simp; done))
                    · skip
                      refine Aw.skip (Aw.seq (Aw.region ?_))
                      iterate 3 refine AwOps.v hT rfl ?_
                      refine AwOps.nil ?_
                      refine Aw.ret ?_
                      refine ⟨_, [], rfl, trivial, ?_⟩
                      exact cov_of (by simp only [show (p.hasIssuer) = true from hb18, show (nmatch l.issuer p.issuer) = true by simpa using hb26, show (nmatch l.issuer c.issuer) = true by simpa using hb37, show (l.hasScope) = true from hb51, show (decide ((l.scope.names.length : Int) > 0)) = true from hb58, show (l.scope.names.any fun g => fitsB g p) = true by simpa using hb64, show (l.scope.onlyUser) = false from hb67, show (l.scope.onlyCA) = true from hb75, show (c.info.ca) = true by simpa using hb81, show (band (allR p.reasons) (allR l.scope.reasons) == 0) = false from hb88, covS, covN, covM, if_true, if_false, Bool.false_eq_true, Bool.true_and, Bool.false_and, Bool.true_or, Bool.false_or, Bool.or_true, Bool.and_true, Bool.or_false, Bool.and_false, Bool.not_true, Bool.not_false] <;> first | done | rfl | (simp; done))
                · skip
                  iterate 6 refine AwOps.v hT rfl ?_
                  refine AwOps.nil (Aw.condF rfl (Aw.skip (Aw.region ?_)))
                  iterate 3 refine AwOps.v hT rfl ?_
                  refine AwOps.cl (F169 _) [] rfl ⟨⟨rfl, rfl⟩, trivial⟩ trivial rfl ?_   -- scope.all
                  rintro _ _ rfl
                  refine AwOps.bin rfl _ rfl band_run ?_
                  refine AwOps.v hT rfl ?_
                  refine AwOps.nil (Aw.seq (Aw.seq (Aw.region ?_)))
                  refine AwOps.v hT rfl ?_
                  refine AwOps.v hT rfl ?_
                  refine AwOps.nil ?_
                  refine Aw.tst rfl (fun hb88 => ?_) (fun hb88 => ?_)
                  · skip
                    refine Aw.seq (Aw.region ?_)
                    refine AwOps.v hT rfl ?_
                    refine AwOps.v hT rfl ?_
                    refine AwOps.nil ?_
                    refine Aw.ret ?_
                    refine ⟨_, [], rfl, trivial, ?_⟩
                    exact cov_of (by simp only [show (p.hasIssuer) = true from hb18, show (nmatch l.issuer p.issuer) = true by simpa using hb26, show (nmatch l.issuer c.issuer) = true by simpa using hb37, show (l.hasScope) = true from hb51, show (decide ((l.scope.names.length : Int) > 0)) = true from hb58, show (l.scope.names.any fun g => fitsB g p) = true by simpa using hb64, show (l.scope.onlyUser) = false from hb67, show (l.scope.onlyCA) = false from hb75, show (band (allR p.reasons) (allR l.scope.reasons) == 0) = true from hb88, covS, covN, covM, if_true, if_false, Bool.false_eq_true, Bool.true_and, Bool.false_and, Bool.true_or, Bool.false_or, Bool.or_true, Bool.and_true, Bool.or_false, Bool.and_false, Bool.not_true, Bool.not_false] <;> first | done | rfl | (simp; done))
                  · skip
                    refine Aw.skip (Aw.seq (Aw.region ?_))
                    iterate 3 refine AwOps.v hT rfl ?_
                    refine AwOps.nil ?_
                    refine Aw.ret ?_
                    refine ⟨_, [], rfl, trivial, ?_⟩
                    exact cov_of (by simp only [show (p.hasIssuer) = true from hb18, show (nmatch l.issuer p.issuer) = true by simpa using hb26, show (nmatch l.issuer c.issuer) = true by simpa using hb37, show (l.hasScope) = true from hb51, show (decide ((l.scope.names.length : Int) > 0)) = true from hb58, show (l.scope.names.any fun g => fitsB g p) = true by simpa using hb64, show (l.scope.onlyUser) = false from hb67, show (l.scope.onlyCA) = false from hb75, show (band (allR p.reasons) (allR l.scope.reasons) == 0) = false from hb88, covS, covN, covM, if_true, if_false, Bool.false_eq_true, Bool.true_and, Bool.false_and, Bool.true_or, Bool.false_or, Bool.or_true, Bool.and_true, Bool.or_false, Bool.and_false, Bool.not_true, Bool.not_false] <;> first | done | rfl | (simp; done))
          · skip
            replace hb58 : decide ((l.scope.names.length : Int) > 0) = false := by simpa using hb58
            iterate 6 refine AwOps.v hT rfl ?_
            refine AwOps.nil (Aw.condF rfl (Aw.skip (Aw.seq (Aw.seq (Aw.region ?_)))))
            iterate 3 refine AwOps.v hT rfl ?_
            refine AwOps.split (t := 67) rfl (fun hb67 => ?_) (fun hb67 => ?_)
            · skip
              iterate 5 refine AwOps.v hT rfl ?_
              refine AwOps.split (t := 72) rfl (fun hb72 => ?_) (fun hb72 => ?_)
              · skip
                iterate 9 refine AwOps.v hT rfl ?_
                refine AwOps.nil (Aw.condT rfl (Aw.seq (Aw.region ?_)))
                refine AwOps.v hT rfl ?_
                refine AwOps.v hT rfl ?_
                refine AwOps.nil ?_
                refine Aw.ret ?_
                refine ⟨_, [], rfl, trivial, ?_⟩
                exact cov_of (by simp only [show (p.hasIssuer) = true from hb18, show (nmatch l.issuer p.issuer) = true by simpa using hb26, show (nmatch l.issuer c.issuer) = true by simpa using hb37, show (l.hasScope) = true from hb51, show (decide ((l.scope.names.length : Int) > 0)) = false from hb58, show (l.scope.onlyUser) = true from hb67, show (c.info.ca) = true from hb72, covS, covN, covM, if_true, if_false, Bool.false_eq_true, Bool.true_and, Bool.false_and, Bool.true_or, Bool.false_or, Bool.or_true, Bool.and_true, Bool.or_false, Bool.and_false, Bool.not_true, Bool.not_false] <;> first | done | rfl | (simp; done))
              · skip
                iterate 3 refine AwOps.v hT rfl ?_
                refine AwOps.split (t := 75) rfl (fun hb75 => ?_) (fun hb75 => ?_)
                · skip
                  iterate 4 refine AwOps.v hT rfl ?_
                  refine AwOps.turn (Less.say (t := 79) (B := sc (.bool true)) rfl (by rw [show (!c.info.ca) = true by simpa using hb72])) ?_
                  refine AwOps.v hT rfl ?_
                  refine AwOps.v hT rfl ?_
                  refine AwOps.nil (Aw.condT rfl (Aw.seq (Aw.region ?_)))
                  refine AwOps.v hT rfl ?_
                  refine AwOps.v hT rfl ?_
                  refine AwOps.nil ?_
                  refine Aw.ret ?_
                  refine ⟨_, [], rfl, trivial, ?_⟩
                  exact cov_of (by simp only [show (p.hasIssuer) = true from hb18, show (nmatch l.issuer p.issuer) = true by simpa using hb26, show (nmatch l.issuer c.issuer) = true by simpa using hb37, show (l.hasScope) = true from hb51, show (decide ((l.scope.names.length : Int) > 0)) = false from hb58, show (l.scope.onlyUser) = true from hb67, show (c.info.ca) = false from hb72, show (l.scope.onlyCA) = true from hb75, covS, covN, covM, if_true, if_false, Bool.false_eq_true, Bool.true_and, Bool.false_and, Bool.true_or, Bool.false_or, Bool.or_true, Bool.and_true, Bool.or_false, Bool.and_false, Bool.not_true, Bool.not_false] <;> first | done | rfl | (simp; done))
                · skip
                  iterate 6 refine AwOps.v hT rfl ?_
                  refine AwOps.nil (Aw.condF rfl (Aw.skip (Aw.region ?_)))
                  iterate 3 refine AwOps.v hT rfl ?_
                  refine AwOps.cl (F169 _) [] rfl ⟨⟨rfl, rfl⟩, trivial⟩ trivial rfl ?_   -- scope.all
                  rintro _ _ rfl
                  refine AwOps.bin rfl _ rfl band_run ?_
                  refine AwOps.v hT rfl ?_
                  refine AwOps.nil (Aw.seq (Aw.seq (Aw.region ?_)))
                  refine AwOps.v hT rfl ?_
                  refine AwOps.v hT rfl ?_
                  refine AwOps.nil ?_
                  refine Aw.tst rfl (fun hb88 => ?_) (fun hb88 => ?_)
                  · skip
                    refine Aw.seq (Aw.region ?_)
                    refine AwOps.v hT rfl ?_
                    refine AwOps.v hT rfl ?_
                    refine AwOps.nil ?_
                    refine Aw.ret ?_
                    refine ⟨_, [], rfl, trivial, ?_⟩
                    exact cov_of (by simp only [show (p.hasIssuer) = true from hb18, show (nmatch l.issuer p.issuer) = true by simpa using hb26, show (nmatch l.issuer c.issuer) = true by simpa using hb37, show (l.hasScope) = true from hb51, show (decide ((l.scope.names.length : Int) > 0)) = false from hb58, show (l.scope.onlyUser) = true from hb67, show (c.info.ca) = false from hb72, show (l.scope.onlyCA) = false from hb75, show (band (allR p.reasons) (allR l.scope.reasons) == 0) = true from hb88, covS, covN, covM, if_true, if_false, Bool.false_eq_true, Bool.true_and, Bool.false_and, Bool.true_or, Bool.false_or, Bool.or_true, Bool.and_true, Bool.or_false, Bool.and_false, Bool.not_true, Bool.not_false] <;> first | done | rfl | (simp; done))
                  · skip
                    refine Aw.skip (Aw.seq (Aw.region ?_))
                    iterate 3 refine AwOps.v hT rfl ?_
                    refine AwOps.nil ?_
                    refine Aw.ret ?_
                    refine ⟨_, [], rfl, trivial, ?_⟩
                    exact cov_of (by simp only [show (p.hasIssuer) = true from hb18, show (nmatch l.issuer p.issuer) = true by simpa using hb26, show (nmatch l.issuer c.issuer) = true by simpa using hb37, show (l.hasScope) = true from hb51, show (decide ((l.scope.names.length : Int) > 0)) = false from hb58, show (l.scope.onlyUser) = true from hb67, show (c.info.ca) = false from hb72, show (l.scope.onlyCA) = false from hb75, show (band (allR p.reasons) (allR l.scope.reasons) == 0) = false from hb88, covS, covN, covM, if_true, if_false, Bool.false_eq_true, Bool.true_and, Bool.false_and, Bool.true_or, Bool.false_or, Bool.or_true, Bool.and_true, Bool.or_false, Bool.and_false, Bool.not_true, Bool.not_false] <;> first | done | rfl | (simp; done))
            · skip
              iterate 8 refine AwOps.v hT rfl ?_
              refine AwOps.split (t := 75) rfl (fun hb75 => ?_) (fun hb75 => ?_)
              · skip
                iterate 6 refine AwOps.v hT rfl ?_
                refine AwOps.nil ?_
                refine Aw.tst rfl (fun hb81 => ?_) (fun hb81 => ?_)
                · skip
                  refine Aw.seq (Aw.region ?_)
                  refine AwOps.v hT rfl ?_
                  refine AwOps.v hT rfl ?_
                  refine AwOps.nil ?_
                  refine Aw.ret ?_
                  refine ⟨_, [], rfl, trivial, ?_⟩
                  exact cov_of (by simp only [show (p.hasIssuer) = true from hb18, show (nmatch l.issuer p.issuer) = true by simpa using hb26, show (nmatch l.issuer c.issuer) = true by simpa using hb37, show (l.hasScope) = true from hb51, show (decide ((l.scope.names.length : Int) > 0)) = false from hb58, show (l.scope.onlyUser) = false from hb67, show (l.scope.onlyCA) = true from hb75, show (c.info.ca) = false by simpa using hb81, covS, covN, covM, if_true, if_false, Bool.false_eq_true, Bool.true_and, Bool.false_and, Bool.true_or, Bool.false_or, Bool.or_true, Bool.and_true, Bool.or_false, Bool.and_false, Bool.not_true, Bool.not_false] <;> first | done | rfl | (simp; done))
                · skip
                  refine Aw.skip (Aw.region ?_)
                  iterate 3 refine AwOps.v hT rfl ?_
                  refine AwOps.cl (F169 _) [] rfl ⟨⟨rfl, rfl⟩, trivial⟩ trivial rfl ?_   -- scope.all
                  rintro _ _ rfl
                  refine AwOps.bin rfl _ rfl band_run ?_
                  refine AwOps.v hT rfl ?_
                  refine AwOps.nil (Aw.seq (Aw.seq (Aw.region ?_)))
                  refine AwOps.v hT rfl ?_
                  refine AwOps.v hT rfl ?_
                  refine AwOps.nil ?_
                  refine Aw.tst rfl (fun hb88 => ?_) (fun hb88 => ?_)
                  · skip
                    refine Aw.seq (Aw.region ?_)
                    refine AwOps.v hT rfl ?_
                    refine AwOps.v hT rfl ?_
                    refine AwOps.nil ?_
                    refine Aw.ret ?_
                    refine ⟨_, [], rfl, trivial, ?_⟩
                    exact cov_of (by simp only [show (p.hasIssuer) = true from hb18, show (nmatch l.issuer p.issuer) = true by simpa using hb26, show (nmatch l.issuer c.issuer) = true by simpa using hb37, show (l.hasScope) = true from hb51, show (decide ((l.scope.names.length : Int) > 0)) = false from hb58, show (l.scope.onlyUser) = false from hb67, show (l.scope.onlyCA) = true from hb75, show (c.info.ca) = true by simpa using hb81, show (band (allR p.reasons) (allR l.scope.reasons) == 0) = true from hb88, covS, covN, covM, if_true, if_false, Bool.false_eq_true, Bool.true_and, Bool.false_and, Bool.true_or, Bool.false_or, Bool.or_true, Bool.and_true, Bool.or_false, Bool.and_false, Bool.not_true, Bool.not_false] <;> first | done | rfl | (simp; done))
                  · skip
                    refine Aw.skip (Aw.seq (Aw.region ?_))
                    iterate 3 refine AwOps.v hT rfl ?_
                    refine AwOps.nil ?_
                    refine Aw.ret ?_
                    refine ⟨_, [], rfl, trivial, ?_⟩
                    exact cov_of (by simp only [show (p.hasIssuer) = true from hb18, show (nmatch l.issuer p.issuer) = true by simpa using hb26, show (nmatch l.issuer c.issuer) = true by simpa using hb37, show (l.hasScope) = true from hb51, show (decide ((l.scope.names.length : Int) > 0)) = false from hb58, show (l.scope.onlyUser) = false from hb67, show (l.scope.onlyCA) = true from hb75, show (c.info.ca) = true by simpa using hb81, show (band (allR p.reasons) (allR l.scope.reasons) == 0) = false from hb88, covS, covN, covM, if_true, if_false, Bool.false_eq_true, Bool.true_and, Bool.false_and, Bool.true_or, Bool.false_or, Bool.or_true, Bool.and_true, Bool.or_false, Bool.and_false, Bool.not_true, Bool.not_false] <;> first | done | rfl | (simp; done))
              · skip
                iterate 6 refine AwOps.v hT rfl ?_
                refine AwOps.nil (Aw.condF rfl (Aw.skip (Aw.region ?_)))
                iterate 3 refine AwOps.v hT rfl ?_
                refine AwOps.cl (F169 _) [] rfl ⟨⟨rfl, rfl⟩, trivial⟩ trivial rfl ?_   -- scope.all
                rintro _ _ rfl
                refine AwOps.bin rfl _ rfl band_run ?_
                refine AwOps.v hT rfl ?_
                refine AwOps.nil (Aw.seq (Aw.seq (Aw.region ?_)))
                refine AwOps.v hT rfl ?_
                refine AwOps.v hT rfl ?_
                refine AwOps.nil ?_
                refine Aw.tst rfl (fun hb88 => ?_) (fun hb88 => ?_)
                · skip
                  refine Aw.seq (Aw.region ?_)
                  refine AwOps.v hT rfl ?_
                  refine AwOps.v hT rfl ?_
                  refine AwOps.nil ?_
                  refine Aw.ret ?_
                  refine ⟨_, [], rfl, trivial, ?_⟩
                  exact cov_of (by simp only [show (p.hasIssuer) = true from hb18, show (nmatch l.issuer p.issuer) = true by simpa using hb26, show (nmatch l.issuer c.issuer) = true by simpa using hb37, show (l.hasScope) = true from hb51, show (decide ((l.scope.names.length : Int) > 0)) = false from hb58, show (l.scope.onlyUser) = false from hb67, show (l.scope.onlyCA) = false from hb75, show (band (allR p.reasons) (allR l.scope.reasons) == 0) = true from hb88, covS, covN, covM, if_true, if_false, Bool.false_eq_true, Bool.true_and, Bool.false_and, Bool.true_or, Bool.false_or, Bool.or_true, Bool.and_true, Bool.or_false, Bool.and_false, Bool.not_true, Bool.not_false] <;> first | done | rfl | (simp; done))
                · skip
                  refine Aw.skip (Aw.seq (Aw.region ?_))
                  iterate 3 refine AwOps.v hT rfl ?_
                  refine AwOps.nil ?_
                  refine Aw.ret ?_
                  refine ⟨_, [], rfl, trivial, ?_⟩
                  exact cov_of (by simp only [show (p.hasIssuer) = true from hb18, show (nmatch l.issuer p.issuer) = true by simpa using hb26, show (nmatch l.issuer c.issuer) = true by simpa using hb37, show (l.hasScope) = true from hb51, show (decide ((l.scope.names.length : Int) > 0)) = false from hb58, show (l.scope.onlyUser) = false from hb67, show (l.scope.onlyCA) = false from hb75, show (band (allR p.reasons) (allR l.scope.reasons) == 0) = false from hb88, covS, covN, covM, if_true, if_false, Bool.false_eq_true, Bool.true_and, Bool.false_and, Bool.true_or, Bool.false_or, Bool.or_true, Bool.and_true, Bool.or_false, Bool.and_false, Bool.not_true, Bool.not_false] <;> first | done | rfl | (simp; done))
        · skip
          refine Aw.skip (Aw.seq (Aw.seq (Aw.region ?_)))
          refine AwOps.v hT rfl ?_
          refine AwOps.v hT rfl ?_
          refine AwOps.nil ?_
          refine Aw.tst rfl (fun hb88 => ?_) (fun hb88 => ?_)
          · skip
            refine Aw.seq (Aw.region ?_)
            refine AwOps.v hT rfl ?_
            refine AwOps.v hT rfl ?_
            refine AwOps.nil ?_
            refine Aw.ret ?_
            refine ⟨_, [], rfl, trivial, ?_⟩
            exact cov_of (by simp only [show (p.hasIssuer) = true from hb18, show (nmatch l.issuer p.issuer) = true by simpa using hb26, show (nmatch l.issuer c.issuer) = true by simpa using hb37, show (l.hasScope) = false from hb51, show (allR p.reasons == 0) = true from hb88, covS, covN, covM, if_true, if_false, Bool.false_eq_true, Bool.true_and, Bool.false_and, Bool.true_or, Bool.false_or, Bool.or_true, Bool.and_true, Bool.or_false, Bool.and_false, Bool.not_true, Bool.not_false] <;> first | done | rfl | (simp; done))
          · skip
            refine Aw.skip (Aw.seq (Aw.region ?_))
            iterate 3 refine AwOps.v hT rfl ?_
            refine AwOps.nil ?_
            refine Aw.ret ?_
            refine ⟨_, [], rfl, trivial, ?_⟩
            exact cov_of (by simp only [show (p.hasIssuer) = true from hb18, show (nmatch l.issuer p.issuer) = true by simpa using hb26, show (nmatch l.issuer c.issuer) = true by simpa using hb37, show (l.hasScope) = false from hb51, show (allR p.reasons == 0) = false from hb88, covS, covN, covM, if_true, if_false, Bool.false_eq_true, Bool.true_and, Bool.false_and, Bool.true_or, Bool.false_or, Bool.or_true, Bool.and_true, Bool.or_false, Bool.and_false, Bool.not_true, Bool.not_false] <;> first | done | rfl | (simp; done))
  · skip
    iterate 12 refine AwOps.v hT rfl ?_
    refine AwOps.turn (Less.say (t := 30) (B := sc (.bool true)) rfl (by rw [show (!p.hasIssuer) = true by simpa using hb18])) ?_
    iterate 4 refine AwOps.v hT rfl ?_
    refine AwOps.nil ?_
    refine Aw.tst rfl (fun hb34 => ?_) (fun hb34 => ?_)
    · skip
      refine Aw.seq (Aw.region ?_)
      refine AwOps.v hT rfl ?_
      refine AwOps.v hT rfl ?_
      refine AwOps.nil ?_
      refine Aw.ret ?_
      refine ⟨_, [], rfl, trivial, ?_⟩
      exact cov_of (by simp only [show (p.hasIssuer) = false from hb18, show (nmatch l.issuer c.issuer) = false by simpa using hb34, covS, covN, covM, if_true, if_false, Bool.false_eq_true, Bool.true_and, Bool.false_and, Bool.true_or, Bool.false_or, Bool.or_true, Bool.and_true, Bool.or_false, Bool.and_false, Bool.not_true, Bool.not_false] <;> first | done | rfl | (simp; done))
    · skip
      refine Aw.skip (Aw.seq (Aw.seq (Aw.region ?_)))
      iterate 3 refine AwOps.v hT rfl ?_
      refine AwOps.turn (Less.say (t := 37) (B := sc (.bool false)) rfl (by rw [show (!nmatch l.issuer c.issuer) = false by simpa using hb34])) ?_
      iterate 9 refine AwOps.v hT rfl ?_
      refine AwOps.nil (Aw.condF rfl (Aw.skip (Aw.seq (Aw.region ?_))))
      refine AwOps.v hT rfl ?_
      refine AwOps.v hT rfl ?_
      refine AwOps.cl (F169 _) [] rfl ⟨⟨rfl, rfl⟩, trivial⟩ trivial rfl ?_   -- scope.all
      rintro _ _ rfl
      refine AwOps.v hT rfl ?_
      refine AwOps.nil (Aw.seq (Aw.seq (Aw.region ?_)))
      refine AwOps.v hT rfl ?_
      refine AwOps.v hT rfl ?_
      refine AwOps.nil ?_
      refine Aw.tst rfl (fun hb51 => ?_) (fun hb51 => ?_)
      · skip
        refine Aw.seq (Aw.region ?_)
        refine AwOps.v hT rfl ?_
        refine AwOps.v hT rfl ?_
        refine AwOps.eff hT rfl ?_
        refine AwOps.eff hT rfl ?_
        refine AwOps.nil (Aw.seq (Aw.seq (Aw.region ?_)))
        iterate 5 refine AwOps.v hT rfl ?_
        refine AwOps.split (t := 58) rfl (fun hb58 => ?_) (fun hb58 => ?_)
        · skip
          replace hb58 : decide ((l.scope.names.length : Int) > 0) = true := by simpa using hb58
          refine AwOps.v hT rfl ?_
          refine AwOps.v hT rfl ?_
          refine AwOps.mkf rfl ?_
          refine AwOps.cl (F170c 28 53 (ePoint p) (fun g => fitsB g p) l.scope.names (fun g hg => F171 p g (hl.2.2 g hg) hp)) [4] rfl ⟨⟨rfl, rfl⟩, ⟨_, rfl, ⟨⟨rfl, rfl⟩, trivial⟩⟩, trivial⟩ ⟨rfl, trivial⟩ rfl ?_   -- api.GeneralName]
          rintro _ _ ⟨rfl, rfl⟩
          refine AwOps.v hT rfl ?_
          refine AwOps.v hT rfl ?_
          refine AwOps.nil ?_
          refine Aw.tst rfl (fun hb64 => ?_) (fun hb64 => ?_)
          · skip
            refine Aw.seq (Aw.region ?_)
            refine AwOps.v hT rfl ?_
            refine AwOps.v hT rfl ?_
            refine AwOps.nil ?_
            refine Aw.ret ?_
            refine ⟨_, [], rfl, trivial, ?_⟩
            exact cov_of (by simp only [show (p.hasIssuer) = false from hb18, show (nmatch l.issuer c.issuer) = true by simpa using hb34, show (l.hasScope) = true from hb51, show (decide ((l.scope.names.length : Int) > 0)) = true from hb58, show (l.scope.names.any fun g => fitsB g p) = false by simpa using hb64, covS, covN, covM, if_true, if_false, Bool.false_eq_true, Bool.true_and, Bool.false_and, Bool.true_or, Bool.false_or, Bool.or_true, Bool.and_true, Bool.or_false, Bool.and_false, Bool.not_true, Bool.not_false] <;> first | done | rfl | (simp; done))
          · skip
            refine Aw.skip (Aw.seq (Aw.seq (Aw.region ?_)))
            iterate 3 refine AwOps.v hT rfl ?_
            refine AwOps.split (t := 67) rfl (fun hb67 => ?_) (fun hb67 => ?_)
            · skip
              iterate 5 refine AwOps.v hT rfl ?_
              refine AwOps.split (t := 72) rfl (fun hb72 => ?_) (fun hb72 => ?_)
              · skip
                iterate 9 refine AwOps.v hT rfl ?_
                refine AwOps.nil (Aw.condT rfl (Aw.seq (Aw.region ?_)))
                refine AwOps.v hT rfl ?_
                refine AwOps.v hT rfl ?_
                refine AwOps.nil ?_
                refine Aw.ret ?_
                refine ⟨_, [], rfl, trivial, ?_⟩
                exact cov_of (by simp only [show (p.hasIssuer) = false from hb18, show (nmatch l.issuer c.issuer) = true by simpa using hb34, show (l.hasScope) = true from hb51, show (decide ((l.scope.names.length : Int) > 0)) = true from hb58, show (l.scope.names.any fun g => fitsB g p) = true by simpa using hb64, show (l.scope.onlyUser) = true from hb67, show (c.info.ca) = true from hb72, covS, covN, covM, if_true, if_false, Bool.false_eq_true, Bool.true_and, Bool.false_and, Bool.true_or, Bool.false_or, Bool.or_true, Bool.and_true, Bool.or_false, Bool.and_false, Bool.not_true, Bool.not_false] <;> first | done | rfl | (simp; done))
              · skip
                iterate 3 refine AwOps.v hT rfl ?_
                refine AwOps.split (t := 75) rfl (fun hb75 => ?_) (fun hb75 => ?_)
                · skip
                  iterate 4 refine AwOps.v hT rfl ?_
                  refine AwOps.turn (Less.say (t := 79) (B := sc (.bool true)) rfl (by rw [show (!c.info.ca) = true by simpa using hb72])) ?_
                  refine AwOps.v hT rfl ?_
                  refine AwOps.v hT rfl ?_
                  refine AwOps.nil (Aw.condT rfl (Aw.seq (Aw.region ?_)))
                  refine AwOps.v hT rfl ?_
                  refine AwOps.v hT rfl ?_
                  refine AwOps.nil ?_
                  refine Aw.ret ?_
                  refine ⟨_, [], rfl, trivial, ?_⟩
                  exact cov_of (by simp only [show (p.hasIssuer) = false from hb18, show (nmatch l.issuer c.issuer) = true by simpa using hb34, show (l.hasScope) = true from hb51, show (decide ((l.scope.names.length : Int) > 0)) = true from hb58, show (l.scope.names.any fun g => fitsB g p) = true by simpa using hb64, show (l.scope.onlyUser) = true from hb67, show (c.info.ca) = false from hb72, show (l.scope.onlyCA) = true from hb75, covS, covN, covM, if_true, if_false, Bool.false_eq_true, Bool.true_and, Bool.false_and, Bool.true_or, Bool.false_or, Bool.or_true, Bool.and_true, Bool.or_false, Bool.and_false, Bool.not_true, Bool.not_false] <;> first | done | rfl | (simp; done))
                · skip
                  iterate 6 refine AwOps.v hT rfl ?_
                  refine AwOps.nil (Aw.condF rfl (Aw.skip (Aw.region ?_)))
                  iterate 3 refine AwOps.v hT rfl ?_
                  refine AwOps.cl (F169 _) [] rfl ⟨⟨rfl, rfl⟩, trivial⟩ trivial rfl ?_   -- scope.all
                  rintro _ _ rfl
                  refine AwOps.bin rfl _ rfl band_run ?_
                  refine AwOps.v hT rfl ?_
                  refine AwOps.nil (Aw.seq (Aw.seq (Aw.region ?_)))
                  refine AwOps.v hT rfl ?_
                  refine AwOps.v hT rfl ?_
                  refine AwOps.nil ?_
                  refine Aw.tst rfl (fun hb88 => ?_) (fun hb88 => ?_)
                  · skip
                    refine Aw.seq (Aw.region ?_)
                    refine AwOps.v hT rfl ?_
                    refine AwOps.v hT rfl ?_
                    refine AwOps.nil ?_
                    refine Aw.ret ?_
                    refine ⟨_, [], rfl, trivial, ?_⟩
                    exact cov_of (by simp only [show (p.hasIssuer) = false from hb18, show (nmatch l.issuer c.issuer) = true by simpa using hb34, show (l.hasScope) = true from hb51, show (decide ((l.scope.names.length : Int) > 0)) = true from hb58, show (l.scope.names.any fun g => fitsB g p) = true by simpa using hb64, show (l.scope.onlyUser) = true from hb67, show (c.info.ca) = false from hb72, show (l.scope.onlyCA) = false from hb75, show (band (allR p.reasons) (allR l.scope.reasons) == 0) = true from hb88, covS, covN, covM, if_true, if_false, Bool.false_eq_true, Bool.true_and, Bool.false_and, Bool.true_or, Bool.false_or, Bool.or_true, Bool.and_true, Bool.or_false, Bool.and_false, Bool.not_true, Bool.not_false] <;> first | done | rfl | (simp; done))
                  · skip
                    refine Aw.skip (Aw.seq (Aw.region ?_))
                    iterate 3 refine AwOps.v hT rfl ?_
                    refine AwOps.nil ?_
                    refine Aw.ret ?_
                    refine ⟨_, [], rfl, trivial, ?_⟩
                    exact cov_of (by simp only [show (p.hasIssuer) = false from hb18, show (nmatch l.issuer c.issuer) = true by simpa using hb34, show (l.hasScope) = true from hb51, show (decide ((l.scope.names.length : Int) > 0)) = true from hb58, show (l.scope.names.any fun g => fitsB g p) = true by simpa using hb64, show (l.scope.onlyUser) = true from hb67, show (c.info.ca) = false from hb72, show (l.scope.onlyCA) = false from hb75, show (band (allR p.reasons) (allR l.scope.reasons) == 0) = false from hb88, covS, covN, covM, if_true, if_false, Bool.false_eq_true, Bool.true_and, Bool.false_and, Bool.true_or, Bool.false_or, Bool.or_true, Bool.and_true, Bool.or_false, Bool.and_false, Bool.not_true, Bool.not_false] <;> first | done | rfl | (simp; done))
            · skip
              iterate 8 refine AwOps.v hT rfl ?_
              refine AwOps.split (t := 75) rfl (fun hb75 => ?_) (fun hb75 => ?_)
              · skip
                iterate 6 refine AwOps.v hT rfl ?_
                refine AwOps.nil ?_
                refine Aw.tst rfl (fun hb81 => ?_) (fun hb81 => ?_)
                · skip
                  refine Aw.seq (Aw.region ?_)
                  refine AwOps.v hT rfl ?_
                  refine AwOps.v hT rfl ?_
                  refine AwOps.nil ?_
                  refine Aw.ret ?_
                  refine ⟨_, [], rfl, trivial, ?_⟩
                  exact cov_of (by simp only [show (p.hasIssuer) = false from hb18, show (nmatch l.issuer c.issuer) = true by simpa using hb34, show (l.hasScope) = true from hb51, show (decide ((l.scope.names.length : Int) > 0)) = true from hb58, show (l.scope.names.any fun g => fitsB g p) = true by simpa using hb64, show (l.scope.onlyUser) = false from hb67, show (l.scope.onlyCA) = true from hb75, show (c.info.ca) = false by simpa using hb81, covS, covN, covM, if_true, if_false, Bool.false_eq_true, Bool.true_and, Bool.false_and, Bool.true_or, Bool.false_or, Bool.or_true, Bool.and_true, Bool.or_false, Bool.and_false, Bool.not_true, Bool.not_false] <;> first | done | rfl | (simp; done))
                · skip
                  refine Aw.skip (Aw.region ?_)
                  iterate 3 refine AwOps.v hT rfl ?_
                  refine AwOps.cl (F169 _) [] rfl ⟨⟨rfl, rfl⟩, trivial⟩ trivial rfl ?_   -- scope.all
                  rintro _ _ rfl
                  refine AwOps.bin rfl _ rfl band_run ?_
                  refine AwOps.v hT rfl ?_
                  refine AwOps.nil (Aw.seq (Aw.seq (Aw.region ?_)))
                  refine AwOps.v hT rfl ?_
                  refine AwOps.v hT rfl ?_
                  refine AwOps.nil ?_
                  refine Aw.tst rfl (fun hb88 => ?_) (fun hb88 => ?_)
                  · skip
                    refine Aw.seq (Aw.region ?_)
                    refine AwOps.v hT rfl ?_
                    refine AwOps.v hT rfl ?_
                    refine AwOps.nil ?_
                    refine Aw.ret ?_
                    refine ⟨_, [], rfl, trivial, ?_⟩
                    exact cov_of (by simp only [show (p.hasIssuer) = false from hb18, show (nmatch l.issuer c.issuer) = true by simpa using hb34, show (l.hasScope) = true from hb51, show (decide ((l.scope.names.length : Int) > 0)) = true from hb58, show (l.scope.names.any fun g => fitsB g p) = true by simpa using hb64, show (l.scope.onlyUser) = false from hb67, show (l.scope.onlyCA) = true from hb75, show (c.info.ca) = true by simpa using hb81, show (band (allR p.reasons) (allR l.scope.reasons) == 0) = true from hb88, covS, covN, covM, if_true, if_false, Bool.false_eq_true, Bool.true_and, Bool.false_and, Bool.true_or, Bool.false_or, Bool.or_true, Bool.and_true, Bool.or_false, Bool.and_false, Bool.not_true, Bool.not_false] <;> first | done | rfl | (simp; done))
                  · skip
                    refine Aw.skip (Aw.seq (Aw.region ?_))
                    iterate 3 refine AwOps.v hT rfl ?_
                    refine AwOps.nil ?_
                    refine Aw.ret ?_
                    refine ⟨_, [], rfl, trivial, ?_⟩
                    exact cov_of (by simp only [show (p.hasIssuer) = false from hb18, show (nmatch l.issuer c.issuer) = true by simpa using hb34, show (l.hasScope) = true from hb51, show (decide ((l.scope.names.length : Int) > 0)) = true from hb58, show (l.scope.names.any fun g => fitsB g p) = true by simpa using hb64, show (l.scope.onlyUser) = false from hb67, show (l.scope.onlyCA) = true from hb75, show (c.info.ca) = true by simpa using hb81, show (band (allR p.reasons) (allR l.scope.reasons) == 0) = false from hb88, covS, covN, covM, if_true, if_false, Bool.false_eq_true, Bool.true_and, Bool.false_and, Bool.true_or, Bool.false_or, Bool.or_true, Bool.and_true, Bool.or_false, Bool.and_false, Bool.not_true, Bool.not_false] <;> first | done | rfl | (simp; done))
              · skip
                iterate 6 refine AwOps.v hT rfl ?_
                refine AwOps.nil (Aw.condF rfl (Aw.skip (Aw.region ?_)))
                iterate 3 refine AwOps.v hT rfl ?_
                refine AwOps.cl (F169 _) [] rfl ⟨⟨rfl, rfl⟩, trivial⟩ trivial rfl ?_   -- scope.all
                rintro _ _ rfl
                refine AwOps.bin rfl _ rfl band_run ?_
                refine AwOps.v hT rfl ?_
                refine AwOps.nil (Aw.seq (Aw.seq (Aw.region ?_)))
                refine AwOps.v hT rfl ?_
                refine AwOps.v hT rfl ?_
                refine AwOps.nil ?_
                refine Aw.tst rfl (fun hb88 => ?_) (fun hb88 => ?_)
                · skip
                  refine Aw.seq (Aw.region ?_)
                  refine AwOps.v hT rfl ?_
                  refine AwOps.v hT rfl ?_
                  refine AwOps.nil ?_
                  refine Aw.ret ?_
                  refine ⟨_, [], rfl, trivial, ?_⟩
                  exact cov_of (by simp only [show (p.hasIssuer) = false from hb18, show (nmatch l.issuer c.issuer) = true by simpa using hb34, show (l.hasScope) = true from hb51, show (decide ((l.scope.names.length : Int) > 0)) = true from hb58, show (l.scope.names.any fun g => fitsB g p) = true by simpa using hb64, show (l.scope.onlyUser) = false from hb67, show (l.scope.onlyCA) = false from hb75, show (band (allR p.reasons) (allR l.scope.reasons) == 0) = true from hb88, covS, covN, covM, if_true, if_false, Bool.false_eq_true, Bool.true_and, Bool.false_and, Bool.true_or, Bool.false_or, Bool.or_true, Bool.and_true, Bool.or_false, Bool.and_false, Bool.not_true, Bool.not_false] <;> first | done | rfl | (simp; done))
                · skip
                  refine Aw.skip (Aw.seq (Aw.region ?_))
                  iterate 3 refine AwOps.v hT rfl ?_
                  refine AwOps.nil ?_
                  refine Aw.ret ?_
                  refine ⟨_, [], rfl, trivial, ?_⟩
                  exact cov_of (by simp only [show (p.hasIssuer) = false from hb18, show (nmatch l.issuer c.issuer) = true by simpa using hb34, show (l.hasScope) = true from hb51, show (decide ((l.scope.names.length : Int) > 0)) = true from hb58, show (l.scope.names.any fun g => fitsB g p) = true by simpa using hb64, show (l.scope.onlyUser) = false from hb67, show (l.scope.onlyCA) = false from hb75, show (band (allR p.reasons) (allR l.scope.reasons) == 0) = false from hb88, covS, covN, covM, if_true, if_false, Bool.false_eq_true, Bool.true_and, Bool.false_and, Bool.true_or, Bool.false_or, Bool.or_true, Bool.and_true, Bool.or_false, Bool.and_false, Bool.not_true, Bool.not_false] <;> first | done | rfl | (simp; done))
        · skip
          replace hb58 : decide ((l.scope.names.length : Int) > 0) = false := by simpa using hb58
          iterate 6 refine AwOps.v hT rfl ?_
          refine AwOps.nil (Aw.condF rfl (Aw.skip (Aw.seq (Aw.seq (Aw.region ?_)))))
          iterate 3 refine AwOps.v hT rfl ?_
          refine AwOps.split (t := 67) rfl (fun hb67 => ?_) (fun hb67 => ?_)
          · skip
            iterate 5 refine AwOps.v hT rfl ?_
            refine AwOps.split (t := 72) rfl (fun hb72 => ?_) (fun hb72 => ?_)
            · skip
              iterate 9 refine AwOps.v hT rfl ?_
              refine AwOps.nil (Aw.condT rfl (Aw.seq (Aw.region ?_)))
              refine AwOps.v hT rfl ?_
              refine AwOps.v hT rfl ?_
              refine AwOps.nil ?_
              refine Aw.ret ?_
              refine ⟨_, [], rfl, trivial, ?_⟩
              exact cov_of (by simp only [show (p.hasIssuer) = false from hb18, show (nmatch l.issuer c.issuer) = true by simpa using hb34, show (l.hasScope) = true from hb51, show (decide ((l.scope.names.length : Int) > 0)) = false from hb58, show (l.scope.onlyUser) = true from hb67, show (c.info.ca) = true from hb72, covS, covN, covM, if_true, if_false, Bool.false_eq_true, Bool.true_and, Bool.false_and, Bool.true_or, Bool.false_or, Bool.or_true, Bool.and_true, Bool.or_false, Bool.and_false, Bool.not_true, Bool.not_false] <;> first | done | rfl | (simp; done))
            · skip
              iterate 3 refine AwOps.v hT rfl ?_
              refine AwOps.split (t := 75) rfl (fun hb75 => ?_) (fun hb75 => ?_)
              · skip
                iterate 4 refine AwOps.v hT rfl ?_
                refine AwOps.turn (Less.say (t := 79) (B := sc (.bool true)) rfl (by rw [show (!c.info.ca) = true by simpa using hb72])) ?_
                refine AwOps.v hT rfl ?_
                refine AwOps.v hT rfl ?_
                refine AwOps.nil (Aw.condT rfl (Aw.seq (Aw.region ?_)))
                refine AwOps.v hT rfl ?_
                refine AwOps.v hT rfl ?_
                refine AwOps.nil ?_
                refine Aw.ret ?_
                refine ⟨_, [], rfl, trivial, ?_⟩
                exact cov_of (by simp only [show (p.hasIssuer) = false from hb18, show (nmatch l.issuer c.issuer) = true by simpa using hb34, show (l.hasScope) = true from hb51, show (decide ((l.scope.names.length : Int) > 0)) = false from hb58, show (l.scope.onlyUser) = true from hb67, show (c.info.ca) = false from hb72, show (l.scope.onlyCA) = true from hb75, covS, covN, covM, if_true, if_false, Bool.false_eq_true, Bool.true_and, Bool.false_and, Bool.true_or, Bool.false_or, Bool.or_true, Bool.and_true, Bool.or_false, Bool.and_false, Bool.not_true, Bool.not_false] <;> first | done | rfl | (simp; done))
              · skip
                iterate 6 refine AwOps.v hT rfl ?_
                refine AwOps.nil (Aw.condF rfl (Aw.skip (Aw.region ?_)))
                iterate 3 refine AwOps.v hT rfl ?_
                refine AwOps.cl (F169 _) [] rfl ⟨⟨rfl, rfl⟩, trivial⟩ trivial rfl ?_   -- scope.all
                rintro _ _ rfl
                refine AwOps.bin rfl _ rfl band_run ?_
                refine AwOps.v hT rfl ?_
                refine AwOps.nil (Aw.seq (Aw.seq (Aw.region ?_)))
                refine AwOps.v hT rfl ?_
                refine AwOps.v hT rfl ?_
                refine AwOps.nil ?_
                refine Aw.tst rfl (fun hb88 => ?_) (fun hb88 => ?_)
                · skip
                  refine Aw.seq (Aw.region ?_)
                  refine AwOps.v hT rfl ?_
                  refine AwOps.v hT rfl ?_
                  refine AwOps.nil ?_
                  refine Aw.ret ?_
                  refine ⟨_, [], rfl, trivial, ?_⟩
                  exact cov_of (by simp only [show (p.hasIssuer) = false from hb18, show (nmatch l.issuer c.issuer) = true by simpa using hb34, show (l.hasScope) = true from hb51, show (decide ((l.scope.names.length : Int) > 0)) = false from hb58, show (l.scope.onlyUser) = true from hb67, show (c.info.ca) = false from hb72, show (l.scope.onlyCA) = false from hb75, show (band (allR p.reasons) (allR l.scope.reasons) == 0) = true from hb88, covS, covN, covM, if_true, if_false, Bool.false_eq_true, Bool.true_and, Bool.false_and, Bool.true_or, Bool.false_or, Bool.or_true, Bool.and_true, Bool.or_false, Bool.and_false, Bool.not_true, Bool.not_false] <;> first | done | rfl | (simp; done))
                · skip
                  refine Aw.skip (Aw.seq (Aw.region ?_))
                  iterate 3 refine AwOps.v hT rfl ?_
                  refine AwOps.nil ?_
                  refine Aw.ret ?_
                  refine ⟨_, [], rfl, trivial, ?_⟩
                  exact cov_of (by simp only [show (p.hasIssuer) = false from hb18, show (nmatch l.issuer c.issuer) = true by simpa using hb34, show (l.hasScope) = true from hb51, show (decide ((l.scope.names.length : Int) > 0)) = false from hb58, show (l.scope.onlyUser) = true from hb67, show (c.info.ca) = false from hb72, show (l.scope.onlyCA) = false from hb75, show (band (allR p.reasons) (allR l.scope.reasons) == 0) = false from hb88, covS, covN, covM, if_true, if_false, Bool.false_eq_true, Bool.true_and, Bool.false_and, Bool.true_or, Bool.false_or, Bool.or_true, Bool.and_true, Bool.or_false, Bool.and_false, Bool.not_true, Bool.not_false] <;> first | done | rfl | (simp; done))
          · skip
            iterate 8 refine AwOps.v hT rfl ?_
            refine AwOps.split (t := 75) rfl (fun hb75 => ?_) (fun hb75 => ?_)
            · skip
              iterate 6 refine AwOps.v hT rfl ?_
              refine AwOps.nil ?_
              refine Aw.tst rfl (fun hb81 => ?_) (fun hb81 => ?_)
              · skip
                refine Aw.seq (Aw.region ?_)
                refine AwOps.v hT rfl ?_
                refine AwOps.v hT rfl ?_
                refine AwOps.nil ?_
                refine Aw.ret ?_
                refine ⟨_, [], rfl, trivial, ?_⟩
                exact cov_of (by simp only [show (p.hasIssuer) = false from hb18, show (nmatch l.issuer c.issuer) = true by simpa using hb34, show (l.hasScope) = true from hb51, show (decide ((l.scope.names.length : Int) > 0)) = false from hb58, show (l.scope.onlyUser) = false from hb67, show (l.scope.onlyCA) = true from hb75, show (c.info.ca) = false by simpa using hb81, covS, covN, covM, if_true, if_false, Bool.false_eq_true, Bool.true_and, Bool.false_and, Bool.true_or, Bool.false_or, Bool.or_true, Bool.and_true, Bool.or_false, Bool.and_false, Bool.not_true, Bool.not_false] <;> first | done | rfl | (simp; done))
              · skip
                refine Aw.skip (Aw.region ?_)
                iterate 3 refine AwOps.v hT rfl ?_
                refine AwOps.cl (F169 _) [] rfl ⟨⟨rfl, rfl⟩, trivial⟩ trivial rfl ?_   -- scope.all
                rintro _ _ rfl
                refine AwOps.bin rfl _ rfl band_run ?_
                refine AwOps.v hT rfl ?_
                refine AwOps.nil (Aw.seq (Aw.seq (Aw.region ?_)))
                refine AwOps.v hT rfl ?_
                refine AwOps.v hT rfl ?_
                refine AwOps.nil ?_
                refine Aw.tst rfl (fun hb88 => ?_) (fun hb88 => ?_)
                · skip
                  refine Aw.seq (Aw.region ?_)
                  refine AwOps.v hT rfl ?_
                  refine AwOps.v hT rfl ?_
                  refine AwOps.nil ?_
                  refine Aw.ret ?_
                  refine ⟨_, [], rfl, trivial, ?_⟩
                  exact cov_of (by simp only [show (p.hasIssuer) = false from hb18, show (nmatch l.issuer c.issuer) = true by simpa using hb34, show (l.hasScope) = true from hb51, show (decide ((l.scope.names.length : Int) > 0)) = false from hb58, show (l.scope.onlyUser) = false from hb67, show (l.scope.onlyCA) = true from hb75, show (c.info.ca) = true by simpa using hb81, show (band (allR p.reasons) (allR l.scope.reasons) == 0) = true from hb88, covS, covN, covM, if_true, if_false, Bool.false_eq_true, Bool.true_and, Bool.false_and, Bool.true_or, Bool.false_or, Bool.or_true, Bool.and_true, Bool.or_false, Bool.and_false, Bool.not_true, Bool.not_false] <;> first | done | rfl | (simp; done))
                · skip
                  refine Aw.skip (Aw.seq (Aw.region ?_))
                  iterate 3 refine AwOps.v hT rfl ?_
                  refine AwOps.nil ?_
                  refine Aw.ret ?_
                  refine ⟨_, [], rfl, trivial, ?_⟩
                  exact cov_of (by simp only [show (p.hasIssuer) = false from hb18, show (nmatch l.issuer c.issuer) = true by simpa using hb34, show (l.hasScope) = true from hb51, show (decide ((l.scope.names.length : Int) > 0)) = false from hb58, show (l.scope.onlyUser) = false from hb67, show (l.scope.onlyCA) = true from hb75, show (c.info.ca) = true by simpa using hb81, show (band (allR p.reasons) (allR l.scope.reasons) == 0) = false from hb88, covS, covN, covM, if_true, if_false, Bool.false_eq_true, Bool.true_and, Bool.false_and, Bool.true_or, Bool.false_or, Bool.or_true, Bool.and_true, Bool.or_false, Bool.and_false, Bool.not_true, Bool.not_false] <;> first | done | rfl | (simp; done))
            · skip
              iterate 6 refine AwOps.v hT rfl ?_
              refine AwOps.nil (Aw.condF rfl (Aw.skip (Aw.region ?_)))
              iterate 3 refine AwOps.v hT rfl ?_
              refine AwOps.cl (F169 _) [] rfl ⟨⟨rfl, rfl⟩, trivial⟩ trivial rfl ?_   -- scope.all
              rintro _ _ rfl
              refine AwOps.bin rfl _ rfl band_run ?_
              refine AwOps.v hT rfl ?_
              refine AwOps.nil (Aw.seq (Aw.seq (Aw.region ?_)))
              refine AwOps.v hT rfl ?_
              refine AwOps.v hT rfl ?_
              refine AwOps.nil ?_
              refine Aw.tst rfl (fun hb88 => ?_) (fun hb88 => ?_)
              · skip
                refine Aw.seq (Aw.region ?_)
                refine AwOps.v hT rfl ?_
                refine AwOps.v hT rfl ?_
                refine AwOps.nil ?_
                refine Aw.ret ?_
                refine ⟨_, [], rfl, trivial, ?_⟩
                exact cov_of (by simp only [show (p.hasIssuer) = false from hb18, show (nmatch l.issuer c.issuer) = true by simpa using hb34, show (l.hasScope) = true from hb51, show (decide ((l.scope.names.length : Int) > 0)) = false from hb58, show (l.scope.onlyUser) = false from hb67, show (l.scope.onlyCA) = false from hb75, show (band (allR p.reasons) (allR l.scope.reasons) == 0) = true from hb88, covS, covN, covM, if_true, if_false, Bool.false_eq_true, Bool.true_and, Bool.false_and, Bool.true_or, Bool.false_or, Bool.or_true, Bool.and_true, Bool.or_false, Bool.and_false, Bool.not_true, Bool.not_false] <;> first | done | rfl | (simp; done))
              · skip
                refine Aw.skip (Aw.seq (Aw.region ?_))
                iterate 3 refine AwOps.v hT rfl ?_
                refine AwOps.nil ?_
                refine Aw.ret ?_
                refine ⟨_, [], rfl, trivial, ?_⟩
                exact cov_of (by simp only [show (p.hasIssuer) = false from hb18, show (nmatch l.issuer c.issuer) = true by simpa using hb34, show (l.hasScope) = true from hb51, show (decide ((l.scope.names.length : Int) > 0)) = false from hb58, show (l.scope.onlyUser) = false from hb67, show (l.scope.onlyCA) = false from hb75, show (band (allR p.reasons) (allR l.scope.reasons) == 0) = false from hb88, covS, covN, covM, if_true, if_false, Bool.false_eq_true, Bool.true_and, Bool.false_and, Bool.true_or, Bool.false_or, Bool.or_true, Bool.and_true, Bool.or_false, Bool.and_false, Bool.not_true, Bool.not_false] <;> first | done | rfl | (simp; done))
      · skip
        refine Aw.skip (Aw.seq (Aw.seq (Aw.region ?_)))
        refine AwOps.v hT rfl ?_
        refine AwOps.v hT rfl ?_
        refine AwOps.nil ?_
        refine Aw.tst rfl (fun hb88 => ?_) (fun hb88 => ?_)
        · skip
          refine Aw.seq (Aw.region ?_)
          refine AwOps.v hT rfl ?_
          refine AwOps.v hT rfl ?_
          refine AwOps.nil ?_
          refine Aw.ret ?_
          refine ⟨_, [], rfl, trivial, ?_⟩
          exact cov_of (by simp only [show (p.hasIssuer) = false from hb18, show (nmatch l.issuer c.issuer) = true by simpa using hb34, show (l.hasScope) = false from hb51, show (allR p.reasons == 0) = true from hb88, covS, covN, covM, if_true, if_false, Bool.false_eq_true, Bool.true_and, Bool.false_and, Bool.true_or, Bool.false_or, Bool.or_true, Bool.and_true, Bool.or_false, Bool.and_false, Bool.not_true, Bool.not_false] <;> first | done | rfl | (simp; done))
        · skip
          refine Aw.skip (Aw.seq (Aw.region ?_))
          iterate 3 refine AwOps.v hT rfl ?_
          refine AwOps.nil ?_
          refine Aw.ret ?_
          refine ⟨_, [], rfl, trivial, ?_⟩
          exact cov_of (by simp only [show (p.hasIssuer) = false from hb18, show (nmatch l.issuer c.issuer) = true by simpa using hb34, show (l.hasScope) = false from hb51, show (allR p.reasons == 0) = false from hb88, covS, covN, covM, if_true, if_false, Bool.false_eq_true, Bool.true_and, Bool.false_and, Bool.true_or, Bool.false_or, Bool.or_true, Bool.and_true, Bool.or_false, Bool.and_false, Bool.not_true, Bool.not_false] <;> first | done | rfl | (simp; done))
-- f161 certpath/certpathref26.Covers
theorem F161 (c : Cert) (p : Point) (l : CList) (hc : okNm c.issuer) (hp : okPt p) (hl : okCL l) : Fn Tryd.prog 13 [.pv (.agg (eCert c)), .pv (.agg (ePoint p)), .pv (.agg (eCL l))] [] (fun r _ => r = .tup [.one (.p (.v (.int .i64 (covS c p l).1))), .one (.p (.v (.int .i64 (covS c p l).2)))]) := by
  refine Fn.intro (rs := [.tmp 6, .tmp 7]) hT Tryd.func13 (by kernel_rfl) rfl rfl rfl rfl fun C => ?_
  refine Aw.seq (Aw.region ?_)
  iterate 3 refine AwOps.eff hT rfl ?_
  refine AwOps.v hT rfl ?_
  refine AwOps.v hT rfl ?_
  refine AwOps.nil (Aw.seq (Aw.region ?_))
  refine AwOps.v hT rfl ?_
  refine AwOps.v hT rfl ?_
  refine AwOps.eff hT rfl ?_
  refine AwOps.eff hT rfl ?_
  refine AwOps.nil (Aw.seq (Aw.seq (Aw.region ?_)))
  refine AwOps.v hT rfl ?_
  refine AwOps.v hT rfl ?_
  refine AwOps.nil ?_
  refine Aw.tst rfl (fun hb15 => ?_) (fun hb15 => ?_)
  · skip
    refine Aw.region ?_
    refine AwOps.v hT rfl ?_
    refine AwOps.v hT rfl ?_
    refine AwOps.eff hT rfl ?_
    refine AwOps.nil (Aw.seq (Aw.seq (Aw.region ?_)))
    iterate 3 refine AwOps.v hT rfl ?_
    refine AwOps.cl (MatchName_ok _ _ hl.1.1 (by first | exact hp.2.1 | exact hc.1)) [] rfl ⟨⟨rfl, rfl⟩, ⟨rfl, rfl⟩, trivial⟩ trivial rfl ?_   -- certpathref07.MatchName
    rintro _ _ rfl
    refine AwOps.v hT rfl ?_
    refine AwOps.nil ?_
    refine Aw.tst rfl (fun hb22 => ?_) (fun hb22 => ?_)
    · skip
      refine Aw.seq (Aw.region ?_)
      refine AwOps.v hT rfl ?_
      refine AwOps.v hT rfl ?_
      refine AwOps.nil ?_
      refine Aw.ret ?_
      refine ⟨_, [], rfl, trivial, ?_⟩
      exact cov_of (by simp only [show (p.hasIssuer) = true from hb15, show (nmatch l.issuer p.issuer) = false by simpa using hb22, covS, covN, covM, if_true, if_false, Bool.false_eq_true, Bool.true_and, Bool.false_and, Bool.true_or, Bool.false_or, Bool.or_true, Bool.and_true, Bool.or_false, Bool.and_false, Bool.not_true, Bool.not_false] <;> first | done | rfl | (simp; done))
    · skip
      refine Aw.skip (Aw.seq (Aw.region ?_))
      iterate 3 refine AwOps.v hT rfl ?_
      refine AwOps.split (t := 25) rfl (fun hb25 => ?_) (fun hb25 => ?_)
      · skip
        iterate 5 refine AwOps.v hT rfl ?_
        refine AwOps.nil (Aw.seq (Aw.seq (Aw.region ?_)))
        iterate 4 refine AwOps.v hT rfl ?_
        refine AwOps.cl (MatchName_ok _ _ hl.1.1 hc.1) [] rfl ⟨⟨rfl, rfl⟩, ⟨rfl, rfl⟩, trivial⟩ trivial rfl ?_   -- certpathref07.MatchName
        rintro _ _ rfl
        refine AwOps.v hT rfl ?_
        refine AwOps.v hT rfl ?_
        refine AwOps.split (t := 36) rfl (fun hb36 => ?_) (fun hb36 => ?_)
        · skip
          iterate 3 refine AwOps.v hT rfl ?_
          refine AwOps.nil ?_
          refine Aw.tst rfl (fun hb39 => ?_) (fun hb39 => ?_)
          · skip
            refine Aw.seq (Aw.region ?_)
            refine AwOps.v hT rfl ?_
            refine AwOps.v hT rfl ?_
            refine AwOps.nil ?_
            refine Aw.ret ?_
            refine ⟨_, [], rfl, trivial, ?_⟩
            exact cov_of (by simp only [show (p.hasIssuer) = true from hb15, show (nmatch l.issuer p.issuer) = true by simpa using hb22, show (l.hasScope) = true from hb25, show (nmatch l.issuer c.issuer) = false by simpa using hb36, show (l.scope.indirect) = false by simpa using hb39, covS, covN, covM, if_true, if_false, Bool.false_eq_true, Bool.true_and, Bool.false_and, Bool.true_or, Bool.false_or, Bool.or_true, Bool.and_true, Bool.or_false, Bool.and_false, Bool.not_true, Bool.not_false] <;> first | done | rfl | (simp; done))
          · skip
            refine Aw.skip (Aw.seq (Aw.region ?_))
            refine AwOps.v hT rfl ?_
            refine AwOps.v hT rfl ?_
            refine AwOps.cl (F173 _) [] rfl ⟨⟨rfl, rfl⟩, trivial⟩ trivial rfl ?_   -- certpathref26.all
            rintro _ _ rfl
            refine AwOps.v hT rfl ?_
            refine AwOps.nil (Aw.seq (Aw.seq (Aw.region ?_)))
            refine AwOps.v hT rfl ?_
            refine AwOps.v hT rfl ?_
            refine AwOps.turn (Less.say (t := 44) (B := sc (.bool true)) rfl (by rw [show (l.hasScope) = true by simpa using hb25])) ?_
            refine AwOps.nil (Aw.condT rfl (Aw.seq (Aw.region ?_)))
            refine AwOps.v hT rfl ?_
            refine AwOps.v hT rfl ?_
            refine AwOps.eff hT rfl ?_
            refine AwOps.eff hT rfl ?_
            refine AwOps.nil (Aw.seq (Aw.seq (Aw.region ?_)))
            iterate 5 refine AwOps.v hT rfl ?_
            refine AwOps.split (t := 51) rfl (fun hb51 => ?_) (fun hb51 => ?_)
            · skip
              replace hb51 : decide ((l.scope.names.length : Int) > 0) = true := by simpa using hb51
              iterate 3 refine AwOps.v hT rfl ?_
              refine AwOps.cl (F174 _ _ hl.2 hp) [] rfl ⟨⟨rfl, rfl⟩, ⟨rfl, rfl⟩, trivial⟩ trivial rfl ?_   -- certpathref26.fits
              rintro _ _ rfl
              iterate 3 refine AwOps.v hT rfl ?_
              refine AwOps.split (t := 58) rfl (fun hb58 => ?_) (fun hb58 => ?_)
              · skip
                iterate 18 refine AwOps.v hT rfl ?_
                refine AwOps.nil (Aw.condT rfl (Aw.seq (Aw.region ?_)))
                refine AwOps.v hT rfl ?_
                refine AwOps.v hT rfl ?_
                refine AwOps.nil ?_
                refine Aw.ret ?_
                refine ⟨_, [], rfl, trivial, ?_⟩
                exact cov_of (by simp only [show (p.hasIssuer) = true from hb15, show (nmatch l.issuer p.issuer) = true by simpa using hb22, show (l.hasScope) = true from hb25, show (nmatch l.issuer c.issuer) = false by simpa using hb36, show (l.scope.indirect) = true by simpa using hb39, show (decide ((l.scope.names.length : Int) > 0)) = true from hb51, show (l.scope.names.any fun g => fitsB g p) = false by simpa using hb58, covS, covN, covM, if_true, if_false, Bool.false_eq_true, Bool.true_and, Bool.false_and, Bool.true_or, Bool.false_or, Bool.or_true, Bool.and_true, Bool.or_false, Bool.and_false, Bool.not_true, Bool.not_false] <;> first | done | rfl | (simp; done))
              · skip
                iterate 3 refine AwOps.v hT rfl ?_
                refine AwOps.split (t := 61) rfl (fun hb61 => ?_) (fun hb61 => ?_)
                · skip
                  iterate 6 refine AwOps.v hT rfl ?_
                  refine AwOps.split (t := 67) rfl (fun hb67 => ?_) (fun hb67 => ?_)
                  · skip
                    iterate 9 refine AwOps.v hT rfl ?_
                    refine AwOps.nil (Aw.condT rfl (Aw.seq (Aw.region ?_)))
                    refine AwOps.v hT rfl ?_
                    refine AwOps.v hT rfl ?_
                    refine AwOps.nil ?_
                    refine Aw.ret ?_
                    refine ⟨_, [], rfl, trivial, ?_⟩
                    exact cov_of (by simp only [show (p.hasIssuer) = true from hb15, show (nmatch l.issuer p.issuer) = true by simpa using hb22, show (l.hasScope) = true from hb25, show (nmatch l.issuer c.issuer) = false by simpa using hb36, show (l.scope.indirect) = true by simpa using hb39, show (decide ((l.scope.names.length : Int) > 0)) = true from hb51, show (l.scope.names.any fun g => fitsB g p) = true by simpa using hb58, show (l.scope.onlyUser) = true from hb61, show (c.info.ca) = true from hb67, covS, covN, covM, if_true, if_false, Bool.false_eq_true, Bool.true_and, Bool.false_and, Bool.true_or, Bool.false_or, Bool.or_true, Bool.and_true, Bool.or_false, Bool.and_false, Bool.not_true, Bool.not_false] <;> first | done | rfl | (simp; done))
                  · skip
                    iterate 3 refine AwOps.v hT rfl ?_
                    refine AwOps.split (t := 70) rfl (fun hb70 => ?_) (fun hb70 => ?_)
                    · skip
                      iterate 4 refine AwOps.v hT rfl ?_
                      refine AwOps.turn (Less.say (t := 74) (B := sc (.bool true)) rfl (by rw [show (!c.info.ca) = true by simpa using hb67])) ?_
                      refine AwOps.v hT rfl ?_
                      refine AwOps.v hT rfl ?_
                      refine AwOps.nil (Aw.condT rfl (Aw.seq (Aw.region ?_)))
                      refine AwOps.v hT rfl ?_
                      refine AwOps.v hT rfl ?_
                      refine AwOps.nil ?_
                      refine Aw.ret ?_
                      refine ⟨_, [], rfl, trivial, ?_⟩
                      exact cov_of (by simp only [show (p.hasIssuer) = true from hb15, show (nmatch l.issuer p.issuer) = true by simpa using hb22, show (l.hasScope) = true from hb25, show (nmatch l.issuer c.issuer) = false by simpa using hb36, show (l.scope.indirect) = true by simpa using hb39, show (decide ((l.scope.names.length : Int) > 0)) = true from hb51, show (l.scope.names.any fun g => fitsB g p) = true by simpa using hb58, show (l.scope.onlyUser) = true from hb61, show (c.info.ca) = false from hb67, show (l.scope.onlyCA) = true from hb70, covS, covN, covM, if_true, if_false, Bool.false_eq_true, Bool.true_and, Bool.false_and, Bool.true_or, Bool.false_or, Bool.or_true, Bool.and_true, Bool.or_false, Bool.and_false, Bool.not_true, Bool.not_false] <;> first | done | rfl | (simp; done))
                    · skip
                      iterate 6 refine AwOps.v hT rfl ?_
                      refine AwOps.nil (Aw.condF rfl (Aw.skip (Aw.region ?_)))
                      iterate 3 refine AwOps.v hT rfl ?_
                      refine AwOps.cl (F173 _) [] rfl ⟨⟨rfl, rfl⟩, trivial⟩ trivial rfl ?_   -- certpathref26.all
                      rintro _ _ rfl
                      refine AwOps.bin rfl _ rfl band_run ?_
                      refine AwOps.v hT rfl ?_
                      refine AwOps.nil (Aw.seq (Aw.seq (Aw.region ?_)))
                      refine AwOps.v hT rfl ?_
                      refine AwOps.v hT rfl ?_
                      refine AwOps.nil ?_
                      refine Aw.tst rfl (fun hb83 => ?_) (fun hb83 => ?_)
                      · skip
                        refine Aw.seq (Aw.region ?_)
                        refine AwOps.v hT rfl ?_
                        refine AwOps.v hT rfl ?_
                        refine AwOps.nil ?_
                        refine Aw.ret ?_
                        refine ⟨_, [], rfl, trivial, ?_⟩
                        exact cov_of (by simp only [show (p.hasIssuer) = true from hb15, show (nmatch l.issuer p.issuer) = true by simpa using hb22, show (l.hasScope) = true from hb25, show (nmatch l.issuer c.issuer) = false by simpa using hb36, show (l.scope.indirect) = true by simpa using hb39, show (decide ((l.scope.names.length : Int) > 0)) = true from hb51, show (l.scope.names.any fun g => fitsB g p) = true by simpa using hb58, show (l.scope.onlyUser) = true from hb61, show (c.info.ca) = false from hb67, show (l.scope.onlyCA) = false from hb70, show (band (allR p.reasons) (allR l.scope.reasons) == 0) = true from hb83, covS, covN, covM, if_true, if_false, Bool.false_eq_true, Bool.true_and, Bool.false_and, Bool.true_or, Bool.false_or, Bool.or_true, Bool.and_true, Bool.or_false, Bool.and_false, Bool.not_true, Bool.not_false] <;> first | done | rfl | (simp; done))
                      · skip
                        refine Aw.skip (Aw.seq (Aw.region ?_))
                        iterate 3 refine AwOps.v hT rfl ?_
                        refine AwOps.nil ?_
                        refine Aw.ret ?_
                        refine ⟨_, [], rfl, trivial, ?_⟩
                        exact cov_of (by simp only [show (p.hasIssuer) = true from hb15, show (nmatch l.issuer p.issuer) = true by simpa using hb22, show (l.hasScope) = true from hb25, show (nmatch l.issuer c.issuer) = false by simpa using hb36, show (l.scope.indirect) = true by simpa using hb39, show (decide ((l.scope.names.length : Int) > 0)) = true from hb51, show (l.scope.names.any fun g => fitsB g p) = true by simpa using hb58, show (l.scope.onlyUser) = true from hb61, show (c.info.ca) = false from hb67, show (l.scope.onlyCA) = false from hb70, show (band (allR p.reasons) (allR l.scope.reasons) == 0) = false from hb83, covS, covN, covM, if_true, if_false, Bool.false_eq_true, Bool.true_and, Bool.false_and, Bool.true_or, Bool.false_or, Bool.or_true, Bool.and_true, Bool.or_false, Bool.and_false, Bool.not_true, Bool.not_false] <;> first | done | rfl | (simp; done))
                · skip
                  iterate 9 refine AwOps.v hT rfl ?_
                  refine AwOps.split (t := 70) rfl (fun hb70 => ?_) (fun hb70 => ?_)
                  · skip
                    iterate 6 refine AwOps.v hT rfl ?_
                    refine AwOps.nil ?_
                    refine Aw.tst rfl (fun hb76 => ?_) (fun hb76 => ?_)
                    · skip
                      refine Aw.seq (Aw.region ?_)
                      refine AwOps.v hT rfl ?_
                      refine AwOps.v hT rfl ?_
                      refine AwOps.nil ?_
                      refine Aw.ret ?_
                      refine ⟨_, [], rfl, trivial, ?_⟩
                      exact cov_of (by simp only [show (p.hasIssuer) = true from hb15, show (nmatch l.issuer p.issuer) = true by simpa using hb22, show (l.hasScope) = true from hb25, show (nmatch l.issuer c.issuer) = false by simpa using hb36, show (l.scope.indirect) = true by simpa using hb39, show (decide ((l.scope.names.length : Int) > 0)) = true from hb51, show (l.scope.names.any fun g => fitsB g p) = true by simpa using hb58, show (l.scope.onlyUser) = false from hb61, show (l.scope.onlyCA) = true from hb70, show (c.info.ca) = false by simpa using hb76, covS, covN, covM, if_true, if_false, Bool.false_eq_true, Bool.true_and, Bool.false_and, Bool.true_or, Bool.false_or, Bool.or_true, Bool.and_true, Bool.or_false, Bool.and_false, Bool.not_true, Bool.not_false] <;> first | done | rfl | (simp; done))
                    · skip
                      refine Aw.skip (Aw.region ?_)
                      iterate 3 refine AwOps.v hT rfl ?_
                      refine AwOps.cl (F173 _) [] rfl ⟨⟨rfl, rfl⟩, trivial⟩ trivial rfl ?_   -- certpathref26.all
                      rintro _ _ rfl
                      refine AwOps.bin rfl _ rfl band_run ?_
                      refine AwOps.v hT rfl ?_
                      refine AwOps.nil (Aw.seq (Aw.seq (Aw.region ?_)))
                      refine AwOps.v hT rfl ?_
                      refine AwOps.v hT rfl ?_
                      refine AwOps.nil ?_
                      refine Aw.tst rfl (fun hb83 => ?_) (fun hb83 => ?_)
                      · skip
                        refine Aw.seq (Aw.region ?_)
                        refine AwOps.v hT rfl ?_
                        refine AwOps.v hT rfl ?_
                        refine AwOps.nil ?_
                        refine Aw.ret ?_
                        refine ⟨_, [], rfl, trivial, ?_⟩
                        exact cov_of (by simp only [show (p.hasIssuer) = true from hb15, show (nmatch l.issuer p.issuer) = true by simpa using hb22, show (l.hasScope) = true from hb25, show (nmatch l.issuer c.issuer) = false by simpa using hb36, show (l.scope.indirect) = true by simpa using hb39, show (decide ((l.scope.names.length : Int) > 0)) = true from hb51, show (l.scope.names.any fun g => fitsB g p) = true by simpa using hb58, show (l.scope.onlyUser) = false from hb61, show (l.scope.onlyCA) = true from hb70, show (c.info.ca) = true by simpa using hb76, show (band (allR p.reasons) (allR l.scope.reasons) == 0) = true from hb83, covS, covN, covM, if_true, if_false, Bool.false_eq_true, Bool.true_and, Bool.false_and, Bool.true_or, Bool.false_or, Bool.or_true, Bool.and_true, Bool.or_false, Bool.and_false, Bool.not_true, Bool.not_false] <;> first | done | rfl | (simp; done))
                      · skip
                        refine Aw.skip (Aw.seq (Aw.region ?_))
                        iterate 3 refine AwOps.v hT rfl ?_
                        refine AwOps.nil ?_
                        refine Aw.ret ?_
                        refine ⟨_, [], rfl, trivial, ?_⟩
                        exact cov_of (by simp only [show (p.hasIssuer) = true from hb15, show (nmatch l.issuer p.issuer) = true by simpa using hb22, show (l.hasScope) = true from hb25, show (nmatch l.issuer c.issuer) = false by simpa using hb36, show (l.scope.indirect) = true by simpa using hb39, show (decide ((l.scope.names.length : Int) > 0)) = true from hb51, show (l.scope.names.any fun g => fitsB g p) = true by simpa using hb58, show (l.scope.onlyUser) = false from hb61, show (l.scope.onlyCA) = true from hb70, show (c.info.ca) = true by simpa using hb76, show (band (allR p.reasons) (allR l.scope.reasons) == 0) = false from hb83, covS, covN, covM, if_true, if_false, Bool.false_eq_true, Bool.true_and, Bool.false_and, Bool.true_or, Bool.false_or, Bool.or_true, Bool.and_true, Bool.or_false, Bool.and_false, Bool.not_true, Bool.not_false] <;> first | done | rfl | (simp; done))
                  · skip
                    iterate 6 refine AwOps.v hT rfl ?_
                    refine AwOps.nil (Aw.condF rfl (Aw.skip (Aw.region ?_)))
                    iterate 3 refine AwOps.v hT rfl ?_
                    refine AwOps.cl (F173 _) [] rfl ⟨⟨rfl, rfl⟩, trivial⟩ trivial rfl ?_   -- certpathref26.all
                    rintro _ _ rfl
                    refine AwOps.bin rfl _ rfl band_run ?_
                    refine AwOps.v hT rfl ?_
                    refine AwOps.nil (Aw.seq (Aw.seq (Aw.region ?_)))
                    refine AwOps.v hT rfl ?_
                    refine AwOps.v hT rfl ?_
                    refine AwOps.nil ?_
                    refine Aw.tst rfl (fun hb83 => ?_) (fun hb83 => ?_)
                    · skip
                      refine Aw.seq (Aw.region ?_)
                      refine AwOps.v hT rfl ?_
                      refine AwOps.v hT rfl ?_
                      refine AwOps.nil ?_
                      refine Aw.ret ?_
                      refine ⟨_, [], rfl, trivial, ?_⟩
                      exact cov_of (by simp only [show (p.hasIssuer) = true from hb15, show (nmatch l.issuer p.issuer) = true by simpa using hb22, show (l.hasScope) = true from hb25, show (nmatch l.issuer c.issuer) = false by simpa using hb36, show (l.scope.indirect) = true by simpa using hb39, show (decide ((l.scope.names.length : Int) > 0)) = true from hb51, show (l.scope.names.any fun g => fitsB g p) = true by simpa using hb58, show (l.scope.onlyUser) = false from hb61, show (l.scope.onlyCA) = false from hb70, show (band (allR p.reasons) (allR l.scope.reasons) == 0) = true from hb83, covS, covN, covM, if_true, if_false, Bool.false_eq_true, Bool.true_and, Bool.false_and, Bool.true_or, Bool.false_or, Bool.or_true, Bool.and_true, Bool.or_false, Bool.and_false, Bool.not_true, Bool.not_false] <;> first | done | rfl | (simp; done))
                    · skip
                      refine Aw.skip (Aw.seq (Aw.region ?_))
                      iterate 3 refine AwOps.v hT rfl ?_
                      refine AwOps.nil ?_
                      refine Aw.ret ?_
                      refine ⟨_, [], rfl, trivial, ?_⟩
                      exact cov_of (by simp only [show (p.hasIssuer) = true from hb15, show (nmatch l.issuer p.issuer) = true by simpa using hb22, show (l.hasScope) = true from hb25, show (nmatch l.issuer c.issuer) = false by simpa using hb36, show (l.scope.indirect) = true by simpa using hb39, show (decide ((l.scope.names.length : Int) > 0)) = true from hb51, show (l.scope.names.any fun g => fitsB g p) = true by simpa using hb58, show (l.scope.onlyUser) = false from hb61, show (l.scope.onlyCA) = false from hb70, show (band (allR p.reasons) (allR l.scope.reasons) == 0) = false from hb83, covS, covN, covM, if_true, if_false, Bool.false_eq_true, Bool.true_and, Bool.false_and, Bool.true_or, Bool.false_or, Bool.or_true, Bool.and_true, Bool.or_false, Bool.and_false, Bool.not_true, Bool.not_false] <;> first | done | rfl | (simp; done))
            · skip
              replace hb51 : decide ((l.scope.names.length : Int) > 0) = false := by simpa using hb51
              iterate 10 refine AwOps.v hT rfl ?_
              refine AwOps.split (t := 61) rfl (fun hb61 => ?_) (fun hb61 => ?_)
              · skip
                iterate 6 refine AwOps.v hT rfl ?_
                refine AwOps.split (t := 67) rfl (fun hb67 => ?_) (fun hb67 => ?_)
                · skip
                  iterate 9 refine AwOps.v hT rfl ?_
                  refine AwOps.nil (Aw.condT rfl (Aw.seq (Aw.region ?_)))
                  refine AwOps.v hT rfl ?_
                  refine AwOps.v hT rfl ?_
                  refine AwOps.nil ?_
                  refine Aw.ret ?_
                  refine ⟨_, [], rfl, trivial, ?_⟩
                  exact cov_of (by simp only [show (p.hasIssuer) = true from hb15, show (nmatch l.issuer p.issuer) = true by simpa using hb22, show (l.hasScope) = true from hb25, show (nmatch l.issuer c.issuer) = false by simpa using hb36, show (l.scope.indirect) = true by simpa using hb39, show (decide ((l.scope.names.length : Int) > 0)) = false from hb51, show (l.scope.onlyUser) = true from hb61, show (c.info.ca) = true from hb67, covS, covN, covM, if_true, if_false, Bool.false_eq_true, Bool.true_and, Bool.false_and, Bool.true_or, Bool.false_or, Bool.or_true, Bool.and_true, Bool.or_false, Bool.and_false, Bool.not_true, Bool.not_false] <;> first | done | rfl | (simp; done))
                · skip
                  iterate 3 refine AwOps.v hT rfl ?_
                  refine AwOps.split (t := 70) rfl (fun hb70 => ?_) (fun hb70 => ?_)
                  · skip
                    iterate 4 refine AwOps.v hT rfl ?_
                    refine AwOps.turn (Less.say (t := 74) (B := sc (.bool true)) rfl (by rw [show (!c.info.ca) = true by simpa using hb67])) ?_
                    refine AwOps.v hT rfl ?_
                    refine AwOps.v hT rfl ?_
                    refine AwOps.nil (Aw.condT rfl (Aw.seq (Aw.region ?_)))
                    refine AwOps.v hT rfl ?_
                    refine AwOps.v hT rfl ?_
                    refine AwOps.nil ?_
                    refine Aw.ret ?_
                    refine ⟨_, [], rfl, trivial, ?_⟩
                    exact cov_of (by simp only [show (p.hasIssuer) = true from hb15, show (nmatch l.issuer p.issuer) = true by simpa using hb22, show (l.hasScope) = true from hb25, show (nmatch l.issuer c.issuer) = false by simpa using hb36, show (l.scope.indirect) = true by simpa using hb39, show (decide ((l.scope.names.length : Int) > 0)) = false from hb51, show (l.scope.onlyUser) = true from hb61, show (c.info.ca) = false from hb67, show (l.scope.onlyCA) = true from hb70, covS, covN, covM, if_true, if_false, Bool.false_eq_true, Bool.true_and, Bool.false_and, Bool.true_or, Bool.false_or, Bool.or_true, Bool.and_true, Bool.or_false, Bool.and_false, Bool.not_true, Bool.not_false] <;> first | done | rfl | (simp; done))
                  · skip
                    iterate 6 refine AwOps.v hT rfl ?_
                    refine AwOps.nil (Aw.condF rfl (Aw.skip (Aw.region ?_)))
                    iterate 3 refine AwOps.v hT rfl ?_
                    refine AwOps.cl (F173 _) [] rfl ⟨⟨rfl, rfl⟩, trivial⟩ trivial rfl ?_   -- certpathref26.all
                    rintro _ _ rfl
                    refine AwOps.bin rfl _ rfl band_run ?_
                    refine AwOps.v hT rfl ?_
                    refine AwOps.nil (Aw.seq (Aw.seq (Aw.region ?_)))
                    refine AwOps.v hT rfl ?_
                    refine AwOps.v hT rfl ?_
                    refine AwOps.nil ?_
                    refine Aw.tst rfl (fun hb83 => ?_) (fun hb83 => ?_)
                    · skip
                      refine Aw.seq (Aw.region ?_)
                      refine AwOps.v hT rfl ?_
                      refine AwOps.v hT rfl ?_
                      refine AwOps.nil ?_
                      refine Aw.ret ?_
                      refine ⟨_, [], rfl, trivial, ?_⟩
                      exact cov_of (by simp only [show (p.hasIssuer) = true from hb15, show (nmatch l.issuer p.issuer) = true by simpa using hb22, show (l.hasScope) = true from hb25, show (nmatch l.issuer c.issuer) = false by simpa using hb36, show (l.scope.indirect) = true by simpa using hb39, show (decide ((l.scope.names.length : Int) > 0)) = false from hb51, show (l.scope.onlyUser) = true from hb61, show (c.info.ca) = false from hb67, show (l.scope.onlyCA) = false from hb70, show (band (allR p.reasons) (allR l.scope.reasons) == 0) = true from hb83, covS, covN, covM, if_true, if_false, Bool.false_eq_true, Bool.true_and, Bool.false_and, Bool.true_or, Bool.false_or, Bool.or_true, Bool.and_true, Bool.or_false, Bool.and_false, Bool.not_true, Bool.not_false] <;> first | done | rfl | (simp; done))
                    · skip
                      refine Aw.skip (Aw.seq (Aw.region ?_))
                      iterate 3 refine AwOps.v hT rfl ?_
                      refine AwOps.nil ?_
                      refine Aw.ret ?_
                      refine ⟨_, [], rfl, trivial, ?_⟩
                      exact cov_of (by simp only [show (p.hasIssuer) = true from hb15, show (nmatch l.issuer p.issuer) = true by simpa using hb22, show (l.hasScope) = true from hb25, show (nmatch l.issuer c.issuer) = false by simpa using hb36, show (l.scope.indirect) = true by simpa using hb39, show (decide ((l.scope.names.length : Int) > 0)) = false from hb51, show (l.scope.onlyUser) = true from hb61, show (c.info.ca) = false from hb67, show (l.scope.onlyCA) = false from hb70, show (band (allR p.reasons) (allR l.scope.reasons) == 0) = false from hb83, covS, covN, covM, if_true, if_false, Bool.false_eq_true, Bool.true_and, Bool.false_and, Bool.true_or, Bool.false_or, Bool.or_true, Bool.and_true, Bool.or_false, Bool.and_false, Bool.not_true, Bool.not_false] <;> first | done | rfl | (simp; done))
              · skip
                iterate 9 refine AwOps.v hT rfl ?_
                refine AwOps.split (t := 70) rfl (fun hb70 => ?_) (fun hb70 => ?_)
                · skip
                  iterate 6 refine AwOps.v hT rfl ?_
                  refine AwOps.nil ?_
                  refine Aw.tst rfl (fun hb76 => ?_) (fun hb76 => ?_)
                  · skip
                    refine Aw.seq (Aw.region ?_)
                    refine AwOps.v hT rfl ?_
                    refine AwOps.v hT rfl ?_
                    refine AwOps.nil ?_
                    refine Aw.ret ?_
                    refine ⟨_, [], rfl, trivial, ?_⟩
                    exact cov_of (by simp only [show (p.hasIssuer) = true from hb15, show (nmatch l.issuer p.issuer) = true by simpa using hb22, show (l.hasScope) = true from hb25, show (nmatch l.issuer c.issuer) = false by simpa using hb36, show (l.scope.indirect) = true by simpa using hb39, show (decide ((l.scope.names.length : Int) > 0)) = false from hb51, show (l.scope.onlyUser) = false from hb61, show (l.scope.onlyCA) = true from hb70, show (c.info.ca) = false by simpa using hb76, covS, covN, covM, if_true, if_false, Bool.false_eq_true, Bool.true_and, Bool.false_and, Bool.true_or, Bool.false_or, Bool.or_true, Bool.and_true, Bool.or_false, Bool.and_false, Bool.not_true, Bool.not_false] <;> first | done | rfl | (simp; done))
                  · skip
                    refine Aw.skip (Aw.region ?_)
                    iterate 3 refine AwOps.v hT rfl ?_
                    refine AwOps.cl (F173 _) [] rfl ⟨⟨rfl, rfl⟩, trivial⟩ trivial rfl ?_   -- certpathref26.all
                    rintro _ _ rfl
                    refine AwOps.bin rfl _ rfl band_run ?_
                    refine AwOps.v hT rfl ?_
                    refine AwOps.nil (Aw.seq (Aw.seq (Aw.region ?_)))
                    refine AwOps.v hT rfl ?_
                    refine AwOps.v hT rfl ?_
                    refine AwOps.nil ?_
                    refine Aw.tst rfl (fun hb83 => ?_) (fun hb83 => ?_)
                    · skip
                      refine Aw.seq (Aw.region ?_)
                      refine AwOps.v hT rfl ?_
                      refine AwOps.v hT rfl ?_
                      refine AwOps.nil ?_
                      refine Aw.ret ?_
                      refine ⟨_, [], rfl, trivial, ?_⟩
                      exact cov_of (by simp only [show (p.hasIssuer) = true from hb15, show (nmatch l.issuer p.issuer) = true by simpa using hb22, show (l.hasScope) = true from hb25, show (nmatch l.issuer c.issuer) = false by simpa using hb36, show (l.scope.indirect) = true by simpa using hb39, show (decide ((l.scope.names.length : Int) > 0)) = false from hb51, show (l.scope.onlyUser) = false from hb61, show (l.scope.onlyCA) = true from hb70, show (c.info.ca) = true by simpa using hb76, show (band (allR p.reasons) (allR l.scope.reasons) == 0) = true from hb83, covS, covN, covM, if_true, if_false, Bool.false_eq_true, Bool.true_and, Bool.false_and, Bool.true_or, Bool.false_or, Bool.or_true, Bool.and_true, Bool.or_false, Bool.and_false, Bool.not_true, Bool.not_false] <;> first | done | rfl | (simp; done))
                    · skip
                      refine Aw.skip (Aw.seq (Aw.region ?_))
                      iterate 3 refine AwOps.v hT rfl ?_
                      refine AwOps.nil ?_
                      refine Aw.ret ?_
                      refine ⟨_, [], rfl, trivial, ?_⟩
                      exact cov_of (by simp only [show (p.hasIssuer) = true from hb15, show (nmatch l.issuer p.issuer) = true by simpa using hb22, show (l.hasScope) = true from hb25, show (nmatch l.issuer c.issuer) = false by simpa using hb36, show (l.scope.indirect) = true by simpa using hb39, show (decide ((l.scope.names.length : Int) > 0)) = false from hb51, show (l.scope.onlyUser) = false from hb61, show (l.scope.onlyCA) = true from hb70, show (c.info.ca) = true by simpa using hb76, show (band (allR p.reasons) (allR l.scope.reasons) == 0) = false from hb83, covS, covN, covM, if_true, if_false, Bool.false_eq_true, Bool.true_and, Bool.false_and, Bool.true_or, Bool.false_or, Bool.or_true, Bool.and_true, Bool.or_false, Bool.and_false, Bool.not_true, Bool.not_false] <;> first | done | rfl | (simp; done))
                · skip
                  iterate 6 refine AwOps.v hT rfl ?_
                  refine AwOps.nil (Aw.condF rfl (Aw.skip (Aw.region ?_)))
                  iterate 3 refine AwOps.v hT rfl ?_
                  refine AwOps.cl (F173 _) [] rfl ⟨⟨rfl, rfl⟩, trivial⟩ trivial rfl ?_   -- certpathref26.all
                  rintro _ _ rfl
                  refine AwOps.bin rfl _ rfl band_run ?_
                  refine AwOps.v hT rfl ?_
                  refine AwOps.nil (Aw.seq (Aw.seq (Aw.region ?_)))
                  refine AwOps.v hT rfl ?_
                  refine AwOps.v hT rfl ?_
                  refine AwOps.nil ?_
                  refine Aw.tst rfl (fun hb83 => ?_) (fun hb83 => ?_)
                  · skip
                    refine Aw.seq (Aw.region ?_)
                    refine AwOps.v hT rfl ?_
                    refine AwOps.v hT rfl ?_
                    refine AwOps.nil ?_
                    refine Aw.ret ?_
                    refine ⟨_, [], rfl, trivial, ?_⟩
                    exact cov_of (by simp only [show (p.hasIssuer) = true from hb15, show (nmatch l.issuer p.issuer) = true by simpa using hb22, show (l.hasScope) = true from hb25, show (nmatch l.issuer c.issuer) = false by simpa using hb36, show (l.scope.indirect) = true by simpa using hb39, show (decide ((l.scope.names.length : Int) > 0)) = false from hb51, show (l.scope.onlyUser) = false from hb61, show (l.scope.onlyCA) = false from hb70, show (band (allR p.reasons) (allR l.scope.reasons) == 0) = true from hb83, covS, covN, covM, if_true, if_false, Bool.false_eq_true, Bool.true_and, Bool.false_and, Bool.true_or, Bool.false_or, Bool.or_true, Bool.and_true, Bool.or_false, Bool.and_false, Bool.not_true, Bool.not_false] <;> first | done | rfl | (simp; done))
                  · skip
                    refine Aw.skip (Aw.seq (Aw.region ?_))
                    iterate 3 refine AwOps.v hT rfl ?_
                    refine AwOps.nil ?_
                    refine Aw.ret ?_
                    refine ⟨_, [], rfl, trivial, ?_⟩
                    exact cov_of (by simp only [show (p.hasIssuer) = true from hb15, show (nmatch l.issuer p.issuer) = true by simpa using hb22, show (l.hasScope) = true from hb25, show (nmatch l.issuer c.issuer) = false by simpa using hb36, show (l.scope.indirect) = true by simpa using hb39, show (decide ((l.scope.names.length : Int) > 0)) = false from hb51, show (l.scope.onlyUser) = false from hb61, show (l.scope.onlyCA) = false from hb70, show (band (allR p.reasons) (allR l.scope.reasons) == 0) = false from hb83, covS, covN, covM, if_true, if_false, Bool.false_eq_true, Bool.true_and, Bool.false_and, Bool.true_or, Bool.false_or, Bool.or_true, Bool.and_true, Bool.or_false, Bool.and_false, Bool.not_true, Bool.not_false] <;> first | done | rfl | (simp; done))
        · skip
          iterate 3 refine AwOps.v hT rfl ?_
          refine AwOps.nil (Aw.condF rfl (Aw.skip (Aw.seq (Aw.region ?_))))
          refine AwOps.v hT rfl ?_
          refine AwOps.v hT rfl ?_
          refine AwOps.cl (F173 _) [] rfl ⟨⟨rfl, rfl⟩, trivial⟩ trivial rfl ?_   -- certpathref26.all
          rintro _ _ rfl
          refine AwOps.v hT rfl ?_
          refine AwOps.nil (Aw.seq (Aw.seq (Aw.region ?_)))
          refine AwOps.v hT rfl ?_
          refine AwOps.v hT rfl ?_
          refine AwOps.turn (Less.say (t := 44) (B := sc (.bool true)) rfl (by rw [show (l.hasScope) = true by simpa using hb25])) ?_
          refine AwOps.nil (Aw.condT rfl (Aw.seq (Aw.region ?_)))
          refine AwOps.v hT rfl ?_
          refine AwOps.v hT rfl ?_
          refine AwOps.eff hT rfl ?_
          refine AwOps.eff hT rfl ?_
          refine AwOps.nil (Aw.seq (Aw.seq (Aw.region ?_)))
          iterate 5 refine AwOps.v hT rfl ?_
          refine AwOps.split (t := 51) rfl (fun hb51 => ?_) (fun hb51 => ?_)
          · skip
            replace hb51 : decide ((l.scope.names.length : Int) > 0) = true := by simpa using hb51
            iterate 3 refine AwOps.v hT rfl ?_
            refine AwOps.cl (F174 _ _ hl.2 hp) [] rfl ⟨⟨rfl, rfl⟩, ⟨rfl, rfl⟩, trivial⟩ trivial rfl ?_   -- certpathref26.fits
            rintro _ _ rfl
            iterate 3 refine AwOps.v hT rfl ?_
            refine AwOps.split (t := 58) rfl (fun hb58 => ?_) (fun hb58 => ?_)
            · skip
              iterate 18 refine AwOps.v hT rfl ?_
              refine AwOps.nil (Aw.condT rfl (Aw.seq (Aw.region ?_)))
              refine AwOps.v hT rfl ?_
              refine AwOps.v hT rfl ?_
              refine AwOps.nil ?_
              refine Aw.ret ?_
              refine ⟨_, [], rfl, trivial, ?_⟩
              exact cov_of (by simp only [show (p.hasIssuer) = true from hb15, show (nmatch l.issuer p.issuer) = true by simpa using hb22, show (l.hasScope) = true from hb25, show (nmatch l.issuer c.issuer) = true by simpa using hb36, show (decide ((l.scope.names.length : Int) > 0)) = true from hb51, show (l.scope.names.any fun g => fitsB g p) = false by simpa using hb58, covS, covN, covM, if_true, if_false, Bool.false_eq_true, Bool.true_and, Bool.false_and, Bool.true_or, Bool.false_or, Bool.or_true, Bool.and_true, Bool.or_false, Bool.and_false, Bool.not_true, Bool.not_false] <;> first | done | rfl | (simp; done))
            · skip
              iterate 3 refine AwOps.v hT rfl ?_
              refine AwOps.split (t := 61) rfl (fun hb61 => ?_) (fun hb61 => ?_)
              · skip
                iterate 6 refine AwOps.v hT rfl ?_
                refine AwOps.split (t := 67) rfl (fun hb67 => ?_) (fun hb67 => ?_)
                · skip
                  iterate 9 refine AwOps.v hT rfl ?_
                  refine AwOps.nil (Aw.condT rfl (Aw.seq (Aw.region ?_)))
                  refine AwOps.v hT rfl ?_
                  refine AwOps.v hT rfl ?_
                  refine AwOps.nil ?_
                  refine Aw.ret ?_
                  refine ⟨_, [], rfl, trivial, ?_⟩
                  exact cov_of (by simp only [show (p.hasIssuer) = true from hb15, show (nmatch l.issuer p.issuer) = true by simpa using hb22, show (l.hasScope) = true from hb25, show (nmatch l.issuer c.issuer) = true by simpa using hb36, show (decide ((l.scope.names.length : Int) > 0)) = true from hb51, show (l.scope.names.any fun g => fitsB g p) = true by simpa using hb58, show (l.scope.onlyUser) = true from hb61, show (c.info.ca) = true from hb67, covS, covN, covM, if_true, if_false, Bool.false_eq_true, Bool.true_and, Bool.false_and, Bool.true_or, Bool.false_or, Bool.or_true, Bool.and_true, Bool.or_false, Bool.and_false, Bool.not_true, Bool.not_false] <;> first | done | rfl | (simp; done))
                · skip
                  iterate 3 refine AwOps.v hT rfl ?_
                  refine AwOps.split (t := 70) rfl (fun hb70 => ?_) (fun hb70 => ?_)
                  · skip
                    iterate 4 refine AwOps.v hT rfl ?_
                    refine AwOps.turn (Less.say (t := 74) (B := sc (.bool true)) rfl (by rw [show (!c.info.ca) = true by simpa using hb67])) ?_
                    refine AwOps.v hT rfl ?_
                    refine AwOps.v hT rfl ?_
                    refine AwOps.nil (Aw.condT rfl (Aw.seq (Aw.region ?_)))
                    refine AwOps.v hT rfl ?_
                    refine AwOps.v hT rfl ?_
                    refine AwOps.nil ?_
                    refine Aw.ret ?_
                    refine ⟨_, [], rfl, trivial, ?_⟩
                    exact cov_of (by simp only [show (p.hasIssuer) = true from hb15, show (nmatch l.issuer p.issuer) = true by simpa using hb22, show (l.hasScope) = true from hb25, show (nmatch l.issuer c.issuer) = true by simpa using hb36, show (decide ((l.scope.names.length : Int) > 0)) = true from hb51, show (l.scope.names.any fun g => fitsB g p) = true by simpa using hb58, show (l.scope.onlyUser) = true from hb61, show (c.info.ca) = false from hb67, show (l.scope.onlyCA) = true from hb70, covS, covN, covM, if_true, if_false, Bool.false_eq_true, Bool.true_and, Bool.false_and, Bool.true_or, Bool.false_or, Bool.or_true, Bool.and_true, Bool.or_false, Bool.and_false, Bool.not_true, Bool.not_false] <;> first | done | rfl | (simp; done))
                  · skip
                    iterate 6 refine AwOps.v hT rfl ?_
                    refine AwOps.nil (Aw.condF rfl (Aw.skip (Aw.region ?_)))
                    iterate 3 refine AwOps.v hT rfl ?_
                    refine AwOps.cl (F173 _) [] rfl ⟨⟨rfl, rfl⟩, trivial⟩ trivial rfl ?_   -- certpathref26.all
                    rintro _ _ rfl
                    refine AwOps.bin rfl _ rfl band_run ?_
                    refine AwOps.v hT rfl ?_
                    refine AwOps.nil (Aw.seq (Aw.seq (Aw.region ?_)))
                    refine AwOps.v hT rfl ?_
                    refine AwOps.v hT rfl ?_
                    refine AwOps.nil ?_
                    refine Aw.tst rfl (fun hb83 => ?_) (fun hb83 => ?_)
                    · skip
                      refine Aw.seq (Aw.region ?_)
                      refine AwOps.v hT rfl ?_
                      refine AwOps.v hT rfl ?_
                      refine AwOps.nil ?_
                      refine Aw.ret ?_
                      refine ⟨_, [], rfl, trivial, ?_⟩
                      exact cov_of (by simp only [show (p.hasIssuer) = true from hb15, show (nmatch l.issuer p.issuer) = true by simpa using hb22, show (l.hasScope) = true from hb25, show (nmatch l.issuer c.issuer) = true by simpa using hb36, show (decide ((l.scope.names.length : Int) > 0)) = true from hb51, show (l.scope.names.any fun g => fitsB g p) = true by simpa using hb58, show (l.scope.onlyUser) = true from hb61, show (c.info.ca) = false from hb67, show (l.scope.onlyCA) = false from hb70, show (band (allR p.reasons) (allR l.scope.reasons) == 0) = true from hb83, covS, covN, covM, if_true, if_false, Bool.false_eq_true, Bool.true_and, Bool.false_and, Bool.true_or, Bool.false_or, Bool.or_true, Bool.and_true, Bool.or_false, Bool.and_false, Bool.not_true, Bool.not_false] <;> first | done | rfl | (simp; done))
                    · skip
                      refine Aw.skip (Aw.seq (Aw.region ?_))
                      iterate 3 refine AwOps.v hT rfl ?_
                      refine AwOps.nil ?_
                      refine Aw.ret ?_
                      refine ⟨_, [], rfl, trivial, ?_⟩
                      exact cov_of (by simp only [show (p.hasIssuer) = true from hb15, show (nmatch l.issuer p.issuer) = true by simpa using hb22, show (l.hasScope) = true from hb25, show (nmatch l.issuer c.issuer) = true by simpa using hb36, show (decide ((l.scope.names.length : Int) > 0)) = true from hb51, show (l.scope.names.any fun g => fitsB g p) = true by simpa using hb58, show (l.scope.onlyUser) = true from hb61, show (c.info.ca) = false from hb67, show (l.scope.onlyCA) = false from hb70, show (band (allR p.reasons) (allR l.scope.reasons) == 0) = false from hb83, covS, covN, covM, if_true, if_false, Bool.false_eq_true, Bool.true_and, Bool.false_and, Bool.true_or, Bool.false_or, Bool.or_true, Bool.and_true, Bool.or_false, Bool.and_false, Bool.not_true, Bool.not_false] <;> first | done | rfl | (simp; done))
              · skip
                iterate 9 refine AwOps.v hT rfl ?_
                refine AwOps.split (t := 70) rfl (fun hb70 => ?_) (fun hb70 => ?_)
                · skip
                  iterate 6 refine AwOps.v hT rfl ?_
                  refine AwOps.nil ?_
                  refine Aw.tst rfl (fun hb76 => ?_) (fun hb76 => ?_)
                  · skip
                    refine Aw.seq (Aw.region ?_)
                    refine AwOps.v hT rfl ?_
                    refine AwOps.v hT rfl ?_
                    refine AwOps.nil ?_
                    refine Aw.ret ?_
                    refine ⟨_, [], rfl, trivial, ?_⟩
                    exact cov_of (by simp only [show (p.hasIssuer) = true from hb15, show (nmatch l.issuer p.issuer) = true by simpa using hb22, show (l.hasScope) = true from hb25, show (nmatch l.issuer c.issuer) = true by simpa using hb36, show (decide ((l.scope.names.length : Int) > 0)) = true from hb51, show (l.scope.names.any fun g => fitsB g p) = true by simpa using hb58, show (l.scope.onlyUser) = false from hb61, show (l.scope.onlyCA) = true from hb70, show (c.info.ca) = false by simpa using hb76, covS, covN, covM, if_true, if_false, Bool.false_eq_true, Bool.true_and, Bool.false_and, Bool.true_or, Bool.false_or, Bool.or_true, Bool.and_true, Bool.or_false, Bool.and_false, Bool.not_true, Bool.not_false] <;> first | done | rfl | (simp; done))
                  · skip
                    refine Aw.skip (Aw.region ?_)
                    iterate 3 refine AwOps.v hT rfl ?_
                    refine AwOps.cl (F173 _) [] rfl ⟨⟨rfl, rfl⟩, trivial⟩ trivial rfl ?_   -- certpathref26.all
                    rintro _ _ rfl
                    refine AwOps.bin rfl _ rfl band_run ?_
                    refine AwOps.v hT rfl ?_
                    refine AwOps.nil (Aw.seq (Aw.seq (Aw.region ?_)))
                    refine AwOps.v hT rfl ?_
                    refine AwOps.v hT rfl ?_
                    refine AwOps.nil ?_
                    refine Aw.tst rfl (fun hb83 => ?_) (fun hb83 => ?_)
                    · skip
                      refine Aw.seq (Aw.region ?_)
                      refine AwOps.v hT rfl ?_
                      refine AwOps.v hT rfl ?_
                      refine AwOps.nil ?_
                      refine Aw.ret ?_
                      refine ⟨_, [], rfl, trivial, ?_⟩
                      exact cov_of (by simp only [show (p.hasIssuer) = true from hb15, show (nmatch l.issuer p.issuer) = true by simpa using hb22, show (l.hasScope) = true from hb25, show (nmatch l.issuer c.issuer) = true by simpa using hb36, show (decide ((l.scope.names.length : Int) > 0)) = true from hb51, show (l.scope.names.any fun g => fitsB g p) = true by simpa using hb58, show (l.scope.onlyUser) = false from hb61, show (l.scope.onlyCA) = true from hb70, show (c.info.ca) = true by simpa using hb76, show (band (allR p.reasons) (allR l.scope.reasons) == 0) = true from hb83, covS, covN, covM, if_true, if_false, Bool.false_eq_true, Bool.true_and, Bool.false_and, Bool.true_or, Bool.false_or, Bool.or_true, Bool.and_true, Bool.or_false, Bool.and_false, Bool.not_true, Bool.not_false] <;> first | done | rfl | (simp; done))
                    · skip
                      refine Aw.skip (Aw.seq (Aw.region ?_))
                      iterate 3 refine AwOps.v hT rfl ?_
                      refine AwOps.nil ?_
                      refine Aw.ret ?_
                      refine ⟨_, [], rfl, trivial, ?_⟩
                      exact cov_of (by simp only [show (p.hasIssuer) = true from hb15, show (nmatch l.issuer p.issuer) = true by simpa using hb22, show (l.hasScope) = true from hb25, show (nmatch l.issuer c.issuer) = true by simpa using hb36, show (decide ((l.scope.names.length : Int) > 0)) = true from hb51, show (l.scope.names.any fun g => fitsB g p) = true by simpa using hb58, show (l.scope.onlyUser) = false from hb61, show (l.scope.onlyCA) = true from hb70, show (c.info.ca) = true by simpa using hb76, show (band (allR p.reasons) (allR l.scope.reasons) == 0) = false from hb83, covS, covN, covM, if_true, if_false, Bool.false_eq_true, Bool.true_and, Bool.false_and, Bool.true_or, Bool.false_or, Bool.or_true, Bool.and_true, Bool.or_false, Bool.and_false, Bool.not_true, Bool.not_false] <;> first | done | rfl | (simp; done))
                · skip
                  iterate 6 refine AwOps.v hT rfl ?_
                  refine AwOps.nil (Aw.condF rfl (Aw.skip (Aw.region ?_)))
                  iterate 3 refine AwOps.v hT rfl ?_
                  refine AwOps.cl (F173 _) [] rfl ⟨⟨rfl, rfl⟩, trivial⟩ trivial rfl ?_   -- certpathref26.all
                  rintro _ _ rfl
                  refine AwOps.bin rfl _ rfl band_run ?_
                  refine AwOps.v hT rfl ?_
                  refine AwOps.nil (Aw.seq (Aw.seq (Aw.region ?_)))
                  refine AwOps.v hT rfl ?_
                  refine AwOps.v hT rfl ?_
                  refine AwOps.nil ?_
                  refine Aw.tst rfl (fun hb83 => ?_) (fun hb83 => ?_)
                  · skip
                    refine Aw.seq (Aw.region ?_)
                    refine AwOps.v hT rfl ?_
                    refine AwOps.v hT rfl ?_
                    refine AwOps.nil ?_
                    refine Aw.ret ?_
                    refine ⟨_, [], rfl, trivial, ?_⟩
                    exact cov_of (by simp only [show (p.hasIssuer) = true from hb15, show (nmatch l.issuer p.issuer) = true by simpa using hb22, show (l.hasScope) = true from hb25, show (nmatch l.issuer c.issuer) = true by simpa using hb36, show (decide ((l.scope.names.length : Int) > 0)) = true from hb51, show (l.scope.names.any fun g => fitsB g p) = true by simpa using hb58, show (l.scope.onlyUser) = false from hb61, show (l.scope.onlyCA) = false from hb70, show (band (allR p.reasons) (allR l.scope.reasons) == 0) = true from hb83, covS, covN, covM, if_true, if_false, Bool.false_eq_true, Bool.true_and, Bool.false_and, Bool.true_or, Bool.false_or, Bool.or_true, Bool.and_true, Bool.or_false, Bool.and_false, Bool.not_true, Bool.not_false] <;> first | done | rfl | (simp; done))
                  · skip
                    refine Aw.skip (Aw.seq (Aw.region ?_))
                    iterate 3 refine AwOps.v hT rfl ?_
                    refine AwOps.nil ?_
                    refine Aw.ret ?_
                    refine ⟨_, [], rfl, trivial, ?_⟩
                    exact cov_of (by simp only [show (p.hasIssuer) = true from hb15, show (nmatch l.issuer p.issuer) = true by simpa using hb22, show (l.hasScope) = true from hb25, show (nmatch l.issuer c.issuer) = true by simpa using hb36, show (decide ((l.scope.names.length : Int) > 0)) = true from hb51, show (l.scope.names.any fun g => fitsB g p) = true by simpa using hb58, show (l.scope.onlyUser) = false from hb61, show (l.scope.onlyCA) = false from hb70, show (band (allR p.reasons) (allR l.scope.reasons) == 0) = false from hb83, covS, covN, covM, if_true, if_false, Bool.false_eq_true, Bool.true_and, Bool.false_and, Bool.true_or, Bool.false_or, Bool.or_true, Bool.and_true, Bool.or_false, Bool.and_false, Bool.not_true, Bool.not_false] <;> first | done | rfl | (simp; done))
          · skip
            replace hb51 : decide ((l.scope.names.length : Int) > 0) = false := by simpa using hb51
            iterate 10 refine AwOps.v hT rfl ?_
            refine AwOps.split (t := 61) rfl (fun hb61 => ?_) (fun hb61 => ?_)
            · skip
              iterate 6 refine AwOps.v hT rfl ?_
              refine AwOps.split (t := 67) rfl (fun hb67 => ?_) (fun hb67 => ?_)
              · skip
                iterate 9 refine AwOps.v hT rfl ?_
                refine AwOps.nil (Aw.condT rfl (Aw.seq (Aw.region ?_)))
                refine AwOps.v hT rfl ?_
                refine AwOps.v hT rfl ?_
                refine AwOps.nil ?_
                refine Aw.ret ?_
                refine ⟨_, [], rfl, trivial, ?_⟩
                exact cov_of (by simp only [show (p.hasIssuer) = true from hb15, show (nmatch l.issuer p.issuer) = true by simpa using hb22, show (l.hasScope) = true from hb25, show (nmatch l.issuer c.issuer) = true by simpa using hb36, show (decide ((l.scope.names.length : Int) > 0)) = false from hb51, show (l.scope.onlyUser) = true from hb61, show (c.info.ca) = true from hb67, covS, covN, covM, if_true, if_false, Bool.false_eq_true, Bool.true_and, Bool.false_and, Bool.true_or, Bool.false_or, Bool.or_true, Bool.and_true, Bool.or_false, Bool.and_false, Bool.not_true, Bool.not_false] <;> first | done | rfl | (simp; done))
              · skip
                iterate 3 refine AwOps.v hT rfl ?_
                refine AwOps.split (t := 70) rfl (fun hb70 => ?_) (fun hb70 => ?_)
                · skip
                  iterate 4 refine AwOps.v hT rfl ?_
                  refine AwOps.turn (Less.say (t := 74) (B := sc (.bool true)) rfl (by rw [show (!c.info.ca) = true by simpa using hb67])) ?_
                  refine AwOps.v hT rfl ?_
                  refine AwOps.v hT rfl ?_
                  refine AwOps.nil (Aw.condT rfl (Aw.seq (Aw.region ?_)))
                  refine AwOps.v hT rfl ?_
                  refine AwOps.v hT rfl ?_
                  refine AwOps.nil ?_
                  refine Aw.ret ?_
                  refine ⟨_, [], rfl, trivial, ?_⟩
                  exact cov_of (by simp only [show (p.hasIssuer) = true from hb15, show (nmatch l.issuer p.issuer) = true by simpa using hb22, show (l.hasScope) = true from hb25, show (nmatch l.issuer c.issuer) = true by simpa using hb36, show (decide ((l.scope.names.length : Int) > 0)) = false from hb51, show (l.scope.onlyUser) = true from hb61, show (c.info.ca) = false from hb67, show (l.scope.onlyCA) = true from hb70, covS, covN, covM, if_true, if_false, Bool.false_eq_true, Bool.true_and, Bool.false_and, Bool.true_or, Bool.false_or, Bool.or_true, Bool.and_true, Bool.or_false, Bool.and_false, Bool.not_true, Bool.not_false] <;> first | done | rfl | (simp; done))
                · skip
                  iterate 6 refine AwOps.v hT rfl ?_
                  refine AwOps.nil (Aw.condF rfl (Aw.skip (Aw.region ?_)))
                  iterate 3 refine AwOps.v hT rfl ?_
                  refine AwOps.cl (F173 _) [] rfl ⟨⟨rfl, rfl⟩, trivial⟩ trivial rfl ?_   -- certpathref26.all
                  rintro _ _ rfl
                  refine AwOps.bin rfl _ rfl band_run ?_
                  refine AwOps.v hT rfl ?_
                  refine AwOps.nil (Aw.seq (Aw.seq (Aw.region ?_)))
                  refine AwOps.v hT rfl ?_
                  refine AwOps.v hT rfl ?_
                  refine AwOps.nil ?_
                  refine Aw.tst rfl (fun hb83 => ?_) (fun hb83 => ?_)
                  · skip
                    refine Aw.seq (Aw.region ?_)
                    refine AwOps.v hT rfl ?_
                    refine AwOps.v hT rfl ?_
                    refine AwOps.nil ?_
                    refine Aw.ret ?_
                    refine ⟨_, [], rfl, trivial, ?_⟩
                    exact cov_of (by simp only [show (p.hasIssuer) = true from hb15, show (nmatch l.issuer p.issuer) = true by simpa using hb22, show (l.hasScope) = true from hb25, show (nmatch l.issuer c.issuer) = true by simpa using hb36, show (decide ((l.scope.names.length : Int) > 0)) = false from hb51, show (l.scope.onlyUser) = true from hb61, show (c.info.ca) = false from hb67, show (l.scope.onlyCA) = false from hb70, show (band (allR p.reasons) (allR l.scope.reasons) == 0) = true from hb83, covS, covN, covM, if_true, if_false, Bool.false_eq_true, Bool.true_and, Bool.false_and, Bool.true_or, Bool.false_or, Bool.or_true, Bool.and_true, Bool.or_false, Bool.and_false, Bool.not_true, Bool.not_false] <;> first | done | rfl | (simp; done))
                  · skip
                    refine Aw.skip (Aw.seq (Aw.region ?_))
                    iterate 3 refine AwOps.v hT rfl ?_
                    refine AwOps.nil ?_
                    refine Aw.ret ?_
                    refine ⟨_, [], rfl, trivial, ?_⟩
                    exact cov_of (by simp only [show (p.hasIssuer) = true from hb15, show (nmatch l.issuer p.issuer) = true by simpa using hb22, show (l.hasScope) = true from hb25, show (nmatch l.issuer c.issuer) = true by simpa using hb36, show (decide ((l.scope.names.length : Int) > 0)) = false from hb51, show (l.scope.onlyUser) = true from hb61, show (c.info.ca) = false from hb67, show (l.scope.onlyCA) = false from hb70, show (band (allR p.reasons) (allR l.scope.reasons) == 0) = false from hb83, covS, covN, covM, if_true, if_false, Bool.false_eq_true, Bool.true_and, Bool.false_and, Bool.true_or, Bool.false_or, Bool.or_true, Bool.and_true, Bool.or_false, Bool.and_false, Bool.not_true, Bool.not_false] <;> first | done | rfl | (simp; done))
            · skip
              iterate 9 refine AwOps.v hT rfl ?_
              refine AwOps.split (t := 70) rfl (fun hb70 => ?_) (fun hb70 => ?_)
              · skip
                iterate 6 refine AwOps.v hT rfl ?_
                refine AwOps.nil ?_
                refine Aw.tst rfl (fun hb76 => ?_) (fun hb76 => ?_)
                · skip
                  refine Aw.seq (Aw.region ?_)
                  refine AwOps.v hT rfl ?_
                  refine AwOps.v hT rfl ?_
                  refine AwOps.nil ?_
                  refine Aw.ret ?_
                  refine ⟨_, [], rfl, trivial, ?_⟩
                  exact cov_of (by simp only [show (p.hasIssuer) = true from hb15, show (nmatch l.issuer p.issuer) = true by simpa using hb22, show (l.hasScope) = true from hb25, show (nmatch l.issuer c.issuer) = true by simpa using hb36, show (decide ((l.scope.names.length : Int) > 0)) = false from hb51, show (l.scope.onlyUser) = false from hb61, show (l.scope.onlyCA) = true from hb70, show (c.info.ca) = false by simpa using hb76, covS, covN, covM, if_true, if_false, Bool.false_eq_true, Bool.true_and, Bool.false_and, Bool.true_or, Bool.false_or, Bool.or_true, Bool.and_true, Bool.or_false, Bool.and_false, Bool.not_true, Bool.not_false] <;> first | done | rfl | (simp; done))
                · skip
                  refine Aw.skip (Aw.region ?_)
                  iterate 3 refine AwOps.v hT rfl ?_
                  refine AwOps.cl (F173 _) [] rfl ⟨⟨rfl, rfl⟩, trivial⟩ trivial rfl ?_   -- certpathref26.all
                  rintro _ _ rfl
                  refine AwOps.bin rfl _ rfl band_run ?_
                  refine AwOps.v hT rfl ?_
                  refine AwOps.nil (Aw.seq (Aw.seq (Aw.region ?_)))
                  refine AwOps.v hT rfl ?_
                  refine AwOps.v hT rfl ?_
                  refine AwOps.nil ?_
                  refine Aw.tst rfl (fun hb83 => ?_) (fun hb83 => ?_)
                  · skip
                    refine Aw.seq (Aw.region ?_)
                    refine AwOps.v hT rfl ?_
                    refine AwOps.v hT rfl ?_
                    refine AwOps.nil ?_
                    refine Aw.ret ?_
                    refine ⟨_, [], rfl, trivial, ?_⟩
                    exact cov_of (by simp only [show (p.hasIssuer) = true from hb15, show (nmatch l.issuer p.issuer) = true by simpa using hb22, show (l.hasScope) = true from hb25, show (nmatch l.issuer c.issuer) = true by simpa using hb36, show (decide ((l.scope.names.length : Int) > 0)) = false from hb51, show (l.scope.onlyUser) = false from hb61, show (l.scope.onlyCA) = true from hb70, show (c.info.ca) = true by simpa using hb76, show (band (allR p.reasons) (allR l.scope.reasons) == 0) = true from hb83, covS, covN, covM, if_true, if_false, Bool.false_eq_true, Bool.true_and, Bool.false_and, Bool.true_or, Bool.false_or, Bool.or_true, Bool.and_true, Bool.or_false, Bool.and_false, Bool.not_true, Bool.not_false] <;> first | done | rfl | (simp; done))
                  · skip
                    refine Aw.skip (Aw.seq (Aw.region ?_))
                    iterate 3 refine AwOps.v hT rfl ?_
                    refine AwOps.nil ?_
                    refine Aw.ret ?_
                    refine ⟨_, [], rfl, trivial, ?_⟩
                    exact cov_of (by simp only [show (p.hasIssuer) = true from hb15, show (nmatch l.issuer p.issuer) = true by simpa using hb22, show (l.hasScope) = true from hb25, show (nmatch l.issuer c.issuer) = true by simpa using hb36, show (decide ((l.scope.names.length : Int) > 0)) = false from hb51, show (l.scope.onlyUser) = false from hb61, show (l.scope.onlyCA) = true from hb70, show (c.info.ca) = true by simpa using hb76, show (band (allR p.reasons) (allR l.scope.reasons) == 0) = false from hb83, covS, covN, covM, if_true, if_false, Bool.false_eq_true, Bool.true_and, Bool.false_and, Bool.true_or, Bool.false_or, Bool.or_true, Bool.and_true, Bool.or_false, Bool.and_false, Bool.not_true, Bool.not_false] <;> first | done | rfl | (simp; done))
              · skip
                iterate 6 refine AwOps.v hT rfl ?_
                refine AwOps.nil (Aw.condF rfl (Aw.skip (Aw.region ?_)))
                iterate 3 refine AwOps.v hT rfl ?_
                refine AwOps.cl (F173 _) [] rfl ⟨⟨rfl, rfl⟩, trivial⟩ trivial rfl ?_   -- certpathref26.all
                rintro _ _ rfl
                refine AwOps.bin rfl _ rfl band_run ?_
                refine AwOps.v hT rfl ?_
                refine AwOps.nil (Aw.seq (Aw.seq (Aw.region ?_)))
                refine AwOps.v hT rfl ?_
                refine AwOps.v hT rfl ?_
                refine AwOps.nil ?_
                refine Aw.tst rfl (fun hb83 => ?_) (fun hb83 => ?_)
                · skip
                  refine Aw.seq (Aw.region ?_)
                  refine AwOps.v hT rfl ?_
                  refine AwOps.v hT rfl ?_
                  refine AwOps.nil ?_
                  refine Aw.ret ?_
                  refine ⟨_, [], rfl, trivial, ?_⟩
                  exact cov_of (by simp only [show (p.hasIssuer) = true from hb15, show (nmatch l.issuer p.issuer) = true by simpa using hb22, show (l.hasScope) = true from hb25, show (nmatch l.issuer c.issuer) = true by simpa using hb36, show (decide ((l.scope.names.length : Int) > 0)) = false from hb51, show (l.scope.onlyUser) = false from hb61, show (l.scope.onlyCA) = false from hb70, show (band (allR p.reasons) (allR l.scope.reasons) == 0) = true from hb83, covS, covN, covM, if_true, if_false, Bool.false_eq_true, Bool.true_and, Bool.false_and, Bool.true_or, Bool.false_or, Bool.or_true, Bool.and_true, Bool.or_false, Bool.and_false, Bool.not_true, Bool.not_false] <;> first | done | rfl | (simp; done))
                · skip
                  refine Aw.skip (Aw.seq (Aw.region ?_))
                  iterate 3 refine AwOps.v hT rfl ?_
                  refine AwOps.nil ?_
                  refine Aw.ret ?_
                  refine ⟨_, [], rfl, trivial, ?_⟩
                  exact cov_of (by simp only [show (p.hasIssuer) = true from hb15, show (nmatch l.issuer p.issuer) = true by simpa using hb22, show (l.hasScope) = true from hb25, show (nmatch l.issuer c.issuer) = true by simpa using hb36, show (decide ((l.scope.names.length : Int) > 0)) = false from hb51, show (l.scope.onlyUser) = false from hb61, show (l.scope.onlyCA) = false from hb70, show (band (allR p.reasons) (allR l.scope.reasons) == 0) = false from hb83, covS, covN, covM, if_true, if_false, Bool.false_eq_true, Bool.true_and, Bool.false_and, Bool.true_or, Bool.false_or, Bool.or_true, Bool.and_true, Bool.or_false, Bool.and_false, Bool.not_true, Bool.not_false] <;> first | done | rfl | (simp; done))
      · skip
        iterate 5 refine AwOps.v hT rfl ?_
        refine AwOps.nil (Aw.seq (Aw.seq (Aw.region ?_)))
        iterate 4 refine AwOps.v hT rfl ?_
        refine AwOps.cl (MatchName_ok _ _ hl.1.1 hc.1) [] rfl ⟨⟨rfl, rfl⟩, ⟨rfl, rfl⟩, trivial⟩ trivial rfl ?_   -- certpathref07.MatchName
        rintro _ _ rfl
        refine AwOps.v hT rfl ?_
        refine AwOps.v hT rfl ?_
        refine AwOps.split (t := 36) rfl (fun hb36 => ?_) (fun hb36 => ?_)
        · skip
          iterate 3 refine AwOps.v hT rfl ?_
          refine AwOps.nil (Aw.condT rfl (Aw.seq (Aw.region ?_)))
          refine AwOps.v hT rfl ?_
          refine AwOps.v hT rfl ?_
          refine AwOps.nil ?_
          refine Aw.ret ?_
          refine ⟨_, [], rfl, trivial, ?_⟩
          exact cov_of (by simp only [show (p.hasIssuer) = true from hb15, show (nmatch l.issuer p.issuer) = true by simpa using hb22, show (l.hasScope) = false from hb25, show (nmatch l.issuer c.issuer) = false by simpa using hb36, covS, covN, covM, if_true, if_false, Bool.false_eq_true, Bool.true_and, Bool.false_and, Bool.true_or, Bool.false_or, Bool.or_true, Bool.and_true, Bool.or_false, Bool.and_false, Bool.not_true, Bool.not_false] <;> first | done | rfl | (simp; done))
        · skip
          iterate 3 refine AwOps.v hT rfl ?_
          refine AwOps.nil (Aw.condF rfl (Aw.skip (Aw.seq (Aw.region ?_))))
          refine AwOps.v hT rfl ?_
          refine AwOps.v hT rfl ?_
          refine AwOps.cl (F173 _) [] rfl ⟨⟨rfl, rfl⟩, trivial⟩ trivial rfl ?_   -- certpathref26.all
          rintro _ _ rfl
          refine AwOps.v hT rfl ?_
          refine AwOps.nil (Aw.seq (Aw.seq (Aw.region ?_)))
          refine AwOps.v hT rfl ?_
          refine AwOps.v hT rfl ?_
          refine AwOps.turn (Less.say (t := 44) (B := sc (.bool false)) rfl (by rw [show (l.hasScope) = false by simpa using hb25])) ?_
          refine AwOps.nil (Aw.condF rfl (Aw.skip (Aw.seq (Aw.seq (Aw.region ?_)))))
          refine AwOps.v hT rfl ?_
          refine AwOps.v hT rfl ?_
          refine AwOps.nil ?_
          refine Aw.tst rfl (fun hb83 => ?_) (fun hb83 => ?_)
          · skip
            refine Aw.seq (Aw.region ?_)
            refine AwOps.v hT rfl ?_
            refine AwOps.v hT rfl ?_
            refine AwOps.nil ?_
            refine Aw.ret ?_
            refine ⟨_, [], rfl, trivial, ?_⟩
            exact cov_of (by simp only [show (p.hasIssuer) = true from hb15, show (nmatch l.issuer p.issuer) = true by simpa using hb22, show (l.hasScope) = false from hb25, show (nmatch l.issuer c.issuer) = true by simpa using hb36, show (allR p.reasons == 0) = true from hb83, covS, covN, covM, if_true, if_false, Bool.false_eq_true, Bool.true_and, Bool.false_and, Bool.true_or, Bool.false_or, Bool.or_true, Bool.and_true, Bool.or_false, Bool.and_false, Bool.not_true, Bool.not_false] <;> first | done | rfl | (simp; done))
          · skip
            refine Aw.skip (Aw.seq (Aw.region ?_))
            iterate 3 refine AwOps.v hT rfl ?_
            refine AwOps.nil ?_
            refine Aw.ret ?_
            refine ⟨_, [], rfl, trivial, ?_⟩
            exact cov_of (by simp only [show (p.hasIssuer) = true from hb15, show (nmatch l.issuer p.issuer) = true by simpa using hb22, show (l.hasScope) = false from hb25, show (nmatch l.issuer c.issuer) = true by simpa using hb36, show (allR p.reasons == 0) = false from hb83, covS, covN, covM, if_true, if_false, Bool.false_eq_true, Bool.true_and, Bool.false_and, Bool.true_or, Bool.false_or, Bool.or_true, Bool.and_true, Bool.or_false, Bool.and_false, Bool.not_true, Bool.not_false] <;> first | done | rfl | (simp; done))
  · skip
    refine Aw.skip (Aw.seq (Aw.seq (Aw.region ?_)))
    iterate 3 refine AwOps.v hT rfl ?_
    refine AwOps.cl (MatchName_ok _ _ hl.1.1 (by first | exact hp.2.1 | exact hc.1)) [] rfl ⟨⟨rfl, rfl⟩, ⟨rfl, rfl⟩, trivial⟩ trivial rfl ?_   -- certpathref07.MatchName
    rintro _ _ rfl
    refine AwOps.v hT rfl ?_
    refine AwOps.nil ?_
    refine Aw.tst rfl (fun hb22 => ?_) (fun hb22 => ?_)
    · skip
      refine Aw.seq (Aw.region ?_)
      refine AwOps.v hT rfl ?_
      refine AwOps.v hT rfl ?_
      refine AwOps.nil ?_
      refine Aw.ret ?_
      refine ⟨_, [], rfl, trivial, ?_⟩
      exact cov_of (by simp only [show (p.hasIssuer) = false from hb15, show (nmatch l.issuer c.issuer) = false by simpa using hb22, covS, covN, covM, if_true, if_false, Bool.false_eq_true, Bool.true_and, Bool.false_and, Bool.true_or, Bool.false_or, Bool.or_true, Bool.and_true, Bool.or_false, Bool.and_false, Bool.not_true, Bool.not_false] <;> first | done | rfl | (simp; done))
    · skip
      refine Aw.skip (Aw.seq (Aw.region ?_))
      iterate 3 refine AwOps.v hT rfl ?_
      refine AwOps.split (t := 25) rfl (fun hb25 => ?_) (fun hb25 => ?_)
      · skip
        iterate 5 refine AwOps.v hT rfl ?_
        refine AwOps.nil (Aw.seq (Aw.seq (Aw.region ?_)))
        iterate 4 refine AwOps.v hT rfl ?_
        refine AwOps.cl (MatchName_ok _ _ hl.1.1 hc.1) [] rfl ⟨⟨rfl, rfl⟩, ⟨rfl, rfl⟩, trivial⟩ trivial rfl ?_   -- certpathref07.MatchName
        rintro _ _ rfl
        refine AwOps.v hT rfl ?_
        refine AwOps.v hT rfl ?_
        refine AwOps.turn (Less.say (t := 36) (B := sc (.bool false)) rfl (by rw [show (!nmatch l.issuer c.issuer) = false by simpa using hb22])) ?_
        iterate 3 refine AwOps.v hT rfl ?_
        refine AwOps.nil (Aw.condF rfl (Aw.skip (Aw.seq (Aw.region ?_))))
        refine AwOps.v hT rfl ?_
        refine AwOps.v hT rfl ?_
        refine AwOps.cl (F173 _) [] rfl ⟨⟨rfl, rfl⟩, trivial⟩ trivial rfl ?_   -- certpathref26.all
        rintro _ _ rfl
        refine AwOps.v hT rfl ?_
        refine AwOps.nil (Aw.seq (Aw.seq (Aw.region ?_)))
        refine AwOps.v hT rfl ?_
        refine AwOps.v hT rfl ?_
        refine AwOps.turn (Less.say (t := 44) (B := sc (.bool true)) rfl (by rw [show (l.hasScope) = true by simpa using hb25])) ?_
        refine AwOps.nil (Aw.condT rfl (Aw.seq (Aw.region ?_)))
        refine AwOps.v hT rfl ?_
        refine AwOps.v hT rfl ?_
        refine AwOps.eff hT rfl ?_
        refine AwOps.eff hT rfl ?_
        refine AwOps.nil (Aw.seq (Aw.seq (Aw.region ?_)))
        iterate 5 refine AwOps.v hT rfl ?_
        refine AwOps.split (t := 51) rfl (fun hb51 => ?_) (fun hb51 => ?_)
        · skip
          replace hb51 : decide ((l.scope.names.length : Int) > 0) = true := by simpa using hb51
          iterate 3 refine AwOps.v hT rfl ?_
          refine AwOps.cl (F174 _ _ hl.2 hp) [] rfl ⟨⟨rfl, rfl⟩, ⟨rfl, rfl⟩, trivial⟩ trivial rfl ?_   -- certpathref26.fits
          rintro _ _ rfl
          iterate 3 refine AwOps.v hT rfl ?_
          refine AwOps.split (t := 58) rfl (fun hb58 => ?_) (fun hb58 => ?_)
          · skip
            iterate 18 refine AwOps.v hT rfl ?_
            refine AwOps.nil (Aw.condT rfl (Aw.seq (Aw.region ?_)))
            refine AwOps.v hT rfl ?_
            refine AwOps.v hT rfl ?_
            refine AwOps.nil ?_
            refine Aw.ret ?_
            refine ⟨_, [], rfl, trivial, ?_⟩
            exact cov_of (by simp only [show (p.hasIssuer) = false from hb15, show (nmatch l.issuer c.issuer) = true by simpa using hb22, show (l.hasScope) = true from hb25, show (decide ((l.scope.names.length : Int) > 0)) = true from hb51, show (l.scope.names.any fun g => fitsB g p) = false by simpa using hb58, covS, covN, covM, if_true, if_false, Bool.false_eq_true, Bool.true_and, Bool.false_and, Bool.true_or, Bool.false_or, Bool.or_true, Bool.and_true, Bool.or_false, Bool.and_false, Bool.not_true, Bool.not_false] <;> first | done | rfl | (simp; done))
          · skip
            iterate 3 refine AwOps.v hT rfl ?_
            refine AwOps.split (t := 61) rfl (fun hb61 => ?_) (fun hb61 => ?_)
            · skip
              iterate 6 refine AwOps.v hT rfl ?_
              refine AwOps.split (t := 67) rfl (fun hb67 => ?_) (fun hb67 => ?_)
              · skip
                iterate 9 refine AwOps.v hT rfl ?_
                refine AwOps.nil (Aw.condT rfl (Aw.seq (Aw.region ?_)))
                refine AwOps.v hT rfl ?_
                refine AwOps.v hT rfl ?_
                refine AwOps.nil ?_
                refine Aw.ret ?_
                refine ⟨_, [], rfl, trivial, ?_⟩
                exact cov_of (by simp only [show (p.hasIssuer) = false from hb15, show (nmatch l.issuer c.issuer) = true by simpa using hb22, show (l.hasScope) = true from hb25, show (decide ((l.scope.names.length : Int) > 0)) = true from hb51, show (l.scope.names.any fun g => fitsB g p) = true by simpa using hb58, show (l.scope.onlyUser) = true from hb61, show (c.info.ca) = true from hb67, covS, covN, covM, if_true, if_false, Bool.false_eq_true, Bool.true_and, Bool.false_and, Bool.true_or, Bool.false_or, Bool.or_true, Bool.and_true, Bool.or_false, Bool.and_false, Bool.not_true, Bool.not_false] <;> first | done | rfl | (simp; done))
              · skip
                iterate 3 refine AwOps.v hT rfl ?_
                refine AwOps.split (t := 70) rfl (fun hb70 => ?_) (fun hb70 => ?_)
                · skip
                  iterate 4 refine AwOps.v hT rfl ?_
                  refine AwOps.turn (Less.say (t := 74) (B := sc (.bool true)) rfl (by rw [show (!c.info.ca) = true by simpa using hb67])) ?_
                  refine AwOps.v hT rfl ?_
                  refine AwOps.v hT rfl ?_
                  refine AwOps.nil (Aw.condT rfl (Aw.seq (Aw.region ?_)))
                  refine AwOps.v hT rfl ?_
                  refine AwOps.v hT rfl ?_
                  refine AwOps.nil ?_
                  refine Aw.ret ?_
                  refine ⟨_, [], rfl, trivial, ?_⟩
                  exact cov_of (by simp only [show (p.hasIssuer) = false from hb15, show (nmatch l.issuer c.issuer) = true by simpa using hb22, show (l.hasScope) = true from hb25, show (decide ((l.scope.names.length : Int) > 0)) = true from hb51, show (l.scope.names.any fun g => fitsB g p) = true by simpa using hb58, show (l.scope.onlyUser) = true from hb61, show (c.info.ca) = false from hb67, show (l.scope.onlyCA) = true from hb70, covS, covN, covM, if_true, if_false, Bool.false_eq_true, Bool.true_and, Bool.false_and, Bool.true_or, Bool.false_or, Bool.or_true, Bool.and_true, Bool.or_false, Bool.and_false, Bool.not_true, Bool.not_false] <;> first | done | rfl | (simp; done))
                · skip
                  iterate 6 refine AwOps.v hT rfl ?_
                  refine AwOps.nil (Aw.condF rfl (Aw.skip (Aw.region ?_)))
                  iterate 3 refine AwOps.v hT rfl ?_
                  refine AwOps.cl (F173 _) [] rfl ⟨⟨rfl, rfl⟩, trivial⟩ trivial rfl ?_   -- certpathref26.all
                  rintro _ _ rfl
                  refine AwOps.bin rfl _ rfl band_run ?_
                  refine AwOps.v hT rfl ?_
                  refine AwOps.nil (Aw.seq (Aw.seq (Aw.region ?_)))
                  refine AwOps.v hT rfl ?_
                  refine AwOps.v hT rfl ?_
                  refine AwOps.nil ?_
                  refine Aw.tst rfl (fun hb83 => ?_) (fun hb83 => ?_)
                  · skip
                    refine Aw.seq (Aw.region ?_)
                    refine AwOps.v hT rfl ?_
                    refine AwOps.v hT rfl ?_
                    refine AwOps.nil ?_
                    refine Aw.ret ?_
                    refine ⟨_, [], rfl, trivial, ?_⟩
                    exact cov_of (by simp only [show (p.hasIssuer) = false from hb15, show (nmatch l.issuer c.issuer) = true by simpa using hb22, show (l.hasScope) = true from hb25, show (decide ((l.scope.names.length : Int) > 0)) = true from hb51, show (l.scope.names.any fun g => fitsB g p) = true by simpa using hb58, show (l.scope.onlyUser) = true from hb61, show (c.info.ca) = false from hb67, show (l.scope.onlyCA) = false from hb70, show (band (allR p.reasons) (allR l.scope.reasons) == 0) = true from hb83, covS, covN, covM, if_true, if_false, Bool.false_eq_true, Bool.true_and, Bool.false_and, Bool.true_or, Bool.false_or, Bool.or_true, Bool.and_true, Bool.or_false, Bool.and_false, Bool.not_true, Bool.not_false] <;> first | done | rfl | (simp; done))
                  · skip
                    refine Aw.skip (Aw.seq (Aw.region ?_))
                    iterate 3 refine AwOps.v hT rfl ?_
                    refine AwOps.nil ?_
                    refine Aw.ret ?_
                    refine ⟨_, [], rfl, trivial, ?_⟩
                    exact cov_of (by simp only [show (p.hasIssuer) = false from hb15, show (nmatch l.issuer c.issuer) = true by simpa using hb22, show (l.hasScope) = true from hb25, show (decide ((l.scope.names.length : Int) > 0)) = true from hb51, show (l.scope.names.any fun g => fitsB g p) = true by simpa using hb58, show (l.scope.onlyUser) = true from hb61, show (c.info.ca) = false from hb67, show (l.scope.onlyCA) = false from hb70, show (band (allR p.reasons) (allR l.scope.reasons) == 0) = false from hb83, covS, covN, covM, if_true, if_false, Bool.false_eq_true, Bool.true_and, Bool.false_and, Bool.true_or, Bool.false_or, Bool.or_true, Bool.and_true, Bool.or_false, Bool.and_false, Bool.not_true, Bool.not_false] <;> first | done | rfl | (simp; done))
            · skip
              iterate 9 refine AwOps.v hT rfl ?_
              refine AwOps.split (t := 70) rfl (fun hb70 => ?_) (fun hb70 => ?_)
              · skip
                iterate 6 refine AwOps.v hT rfl ?_
                refine AwOps.nil ?_
                refine Aw.tst rfl (fun hb76 => ?_) (fun hb76 => ?_)
                · skip
                  refine Aw.seq (Aw.region ?_)
                  refine AwOps.v hT rfl ?_
                  refine AwOps.v hT rfl ?_
                  refine AwOps.nil ?_
                  refine Aw.ret ?_
                  refine ⟨_, [], rfl, trivial, ?_⟩
                  exact cov_of (by simp only [show (p.hasIssuer) = false from hb15, show (nmatch l.issuer c.issuer) = true by simpa using hb22, show (l.hasScope) = true from hb25, show (decide ((l.scope.names.length : Int) > 0)) = true from hb51, show (l.scope.names.any fun g => fitsB g p) = true by simpa using hb58, show (l.scope.onlyUser) = false from hb61, show (l.scope.onlyCA) = true from hb70, show (c.info.ca) = false by simpa using hb76, covS, covN, covM, if_true, if_false, Bool.false_eq_true, Bool.true_and, Bool.false_and, Bool.true_or, Bool.false_or, Bool.or_true, Bool.and_true, Bool.or_false, Bool.and_false, Bool.not_true, Bool.not_false] <;> first | done | rfl | (simp; done))
                · skip
                  refine Aw.skip (Aw.region ?_)
                  iterate 3 refine AwOps.v hT rfl ?_
                  refine AwOps.cl (F173 _) [] rfl ⟨⟨rfl, rfl⟩, trivial⟩ trivial rfl ?_   -- certpathref26.all
                  rintro _ _ rfl
                  refine AwOps.bin rfl _ rfl band_run ?_
                  refine AwOps.v hT rfl ?_
                  refine AwOps.nil (Aw.seq (Aw.seq (Aw.region ?_)))
                  refine AwOps.v hT rfl ?_
                  refine AwOps.v hT rfl ?_
                  refine AwOps.nil ?_
                  refine Aw.tst rfl (fun hb83 => ?_) (fun hb83 => ?_)
                  · skip
                    refine Aw.seq (Aw.region ?_)
                    refine AwOps.v hT rfl ?_
                    refine AwOps.v hT rfl ?_
                    refine AwOps.nil ?_
                    refine Aw.ret ?_
                    refine ⟨_, [], rfl, trivial, ?_⟩
                    exact cov_of (by simp only [show (p.hasIssuer) = false from hb15, show (nmatch l.issuer c.issuer) = true by simpa using hb22, show (l.hasScope) = true from hb25, show (decide ((l.scope.names.length : Int) > 0)) = true from hb51, show (l.scope.names.any fun g => fitsB g p) = true by simpa using hb58, show (l.scope.onlyUser) = false from hb61, show (l.scope.onlyCA) = true from hb70, show (c.info.ca) = true by simpa using hb76, show (band (allR p.reasons) (allR l.scope.reasons) == 0) = true from hb83, covS, covN, covM, if_true, if_false, Bool.false_eq_true, Bool.true_and, Bool.false_and, Bool.true_or, Bool.false_or, Bool.or_true, Bool.and_true, Bool.or_false, Bool.and_false, Bool.not_true, Bool.not_false] <;> first | done | rfl | (simp; done))
                  · skip
                    refine Aw.skip (Aw.seq (Aw.region ?_))
                    iterate 3 refine AwOps.v hT rfl ?_
                    refine AwOps.nil ?_
                    refine Aw.ret ?_
                    refine ⟨_, [], rfl, trivial, ?_⟩
                    exact cov_of (by simp only [show (p.hasIssuer) = false from hb15, show (nmatch l.issuer c.issuer) = true by simpa using hb22, show (l.hasScope) = true from hb25, show (decide ((l.scope.names.length : Int) > 0)) = true from hb51, show (l.scope.names.any fun g => fitsB g p) = true by simpa using hb58, show (l.scope.onlyUser) = false from hb61, show (l.scope.onlyCA) = true from hb70, show (c.info.ca) = true by simpa using hb76, show (band (allR p.reasons) (allR l.scope.reasons) == 0) = false from hb83, covS, covN, covM, if_true, if_false, Bool.false_eq_true, Bool.true_and, Bool.false_and, Bool.true_or, Bool.false_or, Bool.or_true, Bool.and_true, Bool.or_false, Bool.and_false, Bool.not_true, Bool.not_false] <;> first | done | rfl | (simp; done))
              · skip
                iterate 6 refine AwOps.v hT rfl ?_
                refine AwOps.nil (Aw.condF rfl (Aw.skip (Aw.region ?_)))
                iterate 3 refine AwOps.v hT rfl ?_
                refine AwOps.cl (F173 _) [] rfl ⟨⟨rfl, rfl⟩, trivial⟩ trivial rfl ?_   -- certpathref26.all
                rintro _ _ rfl
                refine AwOps.bin rfl _ rfl band_run ?_
                refine AwOps.v hT rfl ?_
                refine AwOps.nil (Aw.seq (Aw.seq (Aw.region ?_)))
                refine AwOps.v hT rfl ?_
                refine AwOps.v hT rfl ?_
                refine AwOps.nil ?_
                refine Aw.tst rfl (fun hb83 => ?_) (fun hb83 => ?_)
                · skip
                  refine Aw.seq (Aw.region ?_)
                  refine AwOps.v hT rfl ?_
                  refine AwOps.v hT rfl ?_
                  refine AwOps.nil ?_
                  refine Aw.ret ?_
                  refine ⟨_, [], rfl, trivial, ?_⟩
                  exact cov_of (by simp only [show (p.hasIssuer) = false from hb15, show (nmatch l.issuer c.issuer) = true by simpa using hb22, show (l.hasScope) = true from hb25, show (decide ((l.scope.names.length : Int) > 0)) = true from hb51, show (l.scope.names.any fun g => fitsB g p) = true by simpa using hb58, show (l.scope.onlyUser) = false from hb61, show (l.scope.onlyCA) = false from hb70, show (band (allR p.reasons) (allR l.scope.reasons) == 0) = true from hb83, covS, covN, covM, if_true, if_false, Bool.false_eq_true, Bool.true_and, Bool.false_and, Bool.true_or, Bool.false_or, Bool.or_true, Bool.and_true, Bool.or_false, Bool.and_false, Bool.not_true, Bool.not_false] <;> first | done | rfl | (simp; done))
                · skip
                  refine Aw.skip (Aw.seq (Aw.region ?_))
                  iterate 3 refine AwOps.v hT rfl ?_
                  refine AwOps.nil ?_
                  refine Aw.ret ?_
                  refine ⟨_, [], rfl, trivial, ?_⟩
                  exact cov_of (by simp only [show (p.hasIssuer) = false from hb15, show (nmatch l.issuer c.issuer) = true by simpa using hb22, show (l.hasScope) = true from hb25, show (decide ((l.scope.names.length : Int) > 0)) = true from hb51, show (l.scope.names.any fun g => fitsB g p) = true by simpa using hb58, show (l.scope.onlyUser) = false from hb61, show (l.scope.onlyCA) = false from hb70, show (band (allR p.reasons) (allR l.scope.reasons) == 0) = false from hb83, covS, covN, covM, if_true, if_false, Bool.false_eq_true, Bool.true_and, Bool.false_and, Bool.true_or, Bool.false_or, Bool.or_true, Bool.and_true, Bool.or_false, Bool.and_false, Bool.not_true, Bool.not_false] <;> first | done | rfl | (simp; done))
        · skip
          replace hb51 : decide ((l.scope.names.length : Int) > 0) = false := by simpa using hb51
          iterate 10 refine AwOps.v hT rfl ?_
          refine AwOps.split (t := 61) rfl (fun hb61 => ?_) (fun hb61 => ?_)
          · skip
            iterate 6 refine AwOps.v hT rfl ?_
            refine AwOps.split (t := 67) rfl (fun hb67 => ?_) (fun hb67 => ?_)
            · skip
              iterate 9 refine AwOps.v hT rfl ?_
              refine AwOps.nil (Aw.condT rfl (Aw.seq (Aw.region ?_)))
              refine AwOps.v hT rfl ?_
              refine AwOps.v hT rfl ?_
              refine AwOps.nil ?_
              refine Aw.ret ?_
              refine ⟨_, [], rfl, trivial, ?_⟩
              exact cov_of (by simp only [show (p.hasIssuer) = false from hb15, show (nmatch l.issuer c.issuer) = true by simpa using hb22, show (l.hasScope) = true from hb25, show (decide ((l.scope.names.length : Int) > 0)) = false from hb51, show (l.scope.onlyUser) = true from hb61, show (c.info.ca) = true from hb67, covS, covN, covM, if_true, if_false, Bool.false_eq_true, Bool.true_and, Bool.false_and, Bool.true_or, Bool.false_or, Bool.or_true, Bool.and_true, Bool.or_false, Bool.and_false, Bool.not_true, Bool.not_false] <;> first | done | rfl | (simp; done))
            · skip
              iterate 3 refine AwOps.v hT rfl ?_
              refine AwOps.split (t := 70) rfl (fun hb70 => ?_) (fun hb70 => ?_)
              · skip
                iterate 4 refine AwOps.v hT rfl ?_
                refine AwOps.turn (Less.say (t := 74) (B := sc (.bool true)) rfl (by rw [show (!c.info.ca) = true by simpa using hb67])) ?_
                refine AwOps.v hT rfl ?_
                refine AwOps.v hT rfl ?_
                refine AwOps.nil (Aw.condT rfl (Aw.seq (Aw.region ?_)))
                refine AwOps.v hT rfl ?_
                refine AwOps.v hT rfl ?_
                refine AwOps.nil ?_
                refine Aw.ret ?_
                refine ⟨_, [], rfl, trivial, ?_⟩
                exact cov_of (by simp only [show (p.hasIssuer) = false from hb15, show (nmatch l.issuer c.issuer) = true by simpa using hb22, show (l.hasScope) = true from hb25, show (decide ((l.scope.names.length : Int) > 0)) = false from hb51, show (l.scope.onlyUser) = true from hb61, show (c.info.ca) = false from hb67, show (l.scope.onlyCA) = true from hb70, covS, covN, covM, if_true, if_false, Bool.false_eq_true, Bool.true_and, Bool.false_and, Bool.true_or, Bool.false_or, Bool.or_true, Bool.and_true, Bool.or_false, Bool.and_false, Bool.not_true, Bool.not_false] <;> first | done | rfl | (simp; done))
              · skip
                iterate 6 refine AwOps.v hT rfl ?_
                refine AwOps.nil (Aw.condF rfl (Aw.skip (Aw.region ?_)))
                iterate 3 refine AwOps.v hT rfl ?_
                refine AwOps.cl (F173 _) [] rfl ⟨⟨rfl, rfl⟩, trivial⟩ trivial rfl ?_   -- certpathref26.all
                rintro _ _ rfl
                refine AwOps.bin rfl _ rfl band_run ?_
                refine AwOps.v hT rfl ?_
                refine AwOps.nil (Aw.seq (Aw.seq (Aw.region ?_)))
                refine AwOps.v hT rfl ?_
                refine AwOps.v hT rfl ?_
                refine AwOps.nil ?_
                refine Aw.tst rfl (fun hb83 => ?_) (fun hb83 => ?_)
                · skip
                  refine Aw.seq (Aw.region ?_)
                  refine AwOps.v hT rfl ?_
                  refine AwOps.v hT rfl ?_
                  refine AwOps.nil ?_
                  refine Aw.ret ?_
                  refine ⟨_, [], rfl, trivial, ?_⟩
                  exact cov_of (by simp only [show (p.hasIssuer) = false from hb15, show (nmatch l.issuer c.issuer) = true by simpa using hb22, show (l.hasScope) = true from hb25, show (decide ((l.scope.names.length : Int) > 0)) = false from hb51, show (l.scope.onlyUser) = true from hb61, show (c.info.ca) = false from hb67, show (l.scope.onlyCA) = false from hb70, show (band (allR p.reasons) (allR l.scope.reasons) == 0) = true from hb83, covS, covN, covM, if_true, if_false, Bool.false_eq_true, Bool.true_and, Bool.false_and, Bool.true_or, Bool.false_or, Bool.or_true, Bool.and_true, Bool.or_false, Bool.and_false, Bool.not_true, Bool.not_false] <;> first | done | rfl | (simp; done))
                · skip
                  refine Aw.skip (Aw.seq (Aw.region ?_))
                  iterate 3 refine AwOps.v hT rfl ?_
                  refine AwOps.nil ?_
                  refine Aw.ret ?_
                  refine ⟨_, [], rfl, trivial, ?_⟩
                  exact cov_of (by simp only [show (p.hasIssuer) = false from hb15, show (nmatch l.issuer c.issuer) = true by simpa using hb22, show (l.hasScope) = true from hb25, show (decide ((l.scope.names.length : Int) > 0)) = false from hb51, show (l.scope.onlyUser) = true from hb61, show (c.info.ca) = false from hb67, show (l.scope.onlyCA) = false from hb70, show (band (allR p.reasons) (allR l.scope.reasons) == 0) = false from hb83, covS, covN, covM, if_true, if_false, Bool.false_eq_true, Bool.true_and, Bool.false_and, Bool.true_or, Bool.false_or, Bool.or_true, Bool.and_true, Bool.or_false, Bool.and_false, Bool.not_true, Bool.not_false] <;> first | done | rfl | (simp; done))
          · skip
            iterate 9 refine AwOps.v hT rfl ?_
            refine AwOps.split (t := 70) rfl (fun hb70 => ?_) (fun hb70 => ?_)
            · skip
              iterate 6 refine AwOps.v hT rfl ?_
              refine AwOps.nil ?_
              refine Aw.tst rfl (fun hb76 => ?_) (fun hb76 => ?_)
              · skip
                refine Aw.seq (Aw.region ?_)
                refine AwOps.v hT rfl ?_
                refine AwOps.v hT rfl ?_
                refine AwOps.nil ?_
                refine Aw.ret ?_
                refine ⟨_, [], rfl, trivial, ?_⟩
                exact cov_of (by simp only [show (p.hasIssuer) = false from hb15, show (nmatch l.issuer c.issuer) = true by simpa using hb22, show (l.hasScope) = true from hb25, show (decide ((l.scope.names.length : Int) > 0)) = false from hb51, show (l.scope.onlyUser) = false from hb61, show (l.scope.onlyCA) = true from hb70, show (c.info.ca) = false by simpa using hb76, covS, covN, covM, if_true, if_false, Bool.false_eq_true, Bool.true_and, Bool.false_and, Bool.true_or, Bool.false_or, Bool.or_true, Bool.and_true, Bool.or_false, Bool.and_false, Bool.not_true, Bool.not_false] <;> first | done | rfl | (simp; done))
              · skip
                refine Aw.skip (Aw.region ?_)
                iterate 3 refine AwOps.v hT rfl ?_
                refine AwOps.cl (F173 _) [] rfl ⟨⟨rfl, rfl⟩, trivial⟩ trivial rfl ?_   -- certpathref26.all
                rintro _ _ rfl
                refine AwOps.bin rfl _ rfl band_run ?_
                refine AwOps.v hT rfl ?_
                refine AwOps.nil (Aw.seq (Aw.seq (Aw.region ?_)))
                refine AwOps.v hT rfl ?_
                refine AwOps.v hT rfl ?_
                refine AwOps.nil ?_
                refine Aw.tst rfl (fun hb83 => ?_) (fun hb83 => ?_)
                · skip
                  refine Aw.seq (Aw.region ?_)
                  refine AwOps.v hT rfl ?_
                  refine AwOps.v hT rfl ?_
                  refine AwOps.nil ?_
                  refine Aw.ret ?_
                  refine ⟨_, [], rfl, trivial, ?_⟩
                  exact cov_of (by simp only [show (p.hasIssuer) = false from hb15, show (nmatch l.issuer c.issuer) = true by simpa using hb22, show (l.hasScope) = true from hb25, show (decide ((l.scope.names.length : Int) > 0)) = false from hb51, show (l.scope.onlyUser) = false from hb61, show (l.scope.onlyCA) = true from hb70, show (c.info.ca) = true by simpa using hb76, show (band (allR p.reasons) (allR l.scope.reasons) == 0) = true from hb83, covS, covN, covM, if_true, if_false, Bool.false_eq_true, Bool.true_and, Bool.false_and, Bool.true_or, Bool.false_or, Bool.or_true, Bool.and_true, Bool.or_false, Bool.and_false, Bool.not_true, Bool.not_false] <;> first | done | rfl | (simp; done))
                · skip
                  refine Aw.skip (Aw.seq (Aw.region ?_))
                  iterate 3 refine AwOps.v hT rfl ?_
                  refine AwOps.nil ?_
                  refine Aw.ret ?_
                  refine ⟨_, [], rfl, trivial, ?_⟩
                  exact cov_of (by simp only [show (p.hasIssuer) = false from hb15, show (nmatch l.issuer c.issuer) = true by simpa using hb22, show (l.hasScope) = true from hb25, show (decide ((l.scope.names.length : Int) > 0)) = false from hb51, show (l.scope.onlyUser) = false from hb61, show (l.scope.onlyCA) = true from hb70, show (c.info.ca) = true by simpa using hb76, show (band (allR p.reasons) (allR l.scope.reasons) == 0) = false from hb83, covS, covN, covM, if_true, if_false, Bool.false_eq_true, Bool.true_and, Bool.false_and, Bool.true_or, Bool.false_or, Bool.or_true, Bool.and_true, Bool.or_false, Bool.and_false, Bool.not_true, Bool.not_false] <;> first | done | rfl | (simp; done))
            · skip
              iterate 6 refine AwOps.v hT rfl ?_
              refine AwOps.nil (Aw.condF rfl (Aw.skip (Aw.region ?_)))
              iterate 3 refine AwOps.v hT rfl ?_
              refine AwOps.cl (F173 _) [] rfl ⟨⟨rfl, rfl⟩, trivial⟩ trivial rfl ?_   -- certpathref26.all
              rintro _ _ rfl
              refine AwOps.bin rfl _ rfl band_run ?_
              refine AwOps.v hT rfl ?_
              refine AwOps.nil (Aw.seq (Aw.seq (Aw.region ?_)))
              refine AwOps.v hT rfl ?_
              refine AwOps.v hT rfl ?_
              refine AwOps.nil ?_
              refine Aw.tst rfl (fun hb83 => ?_) (fun hb83 => ?_)
              · skip
                refine Aw.seq (Aw.region ?_)
                refine AwOps.v hT rfl ?_
                refine AwOps.v hT rfl ?_
                refine AwOps.nil ?_
                refine Aw.ret ?_
                refine ⟨_, [], rfl, trivial, ?_⟩
                exact cov_of (by simp only [show (p.hasIssuer) = false from hb15, show (nmatch l.issuer c.issuer) = true by simpa using hb22, show (l.hasScope) = true from hb25, show (decide ((l.scope.names.length : Int) > 0)) = false from hb51, show (l.scope.onlyUser) = false from hb61, show (l.scope.onlyCA) = false from hb70, show (band (allR p.reasons) (allR l.scope.reasons) == 0) = true from hb83, covS, covN, covM, if_true, if_false, Bool.false_eq_true, Bool.true_and, Bool.false_and, Bool.true_or, Bool.false_or, Bool.or_true, Bool.and_true, Bool.or_false, Bool.and_false, Bool.not_true, Bool.not_false] <;> first | done | rfl | (simp; done))
              · skip
                refine Aw.skip (Aw.seq (Aw.region ?_))
                iterate 3 refine AwOps.v hT rfl ?_
                refine AwOps.nil ?_
                refine Aw.ret ?_
                refine ⟨_, [], rfl, trivial, ?_⟩
                exact cov_of (by simp only [show (p.hasIssuer) = false from hb15, show (nmatch l.issuer c.issuer) = true by simpa using hb22, show (l.hasScope) = true from hb25, show (decide ((l.scope.names.length : Int) > 0)) = false from hb51, show (l.scope.onlyUser) = false from hb61, show (l.scope.onlyCA) = false from hb70, show (band (allR p.reasons) (allR l.scope.reasons) == 0) = false from hb83, covS, covN, covM, if_true, if_false, Bool.false_eq_true, Bool.true_and, Bool.false_and, Bool.true_or, Bool.false_or, Bool.or_true, Bool.and_true, Bool.or_false, Bool.and_false, Bool.not_true, Bool.not_false] <;> first | done | rfl | (simp; done))
      · skip
        iterate 5 refine AwOps.v hT rfl ?_
        refine AwOps.nil (Aw.seq (Aw.seq (Aw.region ?_)))
        iterate 4 refine AwOps.v hT rfl ?_
        refine AwOps.cl (MatchName_ok _ _ hl.1.1 hc.1) [] rfl ⟨⟨rfl, rfl⟩, ⟨rfl, rfl⟩, trivial⟩ trivial rfl ?_   -- certpathref07.MatchName
        rintro _ _ rfl
        refine AwOps.v hT rfl ?_
        refine AwOps.v hT rfl ?_
        refine AwOps.turn (Less.say (t := 36) (B := sc (.bool false)) rfl (by rw [show (!nmatch l.issuer c.issuer) = false by simpa using hb22])) ?_
        iterate 3 refine AwOps.v hT rfl ?_
        refine AwOps.nil (Aw.condF rfl (Aw.skip (Aw.seq (Aw.region ?_))))
        refine AwOps.v hT rfl ?_
        refine AwOps.v hT rfl ?_
        refine AwOps.cl (F173 _) [] rfl ⟨⟨rfl, rfl⟩, trivial⟩ trivial rfl ?_   -- certpathref26.all
        rintro _ _ rfl
        refine AwOps.v hT rfl ?_
        refine AwOps.nil (Aw.seq (Aw.seq (Aw.region ?_)))
        refine AwOps.v hT rfl ?_
        refine AwOps.v hT rfl ?_
        refine AwOps.turn (Less.say (t := 44) (B := sc (.bool false)) rfl (by rw [show (l.hasScope) = false by simpa using hb25])) ?_
        refine AwOps.nil (Aw.condF rfl (Aw.skip (Aw.seq (Aw.seq (Aw.region ?_)))))
        refine AwOps.v hT rfl ?_
        refine AwOps.v hT rfl ?_
        refine AwOps.nil ?_
        refine Aw.tst rfl (fun hb83 => ?_) (fun hb83 => ?_)
        · skip
          refine Aw.seq (Aw.region ?_)
          refine AwOps.v hT rfl ?_
          refine AwOps.v hT rfl ?_
          refine AwOps.nil ?_
          refine Aw.ret ?_
          refine ⟨_, [], rfl, trivial, ?_⟩
          exact cov_of (by simp only [show (p.hasIssuer) = false from hb15, show (nmatch l.issuer c.issuer) = true by simpa using hb22, show (l.hasScope) = false from hb25, show (allR p.reasons == 0) = true from hb83, covS, covN, covM, if_true, if_false, Bool.false_eq_true, Bool.true_and, Bool.false_and, Bool.true_or, Bool.false_or, Bool.or_true, Bool.and_true, Bool.or_false, Bool.and_false, Bool.not_true, Bool.not_false] <;> first | done | rfl | (simp; done))
        · skip
          refine Aw.skip (Aw.seq (Aw.region ?_))
          iterate 3 refine AwOps.v hT rfl ?_
          refine AwOps.nil ?_
          refine Aw.ret ?_
          refine ⟨_, [], rfl, trivial, ?_⟩
          exact cov_of (by simp only [show (p.hasIssuer) = false from hb15, show (nmatch l.issuer c.issuer) = true by simpa using hb22, show (l.hasScope) = false from hb25, show (allR p.reasons == 0) = false from hb83, covS, covN, covM, if_true, if_false, Bool.false_eq_true, Bool.true_and, Bool.false_and, Bool.true_or, Bool.false_or, Bool.or_true, Bool.and_true, Bool.or_false, Bool.and_false, Bool.not_true, Bool.not_false] <;> first | done | rfl | (simp; done))
end Go.Proofs.YtbdgmondalkhlaaDoor.Aw
