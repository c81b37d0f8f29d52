/- The walk of StepLeaves.
   Conditions: none. -/
import Derived.Test.YthhjfcmkelmobaaWkLaw
namespace Go.Proofs.Ythhjfcmkelmobaa.Aw
open Go
set_option maxRecDepth 100000
set_option maxHeartbeats 4000000
set_option linter.unusedSimpArgs false
set_option linter.unusedVariables false

theorem cons_le {s : Progress} {c : Cert} (h : okP s) : (if leaveC s c == 0 then leaveP s c else zeroP).cons.length ≤ 1001 := by
  have := h.2.1
  split
  · simp only [leaveP, consS]
    split
    · simp; omega
    · omega
  · simp [zeroP]
-- f4 certpath/certpathlaw30.StepLeaves
theorem F4 (l : List Int) : Fn Try.prog 4 [.pv (.one (.p (.sl (l.map eI))))] [] (fun r _ => r = sc (.bool true)) := by
  refine Fn.intro (rs := [.tmp 2]) hT Try.func4 (by kernel_rfl) rfl rfl rfl rfl fun C => ?_
  repeat (first | refine AwOps.nil ?_ | refine AwSch.nil ?_ | refine Aw.seq ?_ | refine Aw.region ?_ | refine Aw.block ?_ | refine Aw.skip ?_ | refine Aw.exit ?_ | refine Aw.condT rfl ?_ | refine Aw.condF rfl ?_)
  refine AwOps.v hT rfl ?_
  repeat (first | refine AwOps.nil ?_ | refine AwSch.nil ?_ | refine Aw.seq ?_ | refine Aw.region ?_ | refine Aw.block ?_ | refine Aw.skip ?_ | refine Aw.exit ?_ | refine Aw.condT rfl ?_ | refine Aw.condF rfl ?_)
  refine AwOps.v hT rfl ?_
  refine AwOps.ed (N := []) (Ed.callO (F8 _) rfl rfl rfl rfl ?_)
  rintro _ rfl
  refine AwOps.v hT rfl ?_
  repeat (first | refine AwOps.nil ?_ | refine AwSch.nil ?_ | refine Aw.seq ?_ | refine Aw.region ?_ | refine Aw.block ?_ | refine Aw.skip ?_ | refine Aw.exit ?_ | refine Aw.condT rfl ?_ | refine Aw.condF rfl ?_)
  refine AwOps.v hT rfl ?_
  refine AwOps.cl (F15 _) [11] rfl ⟨⟨11, rfl, rfl⟩, trivial⟩ ⟨rfl, trivial⟩ rfl ?_   -- certpathlaw30.progress
  rintro _ _ ⟨s1, d1, rfl, rfl, hs1⟩
  have hp1 := hs1.1
  refine AwOps.eff hT rfl ?_
  refine AwOps.eff hT rfl ?_
  repeat (first | refine AwOps.nil ?_ | refine AwSch.nil ?_ | refine Aw.seq ?_ | refine Aw.region ?_ | refine Aw.block ?_ | refine Aw.skip ?_ | refine Aw.exit ?_ | refine Aw.condT rfl ?_ | refine Aw.condF rfl ?_)
  refine AwOps.v hT rfl ?_
  refine AwOps.v hT rfl ?_
  refine AwOps.cl (F10 _ _ (by first | omega | (simp only [w64] at *; omega) | (simp [w64] at *; omega)) (by first | omega | (simp only [w64] at *; omega) | (simp [w64] at *; omega))) [11] rfl ⟨⟨11, rfl, rfl⟩, ⟨rfl, rfl⟩, trivial⟩ ⟨rfl, trivial⟩ rfl ?_   -- certpathmade.Deck).Next
  rintro _ _ ⟨v3, d3, rfl, rfl, hv3, hw3⟩
  refine AwOps.v hT rfl ?_
  refine AwOps.cl (F10 _ _ (by first | omega | (simp only [w64] at *; omega) | (simp [w64] at *; omega)) (by first | omega | (simp only [w64] at *; omega) | (simp [w64] at *; omega))) [11] rfl ⟨⟨11, rfl, rfl⟩, ⟨rfl, rfl⟩, trivial⟩ ⟨rfl, trivial⟩ rfl ?_   -- certpathmade.Deck).Next
  rintro _ _ ⟨v4, d4, rfl, rfl, hv4, hw4⟩
  refine AwOps.v hT rfl ?_
  refine AwOps.cl (F10 _ _ (by first | omega | (simp only [w64] at *; omega) | (simp [w64] at *; omega)) (by first | omega | (simp only [w64] at *; omega) | (simp [w64] at *; omega))) [11] rfl ⟨⟨11, rfl, rfl⟩, ⟨rfl, rfl⟩, trivial⟩ ⟨rfl, trivial⟩ rfl ?_   -- certpathmade.Deck).Next
  rintro _ _ ⟨v5, d5, rfl, rfl, hv5, hw5⟩
  refine AwOps.v hT rfl ?_
  refine AwOps.cl (F19 _ _ _ _ (by omega) (by omega)) [11] rfl ⟨⟨11, rfl, rfl⟩, ⟨rfl, rfl⟩, ⟨rfl, rfl⟩, ⟨rfl, rfl⟩, trivial⟩ ⟨rfl, trivial⟩ rfl ?_   -- certpathmade2.CertFields
  rintro _ _ ⟨c1, d2, rfl, rfl, ho1, ⟨ia1, hia1⟩, ⟨ib1, hib1⟩⟩
  have hci : okN c1.issuer := by rw [hia1.2]; exact (okNm_auth _).1
  have hcs : okN c1.subject := by rw [hib1.2]; exact (okNm_auth _).1
  have hcm : okNm c1.subject := by rw [hib1.2]; exact okNm_auth _
  refine AwOps.eff hT rfl ?_
  refine AwOps.eff hT rfl ?_
  repeat (first | refine AwOps.nil ?_ | refine AwSch.nil ?_ | refine Aw.seq ?_ | refine Aw.region ?_ | refine Aw.block ?_ | refine Aw.skip ?_ | refine Aw.exit ?_ | refine Aw.condT rfl ?_ | refine Aw.condF rfl ?_)
  refine AwOps.v hT rfl ?_
  refine AwOps.v hT rfl ?_
  refine AwOps.cl (F23 _ _ (by assumption) (by assumption) (by assumption) (by assumption) (by assumption)) [] rfl ⟨⟨rfl, rfl⟩, ⟨rfl, rfl⟩, trivial⟩ trivial rfl ?_   -- step.Leave
  rintro _ _ rfl
  iterate 3 refine AwOps.v hT rfl ?_
  refine AwOps.eff hT rfl ?_
  refine AwOps.eff hT rfl ?_
  refine AwOps.v hT rfl ?_
  repeat (first | refine AwOps.nil ?_ | refine AwSch.nil ?_ | refine Aw.seq ?_ | refine Aw.region ?_ | refine Aw.block ?_ | refine Aw.skip ?_ | refine Aw.exit ?_ | refine Aw.condT rfl ?_ | refine Aw.condF rfl ?_)
  refine AwOps.v hT rfl ?_
  refine AwOps.v hT rfl ?_
  refine AwOps.cl (F24 _ _ (by assumption) (by assumption) (by assumption) (by assumption)) [] rfl ⟨⟨rfl, rfl⟩, ⟨rfl, rfl⟩, trivial⟩ trivial rfl ?_   -- certpathref30.Leave
  rintro _ _ rfl
  iterate 3 refine AwOps.v hT rfl ?_
  refine AwOps.eff hT rfl ?_
  refine AwOps.eff hT rfl ?_
  refine AwOps.v hT rfl ?_
  repeat (first | refine AwOps.nil ?_ | refine AwSch.nil ?_ | refine Aw.seq ?_ | refine Aw.region ?_ | refine Aw.block ?_ | refine Aw.skip ?_ | refine Aw.exit ?_ | refine Aw.condT rfl ?_ | refine Aw.condF rfl ?_)
  iterate 3 refine AwOps.v hT rfl ?_
  refine AwOps.turn (Less.say (t := 37) (B := sc (.bool true)) rfl (by simp)) ?_
  iterate 3 refine AwOps.v hT rfl ?_
  refine AwOps.cl (F12 _ (cons_le hp1)) [] rfl ⟨⟨rfl, rfl⟩, ⟨rfl, rfl⟩, trivial⟩ trivial rfl ?_   -- certpathlaw30.sameProgress
  rintro _ _ rfl
  refine AwOps.v hT rfl ?_
  refine AwOps.v hT rfl ?_
  refine AwOps.cl (F22) [] rfl trivial trivial rfl ?_   -- certpathlaw30.awake
  rintro _ _ ⟨c1, d2, rfl, rfl, ho1, ⟨ia1, hia1⟩, ⟨ib1, hib1⟩⟩
  have hci : okN c1.issuer := by rw [hia1.2]; exact (okNm_auth _).1
  have hcs : okN c1.subject := by rw [hib1.2]; exact (okNm_auth _).1
  have hcm : okNm c1.subject := by rw [hib1.2]; exact okNm_auth _
  refine AwOps.v hT rfl ?_
  refine AwOps.v hT rfl ?_
  repeat (first | refine AwOps.nil ?_ | refine AwSch.nil ?_ | refine Aw.seq ?_ | refine Aw.region ?_ | refine Aw.block ?_ | refine Aw.skip ?_ | refine Aw.exit ?_ | refine Aw.condT rfl ?_ | refine Aw.condF rfl ?_)
  refine Aw.ret ?_
  refine ⟨_, [], rfl, trivial, ?_⟩
  exact rfl
end Go.Proofs.Ythhjfcmkelmobaa.Aw
