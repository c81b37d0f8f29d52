/- The walk of StepSelfIssued.
   Conditions: none. -/
import Derived.Test.YthhjfcmkelmobaaLwZero
import Derived.KernelRfl
namespace Go.Proofs.Ythhjfcmkelmobaa.Aw
open Go
set_option maxRecDepth 100000
set_option maxHeartbeats 4000000
set_option linter.unusedSimpArgs false
set_option linter.unusedVariables false

theorem okI_c0 {i j : Int} {ca : Bool} {k : Key} : okI (cert0 i j ca k).info := ⟨Nat.zero_le _, Nat.zero_le _, Nat.zero_le _, Nat.zero_le _, okGs_nil, ⟨okGs_nil, okGs_nil⟩, okPts_nil, okPts_nil⟩
theorem nmz00 : nmatch (authS (namedS 0)) (authS (namedS 0)) = true := by kernel_rfl
theorem nmz08 : nmatch (authS (namedS 0)) (authS 8) = true := by kernel_rfl
theorem nmz01 : nmatch (authS (namedS 0)) (authS (namedS 1)) = false := by kernel_rfl
def certS (b : Bool) (k : Key) : Cert := { cert0 0 0 true k with subject := if b then authS 8 else authS (namedS 0) }
theorem fall_cs {b : Bool} {k : Key} : fallS (certS b k) = false := by cases b <;> simp [fallS, selfIssued, certS, cert0, nmz00, nmz08]
theorem fall_c1 {k : Key} : fallS (cert0 0 1 true k) = true := by simp [fallS, selfIssued, cert0, nmz01]
theorem lc_cs {s : Progress} {b : Bool} {k : Key} : leaveC s (certS b k) = 0 := by
  rw [leaveC, fall_cs]
  simp [certS, cert0, noneS]
theorem lc_c1 {s : Progress} {k : Key} : leaveC s (cert0 0 1 true k) = if s.length < 1 then 10 else 0 := by
  rw [leaveC, fall_c1]
  simp [cert0, noneS]
theorem lp_cs {s : Progress} {b : Bool} {k : Key} : (leaveP s (certS b k)).length = s.length ∧ (leaveP s (certS b k)).explicit = s.explicit ∧ (leaveP s (certS b k)).mapping = s.mapping ∧ (leaveP s (certS b k)).any = s.any := by
  simp only [leaveP, lenS, fall_cs]
  simp [certS, cert0, noneS, leastS, lessS']
theorem self_m {s : Progress} {k : Key} (h : 0 ≤ s.length) : ((leaveC s (cert0 0 1 true k) == 10) == (s.length == 0)) = true := by
  rw [lc_c1]
  by_cases h1 : s.length < 1
  · have : s.length = 0 := by omega
    simp [this]
  · have : s.length ≠ 0 := by omega
    simp [h1, this]
-- f5 certpath/certpathlaw30.StepSelfIssued
theorem F5 (l : List Int) (spelling : Bool) : Fn Try.prog 5 [.pv (.one (.p (.sl (l.map eI)))), .pv (sc (.bool spelling))] [] (fun r _ => r = sc (.bool true)) := by
  refine Fn.intro (rs := [.tmp 4]) hT Try.func5 (by kernel_rfl) rfl rfl rfl rfl fun C => ?_
  repeat (first | refine AwOps.nil ?_ | refine AwSch.nil ?_ | refine Aw.seq ?_ | refine Aw.region ?_ | refine Aw.block ?_ | refine Aw.skip ?_ | refine Aw.exit ?_ | refine Aw.condT rfl ?_ | refine Aw.condF rfl ?_)
  refine AwOps.v hT rfl ?_
  repeat (first | refine AwOps.nil ?_ | refine AwSch.nil ?_ | refine Aw.seq ?_ | refine Aw.region ?_ | refine Aw.block ?_ | refine Aw.skip ?_ | refine Aw.exit ?_ | refine Aw.condT rfl ?_ | refine Aw.condF rfl ?_)
  refine AwOps.v hT rfl ?_
  refine AwOps.ed (N := []) (Ed.callO (F8 _) rfl rfl rfl rfl ?_)
  rintro _ rfl
  refine AwOps.v hT rfl ?_
  repeat (first | refine AwOps.nil ?_ | refine AwSch.nil ?_ | refine Aw.seq ?_ | refine Aw.region ?_ | refine Aw.block ?_ | refine Aw.skip ?_ | refine Aw.exit ?_ | refine Aw.condT rfl ?_ | refine Aw.condF rfl ?_)
  refine AwOps.v hT rfl ?_
  refine AwOps.cl (F15 _) [14] rfl ⟨⟨14, rfl, rfl⟩, trivial⟩ ⟨rfl, trivial⟩ rfl ?_   -- certpathlaw30.progress
  rintro _ _ ⟨s1, d1, rfl, rfl, hs1⟩
  have hp1 := hs1.1
  refine AwOps.eff hT rfl ?_
  refine AwOps.eff hT rfl ?_
  repeat (first | refine AwOps.nil ?_ | refine AwSch.nil ?_ | refine Aw.seq ?_ | refine Aw.region ?_ | refine Aw.block ?_ | refine Aw.skip ?_ | refine Aw.exit ?_ | refine Aw.condT rfl ?_ | refine Aw.condF rfl ?_)
  refine AwOps.ed (N := []) (Ed.callO (F8 []) rfl rfl rfl rfl ?_)
  rintro _ rfl
  refine AwOps.cl (F19z _ 0 0 true (by omega) (by omega) (by simp)) [17] rfl ⟨⟨17, rfl, rfl⟩, ⟨rfl, rfl⟩, ⟨rfl, rfl⟩, ⟨rfl, rfl⟩, trivial⟩ ⟨rfl, trivial⟩ rfl ?_   -- certpathmade2.CertFields
  rintro _ _ ⟨k1, rfl, rfl⟩
  refine AwOps.eff hT rfl ?_
  refine AwOps.eff hT rfl ?_
  repeat (first | refine AwOps.nil ?_ | refine AwSch.nil ?_ | refine Aw.seq ?_ | refine Aw.region ?_ | refine Aw.block ?_ | refine Aw.skip ?_ | refine Aw.exit ?_ | refine Aw.condT rfl ?_ | refine Aw.condF rfl ?_)
  refine AwOps.v hT rfl ?_
  repeat (first | refine AwOps.nil ?_ | refine AwSch.nil ?_ | refine Aw.seq ?_ | refine Aw.region ?_ | refine Aw.block ?_ | refine Aw.skip ?_ | refine Aw.exit ?_ | refine Aw.condT rfl ?_ | refine Aw.condF rfl ?_)
  refine Aw.joinQ (fun σ' => (True) ∧ Tn σ' ⟨77, [(6, .one (.ptr 6 0)), (7, .one (.ptr 7 0))], [(6, .box ⟨45, ePr s1, []⟩), (7, .box ⟨58, eCert (certS spelling k1), []⟩)]⟩) ?_ (fun _ hj => ?_)
  · skip
    repeat (first | refine AwOps.nil ?_ | refine AwSch.nil ?_ | refine Aw.seq ?_ | refine Aw.region ?_ | refine Aw.block ?_ | refine Aw.skip ?_ | refine Aw.exit ?_ | refine Aw.condT rfl ?_ | refine Aw.condF rfl ?_)
    refine Aw.tst rfl (fun hb19 => ?_) (fun hb19 => ?_)
    · skip
      repeat (first | refine AwOps.nil ?_ | refine AwSch.nil ?_ | refine Aw.seq ?_ | refine Aw.region ?_ | refine Aw.block ?_ | refine Aw.skip ?_ | refine Aw.exit ?_ | refine Aw.condT rfl ?_ | refine Aw.condF rfl ?_)
      refine AwOps.cl (F25 _ (by first | omega | (simp only [w64] at *; omega) | (simp [w64] at *; omega))) [] rfl ⟨⟨rfl, rfl⟩, trivial⟩ trivial rfl ?_   -- certpathmade.Authority
      rintro _ _ rfl
      refine AwOps.v hT rfl ?_
      refine AwOps.eff hT rfl ?_
      repeat (first | refine AwOps.nil ?_ | refine AwSch.nil ?_ | refine Aw.seq ?_ | refine Aw.region ?_ | refine Aw.block ?_ | refine Aw.skip ?_ | refine Aw.exit ?_ | refine Aw.condT rfl ?_ | refine Aw.condF rfl ?_)
      exact ⟨trivial, Less.tn ⟨rfl, ⟨rfl, rfl, trivial⟩, ⟨rfl, (by rw [hb19]; rfl), trivial⟩⟩⟩
    · skip
      repeat (first | refine AwOps.nil ?_ | refine AwSch.nil ?_ | refine Aw.seq ?_ | refine Aw.region ?_ | refine Aw.block ?_ | refine Aw.skip ?_ | refine Aw.exit ?_ | refine Aw.condT rfl ?_ | refine Aw.condF rfl ?_)
      exact ⟨trivial, Less.tn ⟨rfl, ⟨rfl, rfl, trivial⟩, ⟨rfl, (by rw [hb19]; rfl), trivial⟩⟩⟩
  · skip
    refine Aw.turn hj.2 ?_
    repeat (first | refine AwOps.nil ?_ | refine AwSch.nil ?_ | refine Aw.seq ?_ | refine Aw.region ?_ | refine Aw.block ?_ | refine Aw.skip ?_ | refine Aw.exit ?_ | refine Aw.condT rfl ?_ | refine Aw.condF rfl ?_)
    refine AwOps.v hT rfl ?_
    refine AwOps.v hT rfl ?_
    refine AwOps.cl (F23 s1 (certS spelling k1) hp1 (okNm_auth _).1 (by first | exact (okNm_auth _).1 | (cases spelling <;> exact (okNm_auth _).1)) (okI_c0 (i := 0) (j := 0) (ca := true) (k := k1)) (by first | exact okNm_auth _ | (cases spelling <;> exact okNm_auth _))) [] rfl ⟨⟨rfl, rfl⟩, ⟨rfl, rfl⟩, trivial⟩ trivial rfl ?_   -- step.Leave
    rintro _ _ rfl
    refine AwOps.turn (Less.say (t := 25) (B := .tup [.agg (ePr (leaveP s1 (certS spelling k1))), .one (.p (.v (.int .i64 0)))]) rfl (by rw [lc_cs]; rfl)) ?_
    iterate 3 refine AwOps.v hT rfl ?_
    refine AwOps.eff hT rfl ?_
    refine AwOps.eff hT rfl ?_
    refine AwOps.v hT rfl ?_
    repeat (first | refine AwOps.nil ?_ | refine AwSch.nil ?_ | refine Aw.seq ?_ | refine Aw.region ?_ | refine Aw.block ?_ | refine Aw.skip ?_ | refine Aw.exit ?_ | refine Aw.condT rfl ?_ | refine Aw.condF rfl ?_)
    refine AwOps.ed (N := []) (Ed.callO (F8 []) rfl rfl rfl rfl ?_)
    rintro _ rfl
    refine AwOps.cl (F19z _ 0 1 true (by omega) (by omega) (by simp)) [28] rfl ⟨⟨28, rfl, rfl⟩, ⟨rfl, rfl⟩, ⟨rfl, rfl⟩, ⟨rfl, rfl⟩, trivial⟩ ⟨rfl, trivial⟩ rfl ?_   -- certpathmade2.CertFields
    rintro _ _ ⟨k2, rfl, rfl⟩
    refine AwOps.eff hT rfl ?_
    refine AwOps.eff hT rfl ?_
    repeat (first | refine AwOps.nil ?_ | refine AwSch.nil ?_ | refine Aw.seq ?_ | refine Aw.region ?_ | refine Aw.block ?_ | refine Aw.skip ?_ | refine Aw.exit ?_ | refine Aw.condT rfl ?_ | refine Aw.condF rfl ?_)
    refine AwOps.v hT rfl ?_
    refine AwOps.v hT rfl ?_
    refine AwOps.cl (F23 s1 (cert0 0 1 true k2) hp1 (okNm_auth _).1 (by first | exact (okNm_auth _).1 | (cases spelling <;> exact (okNm_auth _).1)) (okI_c0 (i := 0) (j := 1) (ca := true) (k := k2)) (by first | exact okNm_auth _ | (cases spelling <;> exact okNm_auth _))) [] rfl ⟨⟨rfl, rfl⟩, ⟨rfl, rfl⟩, trivial⟩ trivial rfl ?_   -- step.Leave
    rintro _ _ rfl
    iterate 3 refine AwOps.v hT rfl ?_
    refine AwOps.eff hT rfl ?_
    refine AwOps.eff hT rfl ?_
    refine AwOps.v hT rfl ?_
    repeat (first | refine AwOps.nil ?_ | refine AwSch.nil ?_ | refine Aw.seq ?_ | refine Aw.region ?_ | refine Aw.block ?_ | refine Aw.skip ?_ | refine Aw.exit ?_ | refine Aw.condT rfl ?_ | refine Aw.condF rfl ?_)
    iterate 8 refine AwOps.v hT rfl ?_
    refine AwOps.turn (Less.say (t := 43) (B := sc (.bool true)) rfl (by rw [lp_cs.1]; simp)) ?_
    iterate 7 refine AwOps.v hT rfl ?_
    refine AwOps.turn (Less.say (t := 50) (B := sc (.bool true)) rfl (by rw [lp_cs.2.1]; simp)) ?_
    iterate 7 refine AwOps.v hT rfl ?_
    refine AwOps.turn (Less.say (t := 57) (B := sc (.bool true)) rfl (by rw [lp_cs.2.2.1]; simp)) ?_
    iterate 7 refine AwOps.v hT rfl ?_
    refine AwOps.turn (Less.say (t := 64) (B := sc (.bool true)) rfl (by rw [lp_cs.2.2.2]; simp)) ?_
    iterate 8 refine AwOps.v hT rfl ?_
    refine AwOps.turn (Less.say (t := 72) (B := sc (.bool true)) rfl (by rw [self_m hs1.2.2.1])) ?_
    refine AwOps.v hT rfl ?_
    refine AwOps.v hT rfl ?_
    refine AwOps.cl (F22) [] rfl trivial trivial rfl ?_   -- certpathlaw30.awake
    rintro _ _ rfl
    refine AwOps.v hT rfl ?_
    refine AwOps.v hT rfl ?_
    repeat (first | refine AwOps.nil ?_ | refine AwSch.nil ?_ | refine Aw.seq ?_ | refine Aw.region ?_ | refine Aw.block ?_ | refine Aw.skip ?_ | refine Aw.exit ?_ | refine Aw.condT rfl ?_ | refine Aw.condF rfl ?_)
    refine Aw.ret ?_
    refine ⟨_, [], rfl, trivial, ?_⟩
    exact rfl
end Go.Proofs.Ythhjfcmkelmobaa.Aw
