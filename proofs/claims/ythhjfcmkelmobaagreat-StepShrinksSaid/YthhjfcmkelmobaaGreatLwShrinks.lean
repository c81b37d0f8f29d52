
/- The walk of StepShrinks.
   Conditions: none. -/
import Derived.Test.YthhjfcmkelmobaaGreatWkHost2
import Derived.Test.YthhjfcmkelmobaaGreatWkLaw
namespace Go.Proofs.YthhjfcmkelmobaaGreat.Aw
open Go
set_option maxRecDepth 100000
set_option maxHeartbeats 4000000
set_option linter.unusedSimpArgs false
set_option linter.unusedVariables false

theorem leastS_le {n o : Int} : leastS n o ≤ n := by
  unfold leastS
  split
  · rename_i h
    simp at h
    omega
  · exact Int.le_refl _
theorem leastS_nn {n o : Int} (hn : 0 ≤ n) (ho : -1 ≤ o) : 0 ≤ leastS n o := by
  unfold leastS
  split
  · rename_i h
    simp at h
    omega
  · exact hn
theorem lessS_le {n o : Int} {f : Bool} (h0 : 0 ≤ n) (h1 : n < 4) : lessS' n f o ≤ n := by
  refine Int.le_trans leastS_le ?_
  split
  · rw [w64]; omega
  · exact Int.le_refl _
theorem lessS_nn {n o : Int} {f : Bool} (h0 : 0 ≤ n) (h1 : n < 4) (ho : -1 ≤ o) : 0 ≤ lessS' n f o := by
  refine leastS_nn ?_ ho
  split
  · rename_i h
    simp at h
    rw [w64]
    omega
  · exact h0
theorem lenS_le {s : Progress} {c : Cert} (h0 : 0 ≤ s.length) (h1 : s.length < 4) : (leaveP s c).length ≤ s.length := by
  refine Int.le_trans leastS_le ?_
  unfold lenS
  split
  · rw [w64]; omega
  · exact Int.le_refl _
theorem perm_back {s : Progress} {c : Cert} {g : Gn} (h : permS (leaveP s c).cons g = true) : permS s.cons g = true := by
  have e : (leaveP s c).cons = consS s c := rfl
  rw [e, consS] at h
  split at h
  · rw [permS, List.all_append, Bool.and_eq_true] at h
    exact h.1
  · exact h
theorem cons_sub {s : Progress} {c : Cert} (hs : okP s) (hi : okI c.info) : ∀ x ∈ (leaveP s c).cons, okSub x := fun x hx => by
  have e : (leaveP s c).cons = consS s c := rfl
  rw [e, consS] at hx
  split at hx
  · rcases List.mem_append.1 hx with hx | hx
    · exact hs.2.2 x hx
    · rw [List.mem_singleton.1 hx]; exact hi.2.2.2.2.2.1
  · exact hs.2.2 x hx
-- f130 certpath/certpathlaw30.StepShrinks
theorem F130 (l : List Int) : Fn Tryz.prog 3 [.pv (.one (.p (.sl (l.map eI))))] [] (fun r _ => r = sc (.bool (true))) := by
  refine Fn.intro (rs := [.tmp 2]) hT Tryz.func3 (by kernel_rfl) rfl rfl rfl rfl fun C => ?_
  repeat (first | refine AwOps.nil ?_ | refine AwSch.nil ?_ | refine Aw.seq ?_ | refine Aw.region ?_ | refine Aw.block ?_ | refine Aw.skip ?_ | refine Aw.exit ?_ | refine Aw.condT rfl ?_ | refine Aw.condF rfl ?_)
  refine AwOps.v hT rfl ?_
  repeat (first | refine AwOps.nil ?_ | refine AwSch.nil ?_ | refine Aw.seq ?_ | refine Aw.region ?_ | refine Aw.block ?_ | refine Aw.skip ?_ | refine Aw.exit ?_ | refine Aw.condT rfl ?_ | refine Aw.condF rfl ?_)
  refine AwOps.v hT rfl ?_
  refine AwOps.ed (N := []) (Ed.callO (F8 _) rfl rfl rfl rfl ?_)
  rintro _ rfl
  refine AwOps.v hT rfl ?_
  repeat (first | refine AwOps.nil ?_ | refine AwSch.nil ?_ | refine Aw.seq ?_ | refine Aw.region ?_ | refine Aw.block ?_ | refine Aw.skip ?_ | refine Aw.exit ?_ | refine Aw.condT rfl ?_ | refine Aw.condF rfl ?_)
  refine AwOps.v hT rfl ?_
  refine AwOps.cl (F15 _) [11] rfl ⟨⟨11, rfl, rfl⟩, trivial⟩ ⟨rfl, trivial⟩ rfl ?_   -- certpathlaw30.progress
  rintro _ _ ⟨s1, d1, rfl, rfl, hs1⟩
  have hp1 := hs1.1
  refine AwOps.eff hT rfl ?_
  refine AwOps.eff hT rfl ?_
  repeat (first | refine AwOps.nil ?_ | refine AwSch.nil ?_ | refine Aw.seq ?_ | refine Aw.region ?_ | refine Aw.block ?_ | refine Aw.skip ?_ | refine Aw.exit ?_ | refine Aw.condT rfl ?_ | refine Aw.condF rfl ?_)
  refine AwOps.v hT rfl ?_
  refine AwOps.v hT rfl ?_
  refine AwOps.cl (F10 _ _ (by first | omega | (simp only [w64] at *; omega) | (simp [w64] at *; omega)) (by first | omega | (simp only [w64] at *; omega) | (simp [w64] at *; omega))) [11] rfl ⟨⟨11, rfl, rfl⟩, ⟨rfl, rfl⟩, trivial⟩ ⟨rfl, trivial⟩ rfl ?_   -- certpathmade.Deck).Next
  rintro _ _ ⟨v3, d3, rfl, rfl, hv3, hw3⟩
  refine AwOps.v hT rfl ?_
  refine AwOps.cl (F10 _ _ (by first | omega | (simp only [w64] at *; omega) | (simp [w64] at *; omega)) (by first | omega | (simp only [w64] at *; omega) | (simp [w64] at *; omega))) [11] rfl ⟨⟨11, rfl, rfl⟩, ⟨rfl, rfl⟩, trivial⟩ ⟨rfl, trivial⟩ rfl ?_   -- certpathmade.Deck).Next
  rintro _ _ ⟨v4, d4, rfl, rfl, hv4, hw4⟩
  refine AwOps.cl (F19 _ _ _ _ (by omega) (by omega)) [11] rfl ⟨⟨11, rfl, rfl⟩, ⟨rfl, rfl⟩, ⟨rfl, rfl⟩, ⟨rfl, rfl⟩, trivial⟩ ⟨rfl, trivial⟩ rfl ?_   -- certpathmade2.CertFields
  rintro _ _ ⟨c1, d2, rfl, rfl, ho1, ⟨ia1, hia1⟩, ⟨ib1, hib1⟩, he1⟩
  have hci : okN c1.issuer := by rw [hia1.2]; exact (okNm_auth _).1
  have hcs : okN c1.subject := by rw [hib1.2]; exact (okNm_auth _).1
  have hcm : okNm c1.subject := by rw [hib1.2]; exact okNm_auth _
  refine AwOps.eff hT rfl ?_
  refine AwOps.eff hT rfl ?_
  repeat (first | refine AwOps.nil ?_ | refine AwSch.nil ?_ | refine Aw.seq ?_ | refine Aw.region ?_ | refine Aw.block ?_ | refine Aw.skip ?_ | refine Aw.exit ?_ | refine Aw.condT rfl ?_ | refine Aw.condF rfl ?_)
  refine AwOps.v hT rfl ?_
  refine AwOps.v hT rfl ?_
  refine AwOps.cl (F23 s1 c1 (by assumption) (by assumption) (by assumption) (by assumption) (by assumption)) [] rfl ⟨⟨rfl, rfl⟩, ⟨rfl, rfl⟩, trivial⟩ trivial rfl ?_   -- step.Leave
  rintro _ _ rfl
  iterate 3 refine AwOps.v hT rfl ?_
  refine AwOps.eff hT rfl ?_
  refine AwOps.eff hT rfl ?_
  refine AwOps.v hT rfl ?_
  repeat (first | refine AwOps.nil ?_ | refine AwSch.nil ?_ | refine Aw.seq ?_ | refine Aw.region ?_ | refine Aw.block ?_ | refine Aw.skip ?_ | refine Aw.exit ?_ | refine Aw.condT rfl ?_ | refine Aw.condF rfl ?_)
  refine AwOps.v hT rfl ?_
  refine AwOps.v hT rfl ?_
  repeat (first | refine AwOps.nil ?_ | refine AwSch.nil ?_ | refine Aw.seq ?_ | refine Aw.region ?_ | refine Aw.block ?_ | refine Aw.skip ?_ | refine Aw.exit ?_ | refine Aw.condT rfl ?_ | refine Aw.condF rfl ?_)
  refine Aw.tst rfl (fun hb27 => ?_) (fun hb27 => ?_)
  · skip
    have hne : (leaveC s1 c1 == 0) = false := by simpa [bne] using hb27
    repeat (first | refine AwOps.nil ?_ | refine AwSch.nil ?_ | refine Aw.seq ?_ | refine Aw.region ?_ | refine Aw.block ?_ | refine Aw.skip ?_ | refine Aw.exit ?_ | refine Aw.condT rfl ?_ | refine Aw.condF rfl ?_)
    refine AwOps.v hT rfl ?_
    refine AwOps.turn (Less.say (t := 28) (B := .agg (ePr zeroP)) rfl (by rw [hne]; rfl)) ?_
    refine AwOps.build hT rfl ?_
    refine AwOps.turn (Less.say (t := 29) (B := .agg [.sl (List.map eRdn []), .v (.int .i64 0), .v (.string ⟨#[]⟩), .v (.string ⟨#[]⟩), .v (.bool false), .v (.int .i64 0), .v (.int .i64 0), .v (.int .i64 0), .v (.int .i64 0), .sl (List.map eSub [])]) rfl rfl) ?_
    refine AwOps.cl (F12 zeroP (by decide)) [] rfl ⟨⟨rfl, rfl⟩, ⟨rfl, rfl⟩, trivial⟩ trivial rfl ?_   -- certpathlaw30.sameProgress
    rintro _ _ rfl
    refine AwOps.v hT rfl ?_
    refine AwOps.cl (F22) [] rfl trivial trivial rfl ?_   -- certpathlaw30.awake
    rintro _ _ rfl
    refine AwOps.v hT rfl ?_
    refine AwOps.v hT rfl ?_
    repeat (first | refine AwOps.nil ?_ | refine AwSch.nil ?_ | refine Aw.seq ?_ | refine Aw.region ?_ | refine Aw.block ?_ | refine Aw.skip ?_ | refine Aw.exit ?_ | refine Aw.condT rfl ?_ | refine Aw.condF rfl ?_)
    refine Aw.ret ?_
    refine ⟨_, [], rfl, trivial, ?_⟩
    exact rfl
  · skip
    have hc0 : leaveC s1 c1 = 0 := by simpa [bne] using hb27
    have hcx := cons_sub hp1 ho1 (s := s1) (c := c1)
    refine Aw.turn (Tn.sayH (b := 6) (B := .box ⟨34, ePr (leaveP s1 c1), []⟩) rfl (by rw [hc0]; rfl)) ?_
    repeat (first | refine AwOps.nil ?_ | refine AwSch.nil ?_ | refine Aw.seq ?_ | refine Aw.region ?_ | refine Aw.block ?_ | refine Aw.skip ?_ | refine Aw.exit ?_ | refine Aw.condT rfl ?_ | refine Aw.condF rfl ?_)
    refine AwOps.v hT rfl ?_
    repeat (first | refine AwOps.nil ?_ | refine AwSch.nil ?_ | refine Aw.seq ?_ | refine Aw.region ?_ | refine Aw.block ?_ | refine Aw.skip ?_ | refine Aw.exit ?_ | refine Aw.condT rfl ?_ | refine Aw.condF rfl ?_)
    have hB1 : (4 : Nat) ≤ maxLen := by unfold maxLen; omega
    repeat (first | refine AwOps.nil ?_ | refine AwSch.nil ?_ | refine Aw.seq ?_ | refine Aw.region ?_ | refine Aw.block ?_ | refine Aw.skip ?_ | refine Aw.exit ?_ | refine Aw.condT rfl ?_ | refine Aw.condF rfl ?_)
    refine Aw.lp (ι := Nat × Dk) (n := 95) [(3, _), (4, _), (6, _)] [(4, _), (6, _)] (fun gq => [(8, sc (.int .i64 gq.1))]) (fun gq => [(11, .box ⟨59, eDk gq.2, []⟩)]) (fun gq => gq.1 ≤ 4 ∧ (True)) (fun gq => 4 - gq.1) (0, _) ?ok1 (Less.tn ⟨rfl, ⟨rfl, rfl, rfl, rfl, trivial⟩, ⟨rfl, rfl, rfl, trivial⟩⟩) ?bd1
    case ok1 =>
      try dsimp only
      first | trivial | exact ⟨Nat.zero_le _, trivial⟩ | (simp; done) | (refine ⟨by simp, ?_⟩; (first | trivial | (simp; done))) | (simp; first | omega | (simp only [w64] at *; omega) | (simp [w64] at *; omega))
    case bd1 =>
      rintro ⟨i1, x11⟩ hi1
      try dsimp only at hi1
      show Aw _ _ _ ⟨95, [(8, sc (.int .i64 i1))] ++ [(3, _), (4, _), (6, _)], [(11, .box ⟨59, eDk x11, []⟩)] ++ [(4, _), (6, _)]⟩ _
      repeat (first | refine AwOps.nil ?_ | refine AwSch.nil ?_ | refine Aw.seq ?_ | refine Aw.region ?_ | refine Aw.block ?_ | refine Aw.skip ?_ | refine Aw.exit ?_ | refine Aw.condT rfl ?_ | refine Aw.condF rfl ?_)
      refine AwOps.v hT rfl ?_
      refine AwOps.v hT rfl ?_
      repeat (first | refine AwOps.nil ?_ | refine AwSch.nil ?_ | refine Aw.seq ?_ | refine Aw.region ?_ | refine Aw.block ?_ | refine Aw.skip ?_ | refine Aw.exit ?_ | refine Aw.condT rfl ?_ | refine Aw.condF rfl ?_)
      refine Aw.tst rfl (fun hb35 => ?_) (fun hb35 => ?_)
      · skip
        have hlt1 : i1 < 4 := by first | simpa using hb35 | (have h' := hb35; simp at h'; omega)
        repeat (first | refine AwOps.nil ?_ | refine AwSch.nil ?_ | refine Aw.seq ?_ | refine Aw.region ?_ | refine Aw.block ?_ | refine Aw.skip ?_ | refine Aw.exit ?_ | refine Aw.condT rfl ?_ | refine Aw.condF rfl ?_)
        refine AwOps.v hT rfl ?_
        refine AwOps.cl (F37 _) [11] rfl ⟨⟨11, rfl, rfl⟩, trivial⟩ ⟨rfl, trivial⟩ rfl ?_   -- certpathmade.General
        rintro _ _ ⟨g9, d9, rfl, rfl, hg9⟩
        refine AwOps.eff hT rfl ?_
        refine AwOps.eff hT rfl ?_
        repeat (first | refine AwOps.nil ?_ | refine AwSch.nil ?_ | refine Aw.seq ?_ | refine Aw.region ?_ | refine Aw.block ?_ | refine Aw.skip ?_ | refine Aw.exit ?_ | refine Aw.condT rfl ?_ | refine Aw.condF rfl ?_)
        iterate 3 refine AwOps.v hT rfl ?_
        refine AwOps.cl (F131 (leaveP s1 c1).cons _ (by assumption) hcx) [] rfl ⟨⟨rfl, rfl⟩, ⟨rfl, rfl⟩, trivial⟩ trivial rfl ?_   -- certpathref07.Permits
        rintro _ _ rfl
        refine AwOps.v hT rfl ?_
        refine AwOps.split (t := 44) rfl (fun hb44 => ?_) (fun hb44 => ?_)
        · skip
          iterate 3 refine AwOps.v hT rfl ?_
          refine AwOps.cl (F131 s1.cons _ (by assumption) hp1.2.2) [] rfl ⟨⟨rfl, rfl⟩, ⟨rfl, rfl⟩, trivial⟩ trivial rfl ?_   -- certpathref07.Permits
          rintro _ _ rfl
          first | refine AwOps.turn (Less.say (t := 48) (B := sc (.bool true)) rfl (by rw [perm_back hb44])) ?_ | skip
          refine AwOps.v hT rfl ?_
          refine AwOps.v hT rfl ?_
          repeat (first | refine AwOps.nil ?_ | refine AwSch.nil ?_ | refine Aw.seq ?_ | refine Aw.region ?_ | refine Aw.block ?_ | refine Aw.skip ?_ | refine Aw.exit ?_ | refine Aw.condT rfl ?_ | refine Aw.condF rfl ?_)
          iterate 3 refine AwOps.v hT rfl ?_
          repeat (first | refine AwOps.nil ?_ | refine AwSch.nil ?_ | refine Aw.seq ?_ | refine Aw.region ?_ | refine Aw.block ?_ | refine Aw.skip ?_ | refine Aw.exit ?_ | refine Aw.condT rfl ?_ | refine Aw.condF rfl ?_)
          refine ⟨(i1 + 1, _), ?nx1, ?mu1, Less.tn ⟨rfl, ⟨incS hlt1 hB1, rfl, rfl, rfl, trivial⟩, ⟨rfl, rfl, rfl, trivial⟩⟩⟩
          case nx1 =>
            try dsimp only
            first | exact ⟨hlt1, trivial⟩ | trivial
          case mu1 =>
            try dsimp only
            first | omega | (simp only [w64] at *; omega) | (simp [w64] at *; omega)
        · skip
          iterate 4 refine AwOps.v hT rfl ?_
          first | refine AwOps.turn (Less.say (t := 48) (B := sc (.bool true)) rfl (by rw [perm_back hb44])) ?_ | skip
          refine AwOps.v hT rfl ?_
          refine AwOps.v hT rfl ?_
          repeat (first | refine AwOps.nil ?_ | refine AwSch.nil ?_ | refine Aw.seq ?_ | refine Aw.region ?_ | refine Aw.block ?_ | refine Aw.skip ?_ | refine Aw.exit ?_ | refine Aw.condT rfl ?_ | refine Aw.condF rfl ?_)
          iterate 3 refine AwOps.v hT rfl ?_
          repeat (first | refine AwOps.nil ?_ | refine AwSch.nil ?_ | refine Aw.seq ?_ | refine Aw.region ?_ | refine Aw.block ?_ | refine Aw.skip ?_ | refine Aw.exit ?_ | refine Aw.condT rfl ?_ | refine Aw.condF rfl ?_)
          refine ⟨(i1 + 1, _), ?nx1, ?mu1, Less.tn ⟨rfl, ⟨incS hlt1 hB1, rfl, rfl, rfl, trivial⟩, ⟨rfl, rfl, rfl, trivial⟩⟩⟩
          case nx1 =>
            try dsimp only
            first | exact ⟨hlt1, trivial⟩ | trivial
          case mu1 =>
            try dsimp only
            first | omega | (simp only [w64] at *; omega) | (simp [w64] at *; omega)
      · skip
        repeat (first | refine AwOps.nil ?_ | refine AwSch.nil ?_ | refine Aw.seq ?_ | refine Aw.region ?_ | refine Aw.block ?_ | refine Aw.skip ?_ | refine Aw.exit ?_ | refine Aw.condT rfl ?_ | refine Aw.condF rfl ?_)
        iterate 5 refine AwOps.v hT rfl ?_
        first | refine AwOps.turn (Less.say (t := 55) (B := sc (.bool true)) rfl (by exact congrArg (fun b => sc (.bool b)) (decide_eq_true (lenS_le hs1.2.2.1 hs1.2.2.2.1)))) ?_ | refine AwSch.say (t := 55) (B := sc (.bool true)) rfl (by exact congrArg (fun b => sc (.bool b)) (decide_eq_true (lenS_le hs1.2.2.1 hs1.2.2.2.1))) ?_
        iterate 6 refine AwOps.v hT rfl ?_
        first | refine AwOps.turn (Less.say (t := 61) (B := sc (.bool true)) rfl (by exact congrArg (fun b => sc (.bool b)) (decide_eq_true (lessS_le hs1.2.2.2.2.1 hs1.2.2.2.2.2.1)))) ?_ | refine AwSch.say (t := 61) (B := sc (.bool true)) rfl (by exact congrArg (fun b => sc (.bool b)) (decide_eq_true (lessS_le hs1.2.2.2.2.1 hs1.2.2.2.2.2.1))) ?_
        iterate 7 refine AwOps.v hT rfl ?_
        first | refine AwOps.turn (Less.say (t := 68) (B := sc (.bool true)) rfl (by exact congrArg (fun b => sc (.bool b)) (decide_eq_true (lessS_le hs1.2.2.2.2.2.2.1 hs1.2.2.2.2.2.2.2.1)))) ?_ | refine AwSch.say (t := 68) (B := sc (.bool true)) rfl (by exact congrArg (fun b => sc (.bool b)) (decide_eq_true (lessS_le hs1.2.2.2.2.2.2.1 hs1.2.2.2.2.2.2.2.1))) ?_
        iterate 7 refine AwOps.v hT rfl ?_
        first | refine AwOps.turn (Less.say (t := 75) (B := sc (.bool true)) rfl (by exact congrArg (fun b => sc (.bool b)) (decide_eq_true (lessS_le hs1.2.2.2.2.2.2.2.2.1 hs1.2.2.2.2.2.2.2.2.2)))) ?_ | refine AwSch.say (t := 75) (B := sc (.bool true)) rfl (by exact congrArg (fun b => sc (.bool b)) (decide_eq_true (lessS_le hs1.2.2.2.2.2.2.2.2.1 hs1.2.2.2.2.2.2.2.2.2))) ?_
        iterate 5 refine AwOps.v hT rfl ?_
        first | refine AwOps.turn (Less.say (t := 80) (B := sc (.bool true)) rfl (by exact congrArg (fun b => sc (.bool b)) (decide_eq_true (lessS_nn hs1.2.2.2.2.1 hs1.2.2.2.2.2.1 he1.1)))) ?_ | refine AwSch.say (t := 80) (B := sc (.bool true)) rfl (by exact congrArg (fun b => sc (.bool b)) (decide_eq_true (lessS_nn hs1.2.2.2.2.1 hs1.2.2.2.2.2.1 he1.1))) ?_
        iterate 5 refine AwOps.v hT rfl ?_
        first | refine AwOps.turn (Less.say (t := 85) (B := sc (.bool true)) rfl (by exact congrArg (fun b => sc (.bool b)) (decide_eq_true (lessS_nn hs1.2.2.2.2.2.2.1 hs1.2.2.2.2.2.2.2.1 he1.2.1)))) ?_ | refine AwSch.say (t := 85) (B := sc (.bool true)) rfl (by exact congrArg (fun b => sc (.bool b)) (decide_eq_true (lessS_nn hs1.2.2.2.2.2.2.1 hs1.2.2.2.2.2.2.2.1 he1.2.1))) ?_
        iterate 5 refine AwOps.v hT rfl ?_
        first | refine AwOps.turn (Less.say (t := 90) (B := sc (.bool true)) rfl (by exact congrArg (fun b => sc (.bool b)) (decide_eq_true (lessS_nn hs1.2.2.2.2.2.2.2.2.1 hs1.2.2.2.2.2.2.2.2.2 he1.2.2)))) ?_ | refine AwSch.say (t := 90) (B := sc (.bool true)) rfl (by exact congrArg (fun b => sc (.bool b)) (decide_eq_true (lessS_nn hs1.2.2.2.2.2.2.2.2.1 hs1.2.2.2.2.2.2.2.2.2 he1.2.2))) ?_
        refine AwOps.v hT rfl ?_
        refine AwOps.v hT rfl ?_
        refine AwOps.cl (F22) [] rfl trivial trivial rfl ?_   -- certpathlaw30.awake
        rintro _ _ rfl
        refine AwOps.v hT rfl ?_
        refine AwOps.v hT rfl ?_
        repeat (first | refine AwOps.nil ?_ | refine AwSch.nil ?_ | refine Aw.seq ?_ | refine Aw.region ?_ | refine Aw.block ?_ | refine Aw.skip ?_ | refine Aw.exit ?_ | refine Aw.condT rfl ?_ | refine Aw.condF rfl ?_)
        refine Aw.ret ?_
        refine ⟨_, [], rfl, trivial, ?_⟩
        exact rfl
end Go.Proofs.YthhjfcmkelmobaaGreat.Aw
