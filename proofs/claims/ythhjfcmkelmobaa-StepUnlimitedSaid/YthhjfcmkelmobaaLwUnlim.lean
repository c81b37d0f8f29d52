/- The walk of StepUnlimited.
   Conditions: none. -/
import Derived.Test.YthhjfcmkelmobaaLwSelf
namespace Go.Proofs.Ythhjfcmkelmobaa.Aw
open Go
set_option maxRecDepth 100000
set_option maxHeartbeats 4000000
set_option linter.unusedSimpArgs false
set_option linter.unusedVariables false

/-- A state n steps behind the beginning, at the most. -/
def okU (s : Progress) (n : Int) : Prop := okP s ∧ 9 - n ≤ s.length ∧ s.length ≤ 8 ∧ 10 - n ≤ s.explicit ∧ s.explicit ≤ 9 ∧ 10 - n ≤ s.mapping ∧ s.mapping ≤ 9 ∧ 10 - n ≤ s.any ∧ s.any ≤ 9
theorem lessU {x n : Int} {f : Bool} (h : 10 - n ≤ x) (h2 : x ≤ 9) (hn : n < 9) : 10 - (n + 1) ≤ lessS' x f (-1) ∧ lessS' x f (-1) ≤ 9 := by
  have hx : 0 < x := by omega
  cases f
  · simp only [lessS', leastS]; simp; omega
  · simp only [lessS', leastS]
    simp [hx, w64]
    omega
theorem lc_u {s : Progress} {n i j : Int} {k : Key} (h : okU s n) (h2 : n < 9) : leaveC s (cert0 i j true k) = 0 := by
  have : ¬ s.length < 1 := by have := h.2.1; omega
  simp [leaveC, cert0, noneS, this]
theorem lp_u {s : Progress} {n i j : Int} {k : Key} (h : okU s n) (h2 : n < 9) : okU (leaveP s (cert0 i j true k)) (n + 1) := by
  obtain ⟨h0, h3, h4, h5, h6, h7, h8, h9, h10⟩ := h
  refine ⟨⟨okNm_auth _, h0.2.1, h0.2.2⟩, ?_, ?_, (lessU h5 h6 h2).1, (lessU h5 h6 h2).2, (lessU h7 h8 h2).1, (lessU h7 h8 h2).2, (lessU h9 h10 h2).1, (lessU h9 h10 h2).2⟩
  · simp only [leaveP, lenS]
    split <;> simp [leastS, cert0, noneS, w64] <;> omega
  · simp only [leaveP, lenS]
    split <;> simp [leastS, cert0, noneS, w64] <;> omega
theorem okU_b {a : Anchor} (h : okNm a.name) : okU (beginS a q0) 1 := ⟨⟨h, Nat.zero_le _, fun x hx => by cases hx⟩, by simp [beginS, limitS, q0], by simp [beginS, limitS, q0], by simp [beginS, limitS, q0], by simp [beginS, limitS, q0], by simp [beginS, limitS, q0], by simp [beginS, limitS, q0], by simp [beginS, limitS, q0], by simp [beginS, limitS, q0]⟩
theorem fin_u {s : Progress} {n : Int} {k : Key} (h : okU s n) (h2 : n < 9) : decide (finalS s (cert0 0 1 false k) > 0) = true := by
  obtain ⟨h0, h3, h4, h5, h6, h7, h8, h9, h10⟩ := h
  have := (lessU (f := true) h5 h6 h2).1
  simp [finalS, cert0, noneS]
  omega
-- f6 certpath/certpathlaw30.StepUnlimited
theorem F6 (l : List Int) (n : Int) : Fn Try.prog 6 [.pv (.one (.p (.sl (l.map eI)))), .pv (sc (.int .i64 n))] [] (fun r _ => r = sc (.bool true)) := by
  refine Fn.intro (rs := [.tmp 4]) hT Try.func6 (by kernel_rfl) rfl rfl rfl rfl fun C => ?_
  repeat (first | refine AwOps.nil ?_ | refine AwSch.nil ?_ | refine Aw.seq ?_ | refine Aw.region ?_ | refine Aw.block ?_ | refine Aw.skip ?_ | refine Aw.exit ?_ | refine Aw.condT rfl ?_ | refine Aw.condF rfl ?_)
  refine AwOps.v hT rfl ?_
  repeat (first | refine AwOps.nil ?_ | refine AwSch.nil ?_ | refine Aw.seq ?_ | refine Aw.region ?_ | refine Aw.block ?_ | refine Aw.skip ?_ | refine Aw.exit ?_ | refine Aw.condT rfl ?_ | refine Aw.condF rfl ?_)
  refine AwOps.v hT rfl ?_
  refine AwOps.ed (N := []) (Ed.callO (F8 _) rfl rfl rfl rfl ?_)
  rintro _ rfl
  refine AwOps.v hT rfl ?_
  repeat (first | refine AwOps.nil ?_ | refine AwSch.nil ?_ | refine Aw.seq ?_ | refine Aw.region ?_ | refine Aw.block ?_ | refine Aw.skip ?_ | refine Aw.exit ?_ | refine Aw.condT rfl ?_ | refine Aw.condF rfl ?_)
  refine AwOps.cl (F9 _ (by omega)) [] rfl ⟨⟨rfl, rfl⟩, trivial⟩ trivial rfl ?_   -- certpathmade2.Anchor
  rintro _ _ ⟨v0, k0, hv0, rfl⟩
  refine AwOps.build hT rfl ?_
  refine AwOps.turn (Less.say (t := 14) (B := .agg [.v (.int .i64 0), .v (.string ⟨#[]⟩), .v (.int .i64 0), .sl (List.map eStr []), .v (.bool false), .v (.bool false), .v (.bool false), .sl (List.map eGn []), .v (.int .i64 0), .v (.bool false), .sl (List.map eAnchor [])]) rfl rfl) ?_
  refine AwOps.cl (F13 ⟨authS v0, k0⟩ q0 (okNm_auth _)) [] rfl ⟨⟨rfl, rfl⟩, ⟨rfl, rfl⟩, trivial⟩ trivial rfl ?_   -- step.Begin
  rintro _ _ rfl
  refine AwOps.eff hT rfl ?_
  refine AwOps.eff hT rfl ?_
  repeat (first | refine AwOps.nil ?_ | refine AwSch.nil ?_ | refine Aw.seq ?_ | refine Aw.region ?_ | refine Aw.block ?_ | refine Aw.skip ?_ | refine Aw.exit ?_ | refine Aw.condT rfl ?_ | refine Aw.condF rfl ?_)
  refine AwOps.v hT rfl ?_
  refine AwOps.lit hT rfl ?_
  refine AwOps.turn (Tn.fz 17 rfl rfl (by first | rfl | (simp; done)) rfl) ?_
  refine AwOps.turn (Less.say (t := 17) (B := .one (.p (.sl (List.map eI [_])))) rfl rfl) ?_
  refine AwOps.ed (N := []) (Ed.callO (F8 _) rfl rfl rfl rfl ?_)
  rintro _ rfl
  refine AwOps.cl (F10 _ _ (by first | omega | (simp only [w64] at *; omega) | (simp [w64] at *; omega)) (by first | omega | (simp only [w64] at *; omega) | (simp [w64] at *; omega))) [18] rfl ⟨⟨18, rfl, rfl⟩, ⟨rfl, rfl⟩, trivial⟩ ⟨rfl, trivial⟩ rfl ?_   -- certpathmade.Deck).Next
  rintro _ _ ⟨v1, d1, rfl, rfl, hv1, hw1⟩
  refine AwOps.v hT rfl ?_
  first | refine AwOps.nm 20 rfl (by omega) (by omega) ?_ | skip
  refine AwOps.v hT rfl ?_
  repeat (first | refine AwOps.nil ?_ | refine AwSch.nil ?_ | refine Aw.seq ?_ | refine Aw.region ?_ | refine Aw.block ?_ | refine Aw.skip ?_ | refine Aw.exit ?_ | refine Aw.condT rfl ?_ | refine Aw.condF rfl ?_)
  refine AwOps.v hT rfl ?_
  repeat (first | refine AwOps.nil ?_ | refine AwSch.nil ?_ | refine Aw.seq ?_ | refine Aw.region ?_ | refine Aw.block ?_ | refine Aw.skip ?_ | refine Aw.exit ?_ | refine Aw.condT rfl ?_ | refine Aw.condF rfl ?_)
  refine Aw.lp (ι := Int × Progress × Dk) (n := 69) [(1, _), (5, _), (6, _)] [] (fun gq => [(7, sc (.int .i64 gq.1))]) (fun gq => [(6, .box ⟨45, ePr gq.2.1, []⟩), (12, .box ⟨75, eDk gq.2.2, []⟩)]) (fun gq => 1 ≤ gq.1 ∧ gq.1 ≤ 1 + v1 ∧ okU gq.2.1 gq.1) (fun gq => (9 - gq.1).toNat) (1, beginS ⟨authS v0, k0⟩ q0, _) ?ok1 (Less.tn ⟨rfl, ⟨rfl, rfl, rfl, rfl, trivial⟩, ⟨rfl, rfl, trivial⟩⟩) ?bd1
  case ok1 =>
    try dsimp only
    exact ⟨by omega, by omega, okU_b (okNm_auth _)⟩
  case bd1 =>
    rintro ⟨k7, x6, x12⟩ hi1
    try dsimp only at hi1
    show Aw _ _ _ ⟨69, [(7, sc (.int .i64 k7))] ++ [(1, _), (5, _), (6, _)], [(6, .box ⟨45, ePr x6, []⟩), (12, .box ⟨75, eDk x12, []⟩)] ++ []⟩ _
    repeat (first | refine AwOps.nil ?_ | refine AwSch.nil ?_ | refine Aw.seq ?_ | refine Aw.region ?_ | refine Aw.block ?_ | refine Aw.skip ?_ | refine Aw.exit ?_ | refine Aw.condT rfl ?_ | refine Aw.condF rfl ?_)
    iterate 3 refine AwOps.v hT rfl ?_
    repeat (first | refine AwOps.nil ?_ | refine AwSch.nil ?_ | refine Aw.seq ?_ | refine Aw.region ?_ | refine Aw.block ?_ | refine Aw.skip ?_ | refine Aw.exit ?_ | refine Aw.condT rfl ?_ | refine Aw.condF rfl ?_)
    refine Aw.tst rfl (fun hb23 => ?_) (fun hb23 => ?_)
    · skip
      have hk := of_decide_eq_true hb23
      repeat (first | refine AwOps.nil ?_ | refine AwSch.nil ?_ | refine Aw.seq ?_ | refine Aw.region ?_ | refine Aw.block ?_ | refine Aw.skip ?_ | refine Aw.exit ?_ | refine Aw.condT rfl ?_ | refine Aw.condF rfl ?_)
      refine AwOps.ed (N := []) (Ed.callO (F8 []) rfl rfl rfl rfl ?_)
      rintro _ rfl
      refine AwOps.v hT rfl ?_
      refine AwOps.cl (F10 _ _ (by first | omega | (simp only [w64] at *; omega) | (simp [w64] at *; omega)) (by first | omega | (simp only [w64] at *; omega) | (simp [w64] at *; omega))) [12] rfl ⟨⟨12, rfl, rfl⟩, ⟨rfl, rfl⟩, trivial⟩ ⟨rfl, trivial⟩ rfl ?_   -- certpathmade.Deck).Next
      rintro _ _ ⟨v3, d3, rfl, rfl, hv3, hw3⟩
      refine AwOps.v hT rfl ?_
      refine AwOps.cl (F10 _ _ (by first | omega | (simp only [w64] at *; omega) | (simp [w64] at *; omega)) (by first | omega | (simp only [w64] at *; omega) | (simp [w64] at *; omega))) [12] rfl ⟨⟨12, rfl, rfl⟩, ⟨rfl, rfl⟩, trivial⟩ ⟨rfl, trivial⟩ rfl ?_   -- certpathmade.Deck).Next
      rintro _ _ ⟨v4, d4, rfl, rfl, hv4, hw4⟩
      refine AwOps.cl (F19z _ v3 v4 true (by omega) (by omega) (by simp)) [26] rfl ⟨⟨26, rfl, rfl⟩, ⟨rfl, rfl⟩, ⟨rfl, rfl⟩, ⟨rfl, rfl⟩, trivial⟩ ⟨rfl, trivial⟩ rfl ?_   -- certpathmade2.CertFields
      rintro _ _ ⟨k1, rfl, rfl⟩
      refine AwOps.eff hT rfl ?_
      refine AwOps.eff hT rfl ?_
      repeat (first | refine AwOps.nil ?_ | refine AwSch.nil ?_ | refine Aw.seq ?_ | refine Aw.region ?_ | refine Aw.block ?_ | refine Aw.skip ?_ | refine Aw.exit ?_ | refine Aw.condT rfl ?_ | refine Aw.condF rfl ?_)
      refine AwOps.v hT rfl ?_
      refine AwOps.v hT rfl ?_
      refine AwOps.cl (F23 x6 (cert0 v3 v4 true k1) hi1.2.2.1 (okNm_auth _).1 (okNm_auth _).1 (okI_c0 (i := v3) (j := v4) (ca := true) (k := k1)) (okNm_auth _)) [] rfl ⟨⟨rfl, rfl⟩, ⟨rfl, rfl⟩, trivial⟩ trivial rfl ?_   -- step.Leave
      rintro _ _ rfl
      refine AwOps.turn (Less.say (t := 35) (B := .tup [.agg (ePr (leaveP x6 (cert0 v3 v4 true k1))), .one (.p (.v (.int .i64 0)))]) rfl (by rw [lc_u hi1.2.2 (by omega)]; rfl)) ?_
      iterate 3 refine AwOps.v hT rfl ?_
      refine AwOps.eff hT rfl ?_
      refine AwOps.eff hT rfl ?_
      refine AwOps.v hT rfl ?_
      repeat (first | refine AwOps.nil ?_ | refine AwSch.nil ?_ | refine Aw.seq ?_ | refine Aw.region ?_ | refine Aw.block ?_ | refine Aw.skip ?_ | refine Aw.exit ?_ | refine Aw.condT rfl ?_ | refine Aw.condF rfl ?_)
      refine AwOps.v hT rfl ?_
      refine AwOps.v hT rfl ?_
      repeat (first | refine AwOps.nil ?_ | refine AwSch.nil ?_ | refine Aw.seq ?_ | refine Aw.region ?_ | refine Aw.block ?_ | refine Aw.skip ?_ | refine Aw.exit ?_ | refine Aw.condT rfl ?_ | refine Aw.condF rfl ?_)
      refine AwOps.v hT rfl ?_
      refine AwOps.eff hT rfl ?_
      repeat (first | refine AwOps.nil ?_ | refine AwSch.nil ?_ | refine Aw.seq ?_ | refine Aw.region ?_ | refine Aw.block ?_ | refine Aw.skip ?_ | refine Aw.exit ?_ | refine Aw.condT rfl ?_ | refine Aw.condF rfl ?_)
      refine AwOps.v hT rfl ?_
      refine AwOps.v hT rfl ?_
      first | refine AwOps.nm 25 rfl (by omega) (by omega) ?_ | skip
      refine AwOps.v hT rfl ?_
      repeat (first | refine AwOps.nil ?_ | refine AwSch.nil ?_ | refine Aw.seq ?_ | refine Aw.region ?_ | refine Aw.block ?_ | refine Aw.skip ?_ | refine Aw.exit ?_ | refine Aw.condT rfl ?_ | refine Aw.condF rfl ?_)
      refine ⟨(_, _, _), ?nx1, ?mu1, Less.tn ⟨rfl, ⟨rfl, rfl, rfl, rfl, trivial⟩, ⟨rfl, rfl, trivial⟩⟩⟩
      case nx1 =>
        try dsimp only
        exact ⟨by omega, by omega, lp_u hi1.2.2 (by omega)⟩
      case mu1 =>
        try dsimp only
        first | omega | (simp only [w64] at *; omega) | (simp [w64] at *; omega)
    · skip
      have hk := of_decide_eq_false hb23
      have hk9 : k7 < 9 := by omega
      obtain ⟨hu0, hu1, hu2, hu3, hu4, hu5, hu6, hu7, hu8⟩ := hi1.2.2
      repeat (first | refine AwOps.nil ?_ | refine AwSch.nil ?_ | refine Aw.seq ?_ | refine Aw.region ?_ | refine Aw.block ?_ | refine Aw.skip ?_ | refine Aw.exit ?_ | refine Aw.condT rfl ?_ | refine Aw.condF rfl ?_)
      refine Aw.regionS [61] [(true, 0), (true, 1), (true, 2), (true, 3), (true, 4), (true, 5), (true, 6), (true, 7), (true, 8), (true, 9), (true, 10), (true, 11), (true, 12), (true, 13), (true, 14), (true, 15), (true, 16), (true, 17), (true, 18), (true, 19), (false, 20), (false, 21), (false, 22), (true, 23), (true, 24), (true, 25), (false, 26), (true, 27), (true, 28)] (by kernel_rfl) (by kernel_rfl) ?_
      iterate 3 refine AwSch.take (Yd.val hT rfl rfl) ?_
      refine AwSch.say (t := 43) (B := sc (.bool true)) rfl (by simp; omega) ?_
      iterate 4 refine AwSch.take (Yd.val hT rfl rfl) ?_
      refine AwSch.say (t := 47) (B := sc (.bool true)) rfl (by simp; omega) ?_
      iterate 5 refine AwSch.take (Yd.val hT rfl rfl) ?_
      refine AwSch.say (t := 52) (B := sc (.bool true)) rfl (by simp; omega) ?_
      iterate 5 refine AwSch.take (Yd.val hT rfl rfl) ?_
      refine AwSch.say (t := 57) (B := sc (.bool true)) rfl (by simp; omega) ?_
      iterate 3 refine AwSch.take (Yd.val hT rfl rfl) ?_
      refine AwSch.one ?_
      refine Ed.callO (F8 []) rfl rfl rfl rfl ?_
      rintro _ rfl
      refine AwSch.one ?_
      refine Ed.cl (F19z _ 0 1 false (by omega) (by omega) (by simp)) [61] rfl ⟨⟨61, rfl, rfl⟩, ⟨rfl, rfl⟩, ⟨rfl, rfl⟩, ⟨rfl, rfl⟩, trivial⟩ ⟨rfl, trivial⟩ rfl rfl ?_   -- certpathmade2.CertFields
      rintro _ _ ⟨k2, rfl, rfl⟩
      refine AwSch.one ?_
      refine Ed.cl (F26 x6 (cert0 0 1 false k2)) [] rfl ⟨⟨rfl, rfl⟩, ⟨rfl, rfl⟩, trivial⟩ trivial rfl rfl ?_   -- step.Final
      rintro _ _ rfl
      refine AwSch.take (Yd.val hT rfl rfl) ?_
      refine AwSch.say (t := 64) (B := sc (.bool true)) rfl (by rw [fin_u hi1.2.2 hk9]) ?_
      refine AwSch.take (Yd.val hT rfl rfl) ?_
      refine AwSch.take (Yd.val hT rfl rfl) ?_
      refine AwSch.one ?_
      refine Ed.cl (F22) [] rfl trivial trivial rfl rfl ?_   -- certpathlaw30.awake
      rintro _ _ rfl
      refine AwSch.take (Yd.val hT rfl rfl) ?_
      refine AwSch.take (Yd.val hT rfl rfl) ?_
      repeat (first | refine AwOps.nil ?_ | refine AwSch.nil ?_ | refine Aw.seq ?_ | refine Aw.region ?_ | refine Aw.block ?_ | refine Aw.skip ?_ | refine Aw.exit ?_ | refine Aw.condT rfl ?_ | refine Aw.condF rfl ?_)
      refine Aw.ret ?_
      refine ⟨_, [], rfl, trivial, ?_⟩
      exact rfl
end Go.Proofs.Ythhjfcmkelmobaa.Aw
