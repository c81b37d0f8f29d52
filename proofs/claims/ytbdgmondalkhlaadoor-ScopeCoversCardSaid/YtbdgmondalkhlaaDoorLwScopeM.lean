
/- The walks of the laws on covers and masks.
   Conditions: none. -/
import Derived.Test.YtbdgmondalkhlaaDoorWkScope4
namespace Go.Proofs.YtbdgmondalkhlaaDoor.Aw
open Go
set_option maxRecDepth 100000
set_option maxHeartbeats 4000000
set_option linter.unusedSimpArgs false
set_option linter.unusedVariables false

def gdM (m : Int) : Prop := ∃ n : Nat, n < 256 ∧ m = ((n * 2 : Nat) : Int)
theorem ofI2 {n : Nat} (h : n < 256) : (BitVec.ofInt IntKind.i64.bits ((n * 2 : Nat) : Int)).toNat = n * 2 := by
  show (BitVec.ofInt 64 ((n * 2 : Nat) : Int)).toNat = n * 2
  rw [BitVec.toNat_ofInt]
  omega
theorem wrS {n : Nat} (h : n < 256) : IntKind.wrap .i64 ((n * 2 : Nat) : Int) = ((n * 2 : Nat) : Int) := by rw [w64]; omega
theorem band_good {a b : Int} (ha : gdM a) (hb : gdM b) : gdM (band a b) := by
  obtain ⟨n, hn, rfl⟩ := ha
  obtain ⟨m, hm, rfl⟩ := hb
  have hd : n * 2 &&& m * 2 = (n &&& m) * 2 := by
    have := @Nat.shiftLeft_and_distrib 1 n m
    simpa [Nat.shiftLeft_eq] using this.symm
  have hlt : n &&& m < 256 := Nat.lt_of_le_of_lt Nat.and_le_left hn
  refine ⟨n &&& m, hlt, ?_⟩
  rw [band, BitVec.toNat_and, ofI2 hn, ofI2 hm, hd, wrS hlt]
theorem bor_good {a b : Int} (ha : gdM a) (hb : gdM b) : gdM (bor a b) := by
  obtain ⟨n, hn, rfl⟩ := ha
  obtain ⟨m, hm, rfl⟩ := hb
  have hd : n * 2 ||| m * 2 = (n ||| m) * 2 := by
    have := @Nat.shiftLeft_or_distrib 1 n m
    simpa [Nat.shiftLeft_eq] using this.symm
  have hlt : n ||| m < 256 := Nat.or_lt_two_pow (n := 8) hn hm
  refine ⟨n ||| m, hlt, ?_⟩
  rw [bor, BitVec.toNat_or, ofI2 hn, ofI2 hm, hd, wrS hlt]
theorem good_all {r : Int} (h : goodR r) : gdM (allR r) := by
  obtain ⟨h0, h1, h2⟩ := h
  exact ⟨(allR r).toNat / 2, by omega, by omega⟩
theorem good_0 : gdM 0 := ⟨0, by decide, rfl⟩
theorem covM_good {p : Point} {l : CList} (hp : goodR p.reasons) (hl : goodR l.scope.reasons) : gdM (covM p l) := by
  unfold covM
  split
  · exact band_good (good_all hp) (good_all hl)
  · exact good_all hp
theorem cov_good {c : Cert} {p : Point} {l : CList} (hp : goodR p.reasons) (hl : goodR l.scope.reasons) : gdM (covS c p l).1 := by
  unfold covS
  repeat' split
  all_goals first | exact good_0 | exact covM_good hp hl
theorem fold_good {c : Cert} {l : CList} (hl : goodR l.scope.reasons) : ∀ (ps : List Point) (m : Int), gdM m → (∀ p ∈ ps, goodR p.reasons) → gdM (ps.foldl (fun m p => bor m (covS c p l).1) m)
  | [], _, hm, _ => hm
  | p :: ps, _, hm, hp => fold_good hl ps _ (bor_good hm (cov_good (hp p (List.mem_cons_self ..)) hl)) fun q hq => hp q (List.mem_cons_of_mem _ hq)
theorem mask_rng {c : Cert} {l : CList} (hp : okPtsR c.info.points) (hl : goodR l.scope.reasons) : 0 ≤ maskS c l ∧ maskS c l ≤ 510 := by
  have h : gdM (maskS c l) := fold_good hl _ _ good_0 fun p hq => by
    unfold ptsS at hq
    split at hq
    · rw [List.mem_singleton.1 hq]; show goodR 0; decide
    · exact (hp.2 p hq).2
  obtain ⟨n, hn, h⟩ := h
  omega
-- f152 certpath/certpathlaw27.ScopeCovers
theorem F152 (l : List Int) : Fn Tryd.prog 3 [.pv (.one (.p (.sl (l.map eI))))] [] (fun r _ => r = sc (.bool (true))) := by
  refine Fn.intro (rs := [.tmp 2]) hT Tryd.func3 (by kernel_rfl) rfl rfl rfl rfl fun C => ?_
  refine Aw.seq (Aw.region ?_)
  refine AwOps.v hT rfl ?_
  refine AwOps.nil (Aw.seq (Aw.region ?_))
  refine AwOps.v hT rfl ?_
  refine AwOps.ed (N := []) (Ed.callO (F8 _) rfl rfl rfl rfl ?_)
  rintro _ rfl
  refine AwOps.cl (F157 _) [14] rfl ⟨⟨14, rfl, rfl⟩, trivial⟩ ⟨rfl, trivial⟩ rfl ?_   -- certpathlaw27.some
  rintro _ _ ⟨c1, l1, d1, rfl, rfl, hc1, hq1, hl1, hr1⟩
  have hp1 := okPtsR_ok hq1
  have hps := pts_ok hp1
  iterate 3 refine AwOps.v hT rfl ?_
  iterate 4 refine AwOps.eff hT rfl ?_
  refine AwOps.nil (Aw.seq (Aw.region ?_))
  refine AwOps.v hT rfl ?_
  refine AwOps.cl (F158 _ (by assumption)) [] rfl ⟨⟨rfl, rfl⟩, trivial⟩ trivial rfl ?_   -- scope.Points
  rintro _ _ rfl
  refine AwOps.v hT rfl ?_
  refine AwOps.nil (Aw.seq (Aw.region ?_))
  refine AwOps.v hT rfl ?_
  refine AwOps.cl (F159 _ (by assumption)) [] rfl ⟨⟨rfl, rfl⟩, trivial⟩ trivial rfl ?_   -- certpathref26.Points
  rintro _ _ rfl
  refine AwOps.v hT rfl ?_
  refine AwOps.nil (Aw.seq (Aw.seq (Aw.region ?_)))
  iterate 5 refine AwOps.v hT rfl ?_
  refine AwOps.nil ?_
  refine Aw.tst rfl (fun hb26 => ?_) (fun hb26 => ?_)
  · skip
    simp at hb26
  · skip
    refine Aw.skip (Aw.seq (Aw.seq (Aw.region ?_)))
    refine AwOps.v hT rfl ?_
    refine AwOps.nil (Aw.block ?_)
    have hB1 : (ptsS c1).length ≤ maxLen := by have := hps.1; unfold maxLen; omega
    refine Aw.lp (ι := Nat) (n := 62) [(3, _), (4, _), (6, _)] [(3, _), (4, _)] (fun gq => [(7, sc (.int .i64 gq))]) (fun gq => []) (fun gq => gq ≤ (ptsS c1).length ∧ (True)) (fun gq => (ptsS c1).length - gq) (0) ?ok1 (Less.tn ⟨rfl, ⟨rfl, rfl, rfl, rfl, trivial⟩, ⟨rfl, rfl, trivial⟩⟩) ?bd1
    case ok1 =>
      try dsimp only
      exact ⟨Nat.zero_le _, trivial⟩
    case bd1 =>
      intro i1 hi1
      try dsimp only at hi1
      show Aw _ _ _ ⟨62, [(7, sc (.int .i64 i1))] ++ [(3, _), (4, _), (6, _)], [] ++ [(3, _), (4, _)]⟩ _
      refine Aw.seq (Aw.seq (Aw.region ?_))
      iterate 4 refine AwOps.v hT rfl ?_
      refine AwOps.nil ?_
      refine Aw.tst rfl (fun hb30 => ?_) (fun hb30 => ?_)
      · skip
        have hlt1 : i1 < (ptsS c1).length := by simpa using hb30
        refine Aw.skip (Aw.seq (Aw.block (Aw.seq ?_)))
        refine Aw.regionS [] [(true, 0), (true, 1), (true, 2), (true, 3), (true, 4), (true, 5), (false, 6), (true, 7), (true, 8), (true, 9), (true, 10), (true, 11)] (by kernel_rfl) (by kernel_rfl) ?_
        iterate 3 refine AwSch.take (Yd.val hT rfl rfl) ?_
        refine AwSch.take (Yd.im hT rfl hlt1 rfl) ?_
        refine AwSch.take (Yd.val hT rfl rfl) ?_
        refine AwSch.take (Yd.val hT rfl rfl) ?_
        refine AwSch.one ?_
        refine Ed.cl (F160 c1 (ptsS c1)[i1] l1 hc1 (hps.2 _ (List.getElem_mem hlt1)) hl1) [] rfl ⟨⟨rfl, rfl⟩, ⟨rfl, rfl⟩, ⟨rfl, rfl⟩, trivial⟩ trivial rfl rfl ?_   -- scope.Covers
        rintro _ _ rfl
        iterate 5 refine AwSch.take (Yd.val hT rfl rfl) ?_
        refine AwSch.nil (Aw.seq ?_)
        refine Aw.regionS [] [(true, 0), (true, 1), (true, 2), (true, 3), (true, 4), (true, 5), (false, 6), (true, 7), (true, 8), (true, 9), (true, 10), (true, 11)] (by kernel_rfl) (by kernel_rfl) ?_
        iterate 3 refine AwSch.take (Yd.val hT rfl rfl) ?_
        refine AwSch.take (Yd.im hT rfl hlt1 rfl) ?_
        refine AwSch.take (Yd.val hT rfl rfl) ?_
        refine AwSch.take (Yd.val hT rfl rfl) ?_
        refine AwSch.one ?_
        refine Ed.cl (F161 c1 (ptsS c1)[i1] l1 hc1 (hps.2 _ (List.getElem_mem hlt1)) hl1) [] rfl ⟨⟨rfl, rfl⟩, ⟨rfl, rfl⟩, ⟨rfl, rfl⟩, trivial⟩ trivial rfl rfl ?_   -- certpathref26.Covers
        rintro _ _ rfl
        iterate 5 refine AwSch.take (Yd.val hT rfl rfl) ?_
        refine AwSch.nil (Aw.seq (Aw.region ?_))
        iterate 4 refine AwOps.v hT rfl ?_
        refine AwOps.split (t := 56) rfl (fun hb56 => ?_) (fun hb56 => ?_)
        · skip
          simp at hb56
        · skip
          iterate 4 refine AwOps.v hT rfl ?_
          refine AwOps.nil ?_
          refine Aw.tst rfl (fun hb60 => ?_) (fun hb60 => ?_)
          · skip
            simp at hb60
          · skip
            refine Aw.skip (Aw.region ?_)
            iterate 3 refine AwOps.v hT rfl ?_
            refine AwOps.nil ?_
            refine ⟨(i1 + 1), ?nx1, ?mu1, Less.tn ⟨rfl, ⟨incS hlt1 hB1, rfl, rfl, rfl, trivial⟩, ⟨rfl, rfl, trivial⟩⟩⟩
            case nx1 =>
              try dsimp only
              exact ⟨hlt1, trivial⟩
            case mu1 =>
              try dsimp only
              first | omega | (simp only [w64] at *; omega) | (simp [w64] at *; omega)
      · skip
        refine Aw.exit (Aw.seq (Aw.region ?_))
        refine AwOps.cl (F162) [] rfl trivial trivial rfl ?_   -- certpathlaw27.awake
        rintro _ _ rfl
        refine AwOps.v hT rfl ?_
        refine AwOps.nil ?_
        refine Aw.ret ?_
        refine ⟨_, [], rfl, trivial, ?_⟩
        exact rfl
-- f153 certpath/certpathlaw27.ScopeMasks
theorem F153 (l : List Int) : Fn Tryd.prog 4 [.pv (.one (.p (.sl (l.map eI))))] [] (fun r _ => r = sc (.bool (true))) := by
  refine Fn.intro (rs := [.tmp 2]) hT Tryd.func4 (by kernel_rfl) rfl rfl rfl rfl fun C => ?_
  refine Aw.seq (Aw.region ?_)
  refine AwOps.v hT rfl ?_
  refine AwOps.nil (Aw.seq (Aw.region ?_))
  refine AwOps.v hT rfl ?_
  refine AwOps.ed (N := []) (Ed.callO (F8 _) rfl rfl rfl rfl ?_)
  rintro _ rfl
  refine AwOps.cl (F157 _) [13] rfl ⟨⟨13, rfl, rfl⟩, trivial⟩ ⟨rfl, trivial⟩ rfl ?_   -- certpathlaw27.some
  rintro _ _ ⟨c1, l1, d1, rfl, rfl, hc1, hq1, hl1, hr1⟩
  have hp1 := okPtsR_ok hq1
  have hps := pts_ok hp1
  iterate 3 refine AwOps.v hT rfl ?_
  iterate 4 refine AwOps.eff hT rfl ?_
  refine AwOps.nil (Aw.seq (Aw.region ?_))
  refine AwOps.v hT rfl ?_
  refine AwOps.v hT rfl ?_
  refine AwOps.cl (F163 _ _ (by assumption) (by assumption) (by assumption)) [] rfl ⟨⟨rfl, rfl⟩, ⟨rfl, rfl⟩, trivial⟩ trivial rfl ?_   -- scope.Mask
  rintro _ _ rfl
  refine AwOps.v hT rfl ?_
  refine AwOps.nil (Aw.seq (Aw.region ?_))
  refine AwOps.v hT rfl ?_
  refine AwOps.cl (F158 _ (by assumption)) [] rfl ⟨⟨rfl, rfl⟩, trivial⟩ trivial rfl ?_   -- scope.Points
  rintro _ _ rfl
  refine AwOps.v hT rfl ?_
  refine AwOps.nil (Aw.seq (Aw.region ?_))
  refine AwOps.v hT rfl ?_
  refine AwOps.nil (Aw.seq (Aw.seq (Aw.region ?_)))
  refine AwOps.v hT rfl ?_
  refine AwOps.nil (Aw.block ?_)
  have hB1 : (ptsS c1).length ≤ maxLen := by have := hps.1; unfold maxLen; omega
  refine Aw.lp (ι := Int × Nat) (n := 62) [(3, _), (4, _), (5, _), (6, _)] [(3, _), (4, _)] (fun gq => [(7, sc (.int .i64 gq.1)), (8, sc (.int .i64 gq.2))]) (fun gq => []) (fun gq => gq.2 ≤ (ptsS c1).length ∧ (gq.1 = ((ptsS c1).take gq.2).foldl (fun m p => bor m (covS c1 p l1).1) 0)) (fun gq => (ptsS c1).length - gq.2) (_, 0) ?ok1 (Less.tn ⟨rfl, ⟨rfl, rfl, rfl, rfl, rfl, rfl, trivial⟩, ⟨rfl, rfl, trivial⟩⟩) ?bd1
  case ok1 =>
    try dsimp only
    exact ⟨Nat.zero_le _, rfl⟩
  case bd1 =>
    rintro ⟨k7, i1⟩ hi1
    try dsimp only at hi1
    show Aw _ _ _ ⟨62, [(7, sc (.int .i64 k7)), (8, sc (.int .i64 i1))] ++ [(3, _), (4, _), (5, _), (6, _)], [] ++ [(3, _), (4, _)]⟩ _
    refine Aw.seq (Aw.seq (Aw.region ?_))
    iterate 4 refine AwOps.v hT rfl ?_
    refine AwOps.nil ?_
    refine Aw.tst rfl (fun hb25 => ?_) (fun hb25 => ?_)
    · skip
      have hlt1 : i1 < (ptsS c1).length := by simpa using hb25
      refine Aw.skip (Aw.seq (Aw.block (Aw.seq ?_)))
      refine Aw.regionS [] [(true, 0), (true, 1), (true, 2), (true, 3), (true, 4), (true, 5), (false, 6), (true, 7), (true, 8), (true, 9), (true, 10), (true, 11)] (by kernel_rfl) (by kernel_rfl) ?_
      iterate 3 refine AwSch.take (Yd.val hT rfl rfl) ?_
      refine AwSch.take (Yd.im hT rfl hlt1 rfl) ?_
      refine AwSch.take (Yd.val hT rfl rfl) ?_
      refine AwSch.take (Yd.val hT rfl rfl) ?_
      refine AwSch.one ?_
      refine Ed.cl (F160 c1 (ptsS c1)[i1] l1 hc1 (hps.2 _ (List.getElem_mem hlt1)) hl1) [] rfl ⟨⟨rfl, rfl⟩, ⟨rfl, rfl⟩, ⟨rfl, rfl⟩, trivial⟩ trivial rfl rfl ?_   -- scope.Covers
      rintro _ _ rfl
      iterate 5 refine AwSch.take (Yd.val hT rfl rfl) ?_
      refine AwSch.nil (Aw.region ?_)
      refine AwOps.v hT rfl ?_
      refine AwOps.v hT rfl ?_
      refine AwOps.bin rfl _ rfl bor_run ?_
      refine AwOps.v hT rfl ?_
      refine AwOps.nil (Aw.region ?_)
      iterate 3 refine AwOps.v hT rfl ?_
      refine AwOps.nil ?_
      refine ⟨(_, i1 + 1), ?nx1, ?mu1, Less.tn ⟨rfl, ⟨rfl, incS hlt1 hB1, rfl, rfl, rfl, rfl, trivial⟩, ⟨rfl, rfl, trivial⟩⟩⟩
      case nx1 =>
        try dsimp only
        exact ⟨hlt1, fold_take hlt1 hi1.2⟩
      case mu1 =>
        try dsimp only
        first | omega | (simp only [w64] at *; omega) | (simp [w64] at *; omega)
    · skip
      have hk : k7 = maskS c1 l1 := fold_full hi1.2 (by simpa using hb25)
      subst hk
      have hm := mask_rng hq1 hr1
      refine Aw.exit (Aw.seq (Aw.region ?_))
      iterate 3 refine AwOps.v hT rfl ?_
      refine AwOps.cl (F164 _ _ (by assumption) (by assumption) (by assumption)) [] rfl ⟨⟨rfl, rfl⟩, ⟨rfl, rfl⟩, trivial⟩ trivial rfl ?_   -- certpathref26.Mask
      rintro _ _ rfl
      refine AwOps.v hT rfl ?_
      refine AwOps.v hT rfl ?_
      refine AwOps.split (t := 46) rfl (fun hb46 => ?_) (fun hb46 => ?_)
      · skip
        iterate 5 refine AwOps.v hT rfl ?_
        refine AwOps.split (t := 51) rfl (fun hb51 => ?_) (fun hb51 => ?_)
        · skip
          iterate 4 refine AwOps.v hT rfl ?_
          refine AwOps.split (t := 55) rfl (fun hb55 => ?_) (fun hb55 => ?_)
          · skip
            iterate 4 refine AwOps.v hT rfl ?_
            refine AwOps.split (t := 59) rfl (fun hb59 => ?_) (fun hb59 => ?_)
            · skip
              refine AwOps.cl (F162) [] rfl trivial trivial rfl ?_   -- certpathlaw27.awake
              rintro _ _ rfl
              refine AwOps.v hT rfl ?_
              refine AwOps.v hT rfl ?_
              refine AwOps.nil ?_
              refine Aw.ret ?_
              refine ⟨_, [], rfl, trivial, ?_⟩
              exact rfl
            · skip
              simp at hb59; omega
          · skip
            simp at hb55; omega
        · skip
          simp at hb51
      · skip
        simp at hb46
end Go.Proofs.YtbdgmondalkhlaaDoor.Aw
