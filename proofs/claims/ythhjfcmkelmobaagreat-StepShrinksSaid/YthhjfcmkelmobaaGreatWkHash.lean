
/- The walks of the reference's hash and of keys made with it: that they yield.
   Conditions: none. -/
import Derived.Test.YthhjfcmkelmobaaGreatWkMade2
namespace Go.Proofs.YthhjfcmkelmobaaGreat.Aw
open Go
set_option maxRecDepth 100000
set_option linter.unusedSimpArgs false
set_option linter.unusedVariables false

-- f107 certpath/certpathref01.round
theorem F107 (h : List Int) (b : ByteArray) (hh : h.length = 8) (hb : b.size = 64) : Fn Tryz.prog 103 [.pv (.one (.p (.sl (h.map eW)))), .pv (sc (.string b))] [] (fun r _ => ∃ x : List Int, r = .one (.p (.sl (x.map eW))) ∧ x.length = 8) := by
  refine Fn.intro (rs := [.tmp 4]) hT Tryz.func103 (by kernel_rfl) rfl rfl rfl rfl fun C => ?_
  repeat (first | refine AwOps.nil ?_ | refine AwSch.nil ?_ | refine Aw.seq ?_ | refine Aw.region ?_ | refine Aw.block ?_ | refine Aw.skip ?_ | refine Aw.exit ?_ | refine Aw.condT rfl ?_ | refine Aw.condF rfl ?_)
  refine AwOps.v hT rfl ?_
  repeat (first | refine AwOps.nil ?_ | refine AwSch.nil ?_ | refine Aw.seq ?_ | refine Aw.region ?_ | refine Aw.block ?_ | refine Aw.skip ?_ | refine Aw.exit ?_ | refine Aw.condT rfl ?_ | refine Aw.condF rfl ?_)
  refine AwOps.lit hT rfl ?_
  refine AwOps.turn (Tn.fz 26 rfl rfl (by first | rfl | (simp; done)) rfl) ?_
  refine AwOps.turn (Less.say (t := 26) (B := .one (.p (.sl (List.map eW [_, _, _, _, _, _, _, _, _, _, _, _, _, _, _, _, _, _, _, _, _, _, _, _, _, _, _, _, _, _, _, _, _, _, _, _, _, _, _, _, _, _, _, _, _, _, _, _, _, _, _, _, _, _, _, _, _, _, _, _, _, _, _, _])))) rfl rfl) ?_
  refine AwOps.v hT rfl ?_
  repeat (first | refine AwOps.nil ?_ | refine AwSch.nil ?_ | refine Aw.seq ?_ | refine Aw.region ?_ | refine Aw.block ?_ | refine Aw.skip ?_ | refine Aw.exit ?_ | refine Aw.condT rfl ?_ | refine Aw.condF rfl ?_)
  refine AwOps.eff hT rfl ?_
  refine AwOps.turn (Tn.softB 6 rfl rfl) ?_
  refine AwOps.turn (Tn.arr 6 906 rfl rfl (by decide) rfl rfl rfl) ?_
  refine AwOps.turn (Tn.sayH (b := 906) (B := .row 151 1 true (List.map eW (List.replicate 64 0))) rfl rfl) ?_
  repeat (first | refine AwOps.nil ?_ | refine AwSch.nil ?_ | refine Aw.seq ?_ | refine Aw.region ?_ | refine Aw.block ?_ | refine Aw.skip ?_ | refine Aw.exit ?_ | refine Aw.condT rfl ?_ | refine Aw.condF rfl ?_)
  refine AwOps.v hT rfl ?_
  repeat (first | refine AwOps.nil ?_ | refine AwSch.nil ?_ | refine Aw.seq ?_ | refine Aw.region ?_ | refine Aw.block ?_ | refine Aw.skip ?_ | refine Aw.exit ?_ | refine Aw.condT rfl ?_ | refine Aw.condF rfl ?_)
  refine Aw.lp (ι := Int × List (Int)) (n := 266) [(0, _), (1, _), (5, _), (6, _)] [] (fun g => [(7, sc (.int .i64 g.1))]) (fun g => [(906, .row 151 1 true (List.map eW g.2))]) (fun g => 0 ≤ g.1 ∧ g.1 ≤ 16 ∧ g.2.length = 64) (fun g => (16 - g.1).toNat) (_, _) ?ok1 (Less.tn ⟨rfl, ⟨rfl, rfl, rfl, rfl, rfl, trivial⟩, ⟨rfl, trivial⟩⟩) ?bd1
  case ok1 =>
    try dsimp only
    exact ⟨by omega, by omega, by simp⟩
  case bd1 =>
    rintro ⟨k7, l906⟩ hi1
    try dsimp only at hi1
    show Aw _ _ _ ⟨266, [(7, sc (.int .i64 k7))] ++ [(0, _), (1, _), (5, _), (6, _)], [(906, .row 151 1 true (List.map eW l906))] ++ []⟩ _
    repeat (first | refine AwOps.nil ?_ | refine AwSch.nil ?_ | refine Aw.seq ?_ | refine Aw.region ?_ | refine Aw.block ?_ | refine Aw.skip ?_ | refine Aw.exit ?_ | refine Aw.condT rfl ?_ | refine Aw.condF rfl ?_)
    refine AwOps.v hT rfl ?_
    refine AwOps.v hT rfl ?_
    repeat (first | refine AwOps.nil ?_ | refine AwSch.nil ?_ | refine Aw.seq ?_ | refine Aw.region ?_ | refine Aw.block ?_ | refine Aw.skip ?_ | refine Aw.exit ?_ | refine Aw.condT rfl ?_ | refine Aw.condF rfl ?_)
    refine Aw.tst rfl (fun hb28 => ?_) (fun hb28 => ?_)
    · skip
      have hk : k7 < 16 := by simpa using hb28
      repeat (first | refine AwOps.nil ?_ | refine AwSch.nil ?_ | refine Aw.seq ?_ | refine Aw.region ?_ | refine Aw.block ?_ | refine Aw.skip ?_ | refine Aw.exit ?_ | refine Aw.condT rfl ?_ | refine Aw.condF rfl ?_)
      refine Aw.regionS [906] [(true, 0), (true, 1), (true, 2), (true, 3), (true, 4), (true, 5), (true, 6), (true, 7), (true, 8), (true, 9), (true, 10), (true, 11), (true, 12), (true, 13), (true, 14), (true, 15), (true, 16), (true, 17), (true, 18), (true, 19), (true, 20), (true, 21), (true, 22), (true, 23), (true, 24), (true, 25), (true, 26), (true, 27), (true, 28), (true, 29), (true, 30), (false, 31)] (by kernel_rfl) (by kernel_rfl) ?_
      iterate 4 refine AwSch.take (Yd.val hT rfl rfl) ?_
      first | refine AwSch.nm 34 rfl (by omega) (by omega) ?_ | skip
      refine AwSch.take (Yd.byte hT rfl (by first | omega | (simp only [w64] at *; omega) | (simp [w64] at *; omega)) (by first | omega | (simp only [w64] at *; omega) | (simp [w64] at *; omega))) ?_
      iterate 5 refine AwSch.take (Yd.val hT rfl rfl) ?_
      first | refine AwSch.nm 40 rfl (by omega) (by omega) ?_ | skip
      refine AwSch.take (Yd.val hT rfl rfl) ?_
      first | refine AwSch.nm 41 rfl (by omega) (by omega) ?_ | skip
      refine AwSch.take (Yd.byte hT rfl (by first | omega | (simp only [w64] at *; omega) | (simp [w64] at *; omega)) (by first | omega | (simp only [w64] at *; omega) | (simp [w64] at *; omega))) ?_
      iterate 6 refine AwSch.take (Yd.val hT rfl rfl) ?_
      first | refine AwSch.nm 48 rfl (by omega) (by omega) ?_ | skip
      refine AwSch.take (Yd.val hT rfl rfl) ?_
      first | refine AwSch.nm 49 rfl (by omega) (by omega) ?_ | skip
      refine AwSch.take (Yd.byte hT rfl (by first | omega | (simp only [w64] at *; omega) | (simp [w64] at *; omega)) (by first | omega | (simp only [w64] at *; omega) | (simp [w64] at *; omega))) ?_
      iterate 6 refine AwSch.take (Yd.val hT rfl rfl) ?_
      first | refine AwSch.nm 56 rfl (by omega) (by omega) ?_ | skip
      refine AwSch.take (Yd.val hT rfl rfl) ?_
      first | refine AwSch.nm 57 rfl (by omega) (by omega) ?_ | skip
      refine AwSch.take (Yd.byte hT rfl (by first | omega | (simp only [w64] at *; omega) | (simp [w64] at *; omega)) (by first | omega | (simp only [w64] at *; omega) | (simp [w64] at *; omega))) ?_
      refine AwSch.take (Yd.val hT rfl rfl) ?_
      refine AwSch.take (Yd.val hT rfl rfl) ?_
      refine AwSch.take (Yd.idxa hT rfl rfl (by first | omega | (simp only [List.length_cons, List.length_nil, List.length_map]; omega) | (simp only [List.length_cons, List.length_nil, List.length_map, w64] at *; omega) | (simp [w64] at *; omega)) (by first | omega | (simp only [List.length_cons, List.length_nil, List.length_map]; omega) | (simp only [List.length_cons, List.length_nil, List.length_map, w64] at *; omega) | (simp [w64] at *; omega)) (by first | omega | (simp only [List.length_cons, List.length_nil, List.length_map]; omega) | (simp only [List.length_cons, List.length_nil, List.length_map, w64] at *; omega) | (simp [w64] at *; omega))) ?_
      refine AwSch.one ?_
      refine Ed.sto hT rfl rfl _ (ldm (by first | omega | (simp only [List.length_cons, List.length_nil, List.length_map]; omega) | (simp only [List.length_cons, List.length_nil, List.length_map, w64] at *; omega) | (simp [w64] at *; omega))) (Nat.le_refl _) (by decide) ?_
      refine AwSch.sayH (b := 906) rfl (rowset (f := eW)) ?_
      repeat (first | refine AwOps.nil ?_ | refine AwSch.nil ?_ | refine Aw.seq ?_ | refine Aw.region ?_ | refine Aw.block ?_ | refine Aw.skip ?_ | refine Aw.exit ?_ | refine Aw.condT rfl ?_ | refine Aw.condF rfl ?_)
      refine AwOps.v hT rfl ?_
      refine AwOps.v hT rfl ?_
      first | refine AwOps.nm 30 rfl (by omega) (by omega) ?_ | skip
      refine AwOps.v hT rfl ?_
      repeat (first | refine AwOps.nil ?_ | refine AwSch.nil ?_ | refine Aw.seq ?_ | refine Aw.region ?_ | refine Aw.block ?_ | refine Aw.skip ?_ | refine Aw.exit ?_ | refine Aw.condT rfl ?_ | refine Aw.condF rfl ?_)
      refine ⟨(_, _), ?nx1, ?mu1, Less.tn ⟨rfl, ⟨rfl, rfl, rfl, rfl, rfl, trivial⟩, ⟨rfl, trivial⟩⟩⟩
      case nx1 =>
        try dsimp only
        exact ⟨by first | omega | (simp only [w64] at *; omega) | (simp [w64] at *; omega), by first | omega | (simp only [w64] at *; omega) | (simp [w64] at *; omega), by rw [List.length_set]; exact hi1.2.2⟩
      case mu1 =>
        try dsimp only
        first | omega | (simp only [w64] at *; omega) | (simp [w64] at *; omega)
    · skip
      repeat (first | refine AwOps.nil ?_ | refine AwSch.nil ?_ | refine Aw.seq ?_ | refine Aw.region ?_ | refine Aw.block ?_ | refine Aw.skip ?_ | refine Aw.exit ?_ | refine Aw.condT rfl ?_ | refine Aw.condF rfl ?_)
      refine AwOps.v hT rfl ?_
      repeat (first | refine AwOps.nil ?_ | refine AwSch.nil ?_ | refine Aw.seq ?_ | refine Aw.region ?_ | refine Aw.block ?_ | refine Aw.skip ?_ | refine Aw.exit ?_ | refine Aw.condT rfl ?_ | refine Aw.condF rfl ?_)
      refine Aw.lp (ι := Int × List (Int)) (n := 266) [(0, _), (5, _), (6, _)] [] (fun g => [(8, sc (.int .i64 g.1))]) (fun g => [(906, .row 151 1 true (List.map eW g.2))]) (fun g => 16 ≤ g.1 ∧ g.1 ≤ 64 ∧ g.2.length = 64) (fun g => (64 - g.1).toNat) (_, _) ?ok2 (Less.tn ⟨rfl, ⟨rfl, rfl, rfl, rfl, trivial⟩, ⟨rfl, trivial⟩⟩) ?bd2
      case ok2 =>
        try dsimp only
        exact ⟨by omega, by omega, hi1.2.2⟩
      case bd2 =>
        rintro ⟨k8, l906⟩ hi2
        try dsimp only at hi2
        show Aw _ _ _ ⟨266, [(8, sc (.int .i64 k8))] ++ [(0, _), (5, _), (6, _)], [(906, .row 151 1 true (List.map eW l906))] ++ []⟩ _
        repeat (first | refine AwOps.nil ?_ | refine AwSch.nil ?_ | refine Aw.seq ?_ | refine Aw.region ?_ | refine Aw.block ?_ | refine Aw.skip ?_ | refine Aw.exit ?_ | refine Aw.condT rfl ?_ | refine Aw.condF rfl ?_)
        refine AwOps.v hT rfl ?_
        refine AwOps.v hT rfl ?_
        repeat (first | refine AwOps.nil ?_ | refine AwSch.nil ?_ | refine Aw.seq ?_ | refine Aw.region ?_ | refine Aw.block ?_ | refine Aw.skip ?_ | refine Aw.exit ?_ | refine Aw.condT rfl ?_ | refine Aw.condF rfl ?_)
        refine Aw.tst rfl (fun hb63 => ?_) (fun hb63 => ?_)
        · skip
          have hk : k8 < 64 := by simpa using hb63
          repeat (first | refine AwOps.nil ?_ | refine AwSch.nil ?_ | refine Aw.seq ?_ | refine Aw.region ?_ | refine Aw.block ?_ | refine Aw.skip ?_ | refine Aw.exit ?_ | refine Aw.condT rfl ?_ | refine Aw.condF rfl ?_)
          refine Aw.regionS [] [(true, 0), (true, 1), (true, 2), (true, 3), (true, 4), (true, 5), (true, 6), (true, 7), (true, 8), (true, 9)] (by kernel_rfl) (by kernel_rfl) ?_
          refine AwSch.take (Yd.val hT rfl rfl) ?_
          refine AwSch.take (Yd.val hT rfl rfl) ?_
          first | refine AwSch.nm 67 rfl (by omega) (by omega) ?_ | skip
          refine AwSch.take (Yd.idxa hT rfl rfl (by first | omega | (simp only [List.length_cons, List.length_nil, List.length_map]; omega) | (simp only [List.length_cons, List.length_nil, List.length_map, w64] at *; omega) | (simp [w64] at *; omega)) (by first | omega | (simp only [List.length_cons, List.length_nil, List.length_map]; omega) | (simp only [List.length_cons, List.length_nil, List.length_map, w64] at *; omega) | (simp [w64] at *; omega)) (by first | omega | (simp only [List.length_cons, List.length_nil, List.length_map]; omega) | (simp only [List.length_cons, List.length_nil, List.length_map, w64] at *; omega) | (simp [w64] at *; omega))) ?_
          refine AwSch.take (Yd.ldo hT rfl rfl _ (ldm (by first | omega | (simp only [List.length_cons, List.length_nil, List.length_map]; omega) | (simp only [List.length_cons, List.length_nil, List.length_map, w64] at *; omega) | (simp [w64] at *; omega))) rfl (by decide)) ?_
          refine AwSch.take (Yd.val hT rfl rfl) ?_
          refine AwSch.take (Yd.val hT rfl rfl) ?_
          first | refine AwSch.nm 71 rfl (by omega) (by omega) ?_ | skip
          refine AwSch.take (Yd.idxa hT rfl rfl (by first | omega | (simp only [List.length_cons, List.length_nil, List.length_map]; omega) | (simp only [List.length_cons, List.length_nil, List.length_map, w64] at *; omega) | (simp [w64] at *; omega)) (by first | omega | (simp only [List.length_cons, List.length_nil, List.length_map]; omega) | (simp only [List.length_cons, List.length_nil, List.length_map, w64] at *; omega) | (simp [w64] at *; omega)) (by first | omega | (simp only [List.length_cons, List.length_nil, List.length_map]; omega) | (simp only [List.length_cons, List.length_nil, List.length_map, w64] at *; omega) | (simp [w64] at *; omega))) ?_
          refine AwSch.take (Yd.ldo hT rfl rfl _ (ldm (by first | omega | (simp only [List.length_cons, List.length_nil, List.length_map]; omega) | (simp only [List.length_cons, List.length_nil, List.length_map, w64] at *; omega) | (simp [w64] at *; omega))) rfl (by decide)) ?_
          refine AwSch.take (Yd.val hT rfl rfl) ?_
          refine AwSch.take (Yd.val hT rfl rfl) ?_
          repeat (first | refine AwOps.nil ?_ | refine AwSch.nil ?_ | refine Aw.seq ?_ | refine Aw.region ?_ | refine Aw.block ?_ | refine Aw.skip ?_ | refine Aw.exit ?_ | refine Aw.condT rfl ?_ | refine Aw.condF rfl ?_)
          iterate 15 refine AwOps.v hT rfl ?_
          repeat (first | refine AwOps.nil ?_ | refine AwSch.nil ?_ | refine Aw.seq ?_ | refine Aw.region ?_ | refine Aw.block ?_ | refine Aw.skip ?_ | refine Aw.exit ?_ | refine Aw.condT rfl ?_ | refine Aw.condF rfl ?_)
          iterate 15 refine AwOps.v hT rfl ?_
          repeat (first | refine AwOps.nil ?_ | refine AwSch.nil ?_ | refine Aw.seq ?_ | refine Aw.region ?_ | refine Aw.block ?_ | refine Aw.skip ?_ | refine Aw.exit ?_ | refine Aw.condT rfl ?_ | refine Aw.condF rfl ?_)
          refine Aw.regionAny [906] (by kernel_rfl) ?_
          refine AwAny.tk (i := 0) (Yd.val hT rfl rfl) (by kernel_rfl) ?_
          refine AwAny.tk (i := 1) (Yd.val hT rfl rfl) (by kernel_rfl) ?_
          refine AwAny.tk (i := 2) (Yd.val hT rfl rfl) (by kernel_rfl) ?_
          first | refine AwAny.nm 104 rfl (by omega) (by omega) ?_ | skip
          refine AwAny.tk (i := 3) (Yd.idxa hT rfl rfl (by first | omega | (simp only [List.length_cons, List.length_nil, List.length_map]; omega) | (simp only [List.length_cons, List.length_nil, List.length_map, w64] at *; omega) | (simp [w64] at *; omega)) (by first | omega | (simp only [List.length_cons, List.length_nil, List.length_map]; omega) | (simp only [List.length_cons, List.length_nil, List.length_map, w64] at *; omega) | (simp [w64] at *; omega)) (by first | omega | (simp only [List.length_cons, List.length_nil, List.length_map]; omega) | (simp only [List.length_cons, List.length_nil, List.length_map, w64] at *; omega) | (simp [w64] at *; omega))) (by kernel_rfl) ?_
          refine AwAny.tk (i := 5) (Yd.val hT rfl rfl) (by kernel_rfl) ?_
          refine AwAny.tk (i := 7) (Yd.val hT rfl rfl) (by kernel_rfl) ?_
          refine AwAny.tk (i := 8) (Yd.val hT rfl rfl) (by kernel_rfl) ?_
          first | refine AwAny.nm 110 rfl (by omega) (by omega) ?_ | skip
          refine AwAny.tk (i := 9) (Yd.idxa hT rfl rfl (by first | omega | (simp only [List.length_cons, List.length_nil, List.length_map]; omega) | (simp only [List.length_cons, List.length_nil, List.length_map, w64] at *; omega) | (simp [w64] at *; omega)) (by first | omega | (simp only [List.length_cons, List.length_nil, List.length_map]; omega) | (simp only [List.length_cons, List.length_nil, List.length_map, w64] at *; omega) | (simp [w64] at *; omega)) (by first | omega | (simp only [List.length_cons, List.length_nil, List.length_map]; omega) | (simp only [List.length_cons, List.length_nil, List.length_map, w64] at *; omega) | (simp [w64] at *; omega))) (by kernel_rfl) ?_
          refine AwAny.tk (i := 12) (Yd.val hT rfl rfl) (by kernel_rfl) ?_
          refine AwAny.two (i := 4) (j := 10) (by kernel_rfl) ?_ ?_
          · skip
            refine Yd.ed (Yd.ldo hT rfl rfl _ (ldm (by first | omega | (simp only [List.length_cons, List.length_nil, List.length_map]; omega) | (simp only [List.length_cons, List.length_nil, List.length_map, w64] at *; omega) | (simp [w64] at *; omega))) rfl (by decide)) ?_
            refine AwAny.tk (i := 6) (Yd.val hT rfl rfl) (by kernel_rfl) ?_
            refine AwAny.one (i := 10) (by kernel_rfl) ?_
            refine Yd.ed (Yd.ldo hT rfl rfl _ (ldm (by first | omega | (simp only [List.length_cons, List.length_nil, List.length_map]; omega) | (simp only [List.length_cons, List.length_nil, List.length_map, w64] at *; omega) | (simp [w64] at *; omega))) rfl (by decide)) ?_
            refine AwAny.tk (i := 11) (Yd.val hT rfl rfl) (by kernel_rfl) ?_
            refine AwAny.tk (i := 13) (Yd.val hT rfl rfl) (by kernel_rfl) ?_
            refine AwAny.tk (i := 14) (Yd.idxa hT rfl rfl (by first | omega | (simp only [List.length_cons, List.length_nil, List.length_map]; omega) | (simp only [List.length_cons, List.length_nil, List.length_map, w64] at *; omega) | (simp [w64] at *; omega)) (by first | omega | (simp only [List.length_cons, List.length_nil, List.length_map]; omega) | (simp only [List.length_cons, List.length_nil, List.length_map, w64] at *; omega) | (simp [w64] at *; omega)) (by first | omega | (simp only [List.length_cons, List.length_nil, List.length_map]; omega) | (simp only [List.length_cons, List.length_nil, List.length_map, w64] at *; omega) | (simp [w64] at *; omega))) (by kernel_rfl) ?_
            refine AwAny.one (i := 15) (by kernel_rfl) ?_
            refine Ed.sto hT rfl rfl _ (ldm (by first | omega | (simp only [List.length_cons, List.length_nil, List.length_map]; omega) | (simp only [List.length_cons, List.length_nil, List.length_map, w64] at *; omega) | (simp [w64] at *; omega))) (Nat.le_refl _) (by decide) ?_
            refine AwAny.sayH (b := 906) rfl (rowset (f := eW)) ?_
            refine AwAny.done (by kernel_rfl) ?_
            repeat (first | refine AwOps.nil ?_ | refine AwSch.nil ?_ | refine Aw.seq ?_ | refine Aw.region ?_ | refine Aw.block ?_ | refine Aw.skip ?_ | refine Aw.exit ?_ | refine Aw.condT rfl ?_ | refine Aw.condF rfl ?_)
            refine AwOps.v hT rfl ?_
            refine AwOps.v hT rfl ?_
            first | refine AwOps.nm 65 rfl (by omega) (by omega) ?_ | skip
            refine AwOps.v hT rfl ?_
            repeat (first | refine AwOps.nil ?_ | refine AwSch.nil ?_ | refine Aw.seq ?_ | refine Aw.region ?_ | refine Aw.block ?_ | refine Aw.skip ?_ | refine Aw.exit ?_ | refine Aw.condT rfl ?_ | refine Aw.condF rfl ?_)
            refine ⟨(_, _), ?nx2, ?mu2, Less.tn ⟨rfl, ⟨rfl, rfl, rfl, rfl, trivial⟩, ⟨rfl, trivial⟩⟩⟩
            case nx2 =>
              try dsimp only
              exact ⟨by first | omega | (simp only [w64] at *; omega) | (simp [w64] at *; omega), by first | omega | (simp only [w64] at *; omega) | (simp [w64] at *; omega), by rw [List.length_set]; exact hi2.2.2⟩
            case mu2 =>
              try dsimp only
              first | omega | (simp only [w64] at *; omega) | (simp [w64] at *; omega)
          · skip
            refine Yd.ed (Yd.ldo hT rfl rfl _ (ldm (by first | omega | (simp only [List.length_cons, List.length_nil, List.length_map]; omega) | (simp only [List.length_cons, List.length_nil, List.length_map, w64] at *; omega) | (simp [w64] at *; omega))) rfl (by decide)) ?_
            refine AwAny.one (i := 4) (by kernel_rfl) ?_
            refine Yd.ed (Yd.ldo hT rfl rfl _ (ldm (by first | omega | (simp only [List.length_cons, List.length_nil, List.length_map]; omega) | (simp only [List.length_cons, List.length_nil, List.length_map, w64] at *; omega) | (simp [w64] at *; omega))) rfl (by decide)) ?_
            refine AwAny.tk (i := 6) (Yd.val hT rfl rfl) (by kernel_rfl) ?_
            refine AwAny.tk (i := 11) (Yd.val hT rfl rfl) (by kernel_rfl) ?_
            refine AwAny.tk (i := 13) (Yd.val hT rfl rfl) (by kernel_rfl) ?_
            refine AwAny.tk (i := 14) (Yd.idxa hT rfl rfl (by first | omega | (simp only [List.length_cons, List.length_nil, List.length_map]; omega) | (simp only [List.length_cons, List.length_nil, List.length_map, w64] at *; omega) | (simp [w64] at *; omega)) (by first | omega | (simp only [List.length_cons, List.length_nil, List.length_map]; omega) | (simp only [List.length_cons, List.length_nil, List.length_map, w64] at *; omega) | (simp [w64] at *; omega)) (by first | omega | (simp only [List.length_cons, List.length_nil, List.length_map]; omega) | (simp only [List.length_cons, List.length_nil, List.length_map, w64] at *; omega) | (simp [w64] at *; omega))) (by kernel_rfl) ?_
            refine AwAny.one (i := 15) (by kernel_rfl) ?_
            refine Ed.sto hT rfl rfl _ (ldm (by first | omega | (simp only [List.length_cons, List.length_nil, List.length_map]; omega) | (simp only [List.length_cons, List.length_nil, List.length_map, w64] at *; omega) | (simp [w64] at *; omega))) (Nat.le_refl _) (by decide) ?_
            refine AwAny.sayH (b := 906) rfl (rowset (f := eW)) ?_
            refine AwAny.done (by kernel_rfl) ?_
            repeat (first | refine AwOps.nil ?_ | refine AwSch.nil ?_ | refine Aw.seq ?_ | refine Aw.region ?_ | refine Aw.block ?_ | refine Aw.skip ?_ | refine Aw.exit ?_ | refine Aw.condT rfl ?_ | refine Aw.condF rfl ?_)
            refine AwOps.v hT rfl ?_
            refine AwOps.v hT rfl ?_
            first | refine AwOps.nm 65 rfl (by omega) (by omega) ?_ | skip
            refine AwOps.v hT rfl ?_
            repeat (first | refine AwOps.nil ?_ | refine AwSch.nil ?_ | refine Aw.seq ?_ | refine Aw.region ?_ | refine Aw.block ?_ | refine Aw.skip ?_ | refine Aw.exit ?_ | refine Aw.condT rfl ?_ | refine Aw.condF rfl ?_)
            refine ⟨(_, _), ?nx2, ?mu2, Less.tn ⟨rfl, ⟨rfl, rfl, rfl, rfl, trivial⟩, ⟨rfl, trivial⟩⟩⟩
            case nx2 =>
              try dsimp only
              exact ⟨by first | omega | (simp only [w64] at *; omega) | (simp [w64] at *; omega), by first | omega | (simp only [w64] at *; omega) | (simp [w64] at *; omega), by rw [List.length_set]; exact hi2.2.2⟩
            case mu2 =>
              try dsimp only
              first | omega | (simp only [w64] at *; omega) | (simp [w64] at *; omega)
        · skip
          repeat (first | refine AwOps.nil ?_ | refine AwSch.nil ?_ | refine Aw.seq ?_ | refine Aw.region ?_ | refine Aw.block ?_ | refine Aw.skip ?_ | refine Aw.exit ?_ | refine Aw.condT rfl ?_ | refine Aw.condF rfl ?_)
          refine Aw.regionS [] [(true, 0), (true, 1), (true, 2), (true, 3), (true, 4), (true, 5), (true, 6), (true, 7), (true, 8), (true, 9), (true, 10), (true, 11), (true, 12), (true, 13), (true, 14), (true, 15), (true, 16), (true, 17), (true, 18), (true, 19), (true, 20), (true, 21), (true, 22), (true, 23), (true, 24), (true, 25), (true, 26), (true, 27), (true, 28), (true, 29), (true, 30), (true, 31)] (by kernel_rfl) (by kernel_rfl) ?_
          refine AwSch.take (Yd.val hT rfl rfl) ?_
          refine AwSch.take (Yd.imI hT rfl (by first | omega | (simp only [w64] at *; omega) | (simp [w64] at *; omega)) (by first | omega | (simp only [List.length_cons, List.length_nil, List.length_map]; omega) | (simp only [List.length_cons, List.length_nil, List.length_map, w64] at *; omega) | (simp [w64] at *; omega)) rfl) ?_
          refine AwSch.take (Yd.val hT rfl rfl) ?_
          refine AwSch.take (Yd.val hT rfl rfl) ?_
          refine AwSch.take (Yd.imI hT rfl (by first | omega | (simp only [w64] at *; omega) | (simp [w64] at *; omega)) (by first | omega | (simp only [List.length_cons, List.length_nil, List.length_map]; omega) | (simp only [List.length_cons, List.length_nil, List.length_map, w64] at *; omega) | (simp [w64] at *; omega)) rfl) ?_
          refine AwSch.take (Yd.val hT rfl rfl) ?_
          refine AwSch.take (Yd.val hT rfl rfl) ?_
          refine AwSch.take (Yd.imI hT rfl (by first | omega | (simp only [w64] at *; omega) | (simp [w64] at *; omega)) (by first | omega | (simp only [List.length_cons, List.length_nil, List.length_map]; omega) | (simp only [List.length_cons, List.length_nil, List.length_map, w64] at *; omega) | (simp [w64] at *; omega)) rfl) ?_
          refine AwSch.take (Yd.val hT rfl rfl) ?_
          refine AwSch.take (Yd.val hT rfl rfl) ?_
          refine AwSch.take (Yd.imI hT rfl (by first | omega | (simp only [w64] at *; omega) | (simp [w64] at *; omega)) (by first | omega | (simp only [List.length_cons, List.length_nil, List.length_map]; omega) | (simp only [List.length_cons, List.length_nil, List.length_map, w64] at *; omega) | (simp [w64] at *; omega)) rfl) ?_
          refine AwSch.take (Yd.val hT rfl rfl) ?_
          refine AwSch.take (Yd.val hT rfl rfl) ?_
          refine AwSch.take (Yd.imI hT rfl (by first | omega | (simp only [w64] at *; omega) | (simp [w64] at *; omega)) (by first | omega | (simp only [List.length_cons, List.length_nil, List.length_map]; omega) | (simp only [List.length_cons, List.length_nil, List.length_map, w64] at *; omega) | (simp [w64] at *; omega)) rfl) ?_
          refine AwSch.take (Yd.val hT rfl rfl) ?_
          refine AwSch.take (Yd.val hT rfl rfl) ?_
          refine AwSch.take (Yd.imI hT rfl (by first | omega | (simp only [w64] at *; omega) | (simp [w64] at *; omega)) (by first | omega | (simp only [List.length_cons, List.length_nil, List.length_map]; omega) | (simp only [List.length_cons, List.length_nil, List.length_map, w64] at *; omega) | (simp [w64] at *; omega)) rfl) ?_
          refine AwSch.take (Yd.val hT rfl rfl) ?_
          refine AwSch.take (Yd.val hT rfl rfl) ?_
          refine AwSch.take (Yd.imI hT rfl (by first | omega | (simp only [w64] at *; omega) | (simp [w64] at *; omega)) (by first | omega | (simp only [List.length_cons, List.length_nil, List.length_map]; omega) | (simp only [List.length_cons, List.length_nil, List.length_map, w64] at *; omega) | (simp [w64] at *; omega)) rfl) ?_
          refine AwSch.take (Yd.val hT rfl rfl) ?_
          refine AwSch.take (Yd.val hT rfl rfl) ?_
          refine AwSch.take (Yd.imI hT rfl (by first | omega | (simp only [w64] at *; omega) | (simp [w64] at *; omega)) (by first | omega | (simp only [List.length_cons, List.length_nil, List.length_map]; omega) | (simp only [List.length_cons, List.length_nil, List.length_map, w64] at *; omega) | (simp [w64] at *; omega)) rfl) ?_
          iterate 9 refine AwSch.take (Yd.val hT rfl rfl) ?_
          repeat (first | refine AwOps.nil ?_ | refine AwSch.nil ?_ | refine Aw.seq ?_ | refine Aw.region ?_ | refine Aw.block ?_ | refine Aw.skip ?_ | refine Aw.exit ?_ | refine Aw.condT rfl ?_ | refine Aw.condF rfl ?_)
          refine AwOps.v hT rfl ?_
          repeat (first | refine AwOps.nil ?_ | refine AwSch.nil ?_ | refine Aw.seq ?_ | refine Aw.region ?_ | refine Aw.block ?_ | refine Aw.skip ?_ | refine Aw.exit ?_ | refine Aw.condT rfl ?_ | refine Aw.condF rfl ?_)
          refine Aw.lp (ι := Int × Int × Int × Int × Int × Int × Int × Int × Int) (n := 266) [(0, _), (5, _), (6, _)] [(906, _)] (fun g => [(13, sc (.int .u32 g.1)), (14, sc (.int .u32 g.2.1)), (15, sc (.int .u32 g.2.2.1)), (16, sc (.int .u32 g.2.2.2.1)), (17, sc (.int .u32 g.2.2.2.2.1)), (18, sc (.int .u32 g.2.2.2.2.2.1)), (19, sc (.int .u32 g.2.2.2.2.2.2.1)), (20, sc (.int .u32 g.2.2.2.2.2.2.2.1)), (21, sc (.int .i64 g.2.2.2.2.2.2.2.2))]) (fun g => []) (fun g => 0 ≤ g.2.2.2.2.2.2.2.2 ∧ g.2.2.2.2.2.2.2.2 ≤ 64) (fun g => (64 - g.2.2.2.2.2.2.2.2).toNat) (_, _, _, _, _, _, _, _, _) ?ok3 (Less.tn ⟨rfl, ⟨rfl, rfl, rfl, rfl, rfl, rfl, rfl, rfl, rfl, rfl, rfl, rfl, trivial⟩, ⟨rfl, trivial⟩⟩) ?bd3
          case ok3 =>
            try dsimp only
            exact ⟨by omega, by omega⟩
          case bd3 =>
            rintro ⟨k13, k14, k15, k16, k17, k18, k19, k20, k21⟩ hi3
            try dsimp only at hi3
            show Aw _ _ _ ⟨266, [(13, sc (.int .u32 k13)), (14, sc (.int .u32 k14)), (15, sc (.int .u32 k15)), (16, sc (.int .u32 k16)), (17, sc (.int .u32 k17)), (18, sc (.int .u32 k18)), (19, sc (.int .u32 k19)), (20, sc (.int .u32 k20)), (21, sc (.int .i64 k21))] ++ [(0, _), (5, _), (6, _)], [] ++ [(906, _)]⟩ _
            repeat (first | refine AwOps.nil ?_ | refine AwSch.nil ?_ | refine Aw.seq ?_ | refine Aw.region ?_ | refine Aw.block ?_ | refine Aw.skip ?_ | refine Aw.exit ?_ | refine Aw.condT rfl ?_ | refine Aw.condF rfl ?_)
            refine AwOps.v hT rfl ?_
            refine AwOps.v hT rfl ?_
            repeat (first | refine AwOps.nil ?_ | refine AwSch.nil ?_ | refine Aw.seq ?_ | refine Aw.region ?_ | refine Aw.block ?_ | refine Aw.skip ?_ | refine Aw.exit ?_ | refine Aw.condT rfl ?_ | refine Aw.condF rfl ?_)
            refine Aw.tst rfl (fun hb142 => ?_) (fun hb142 => ?_)
            · skip
              have hk : k21 < 64 := by simpa using hb142
              repeat (first | refine AwOps.nil ?_ | refine AwSch.nil ?_ | refine Aw.seq ?_ | refine Aw.region ?_ | refine Aw.block ?_ | refine Aw.skip ?_ | refine Aw.exit ?_ | refine Aw.condT rfl ?_ | refine Aw.condF rfl ?_)
              iterate 18 refine AwOps.v hT rfl ?_
              repeat (first | refine AwOps.nil ?_ | refine AwSch.nil ?_ | refine Aw.seq ?_ | refine Aw.region ?_ | refine Aw.block ?_ | refine Aw.skip ?_ | refine Aw.exit ?_ | refine Aw.condT rfl ?_ | refine Aw.condF rfl ?_)
              refine Aw.regionS [] [(true, 0), (true, 1), (true, 2), (true, 3), (true, 4), (true, 5), (true, 6), (true, 7), (true, 8), (true, 9), (true, 10), (true, 11), (true, 12), (true, 13), (true, 14), (true, 15), (true, 16), (true, 17), (true, 18), (true, 19), (true, 20), (true, 21)] (by kernel_rfl) (by kernel_rfl) ?_
              iterate 14 refine AwSch.take (Yd.val hT rfl rfl) ?_
              refine AwSch.take (Yd.imI hT rfl (by first | omega | (simp only [w64] at *; omega) | (simp [w64] at *; omega)) (by first | omega | (simp only [List.length_cons, List.length_nil, List.length_map]; omega) | (simp only [List.length_cons, List.length_nil, List.length_map, w64] at *; omega) | (simp [w64] at *; omega)) rfl) ?_
              iterate 3 refine AwSch.take (Yd.val hT rfl rfl) ?_
              refine AwSch.take (Yd.idxa hT rfl rfl (by first | omega | (simp only [List.length_cons, List.length_nil, List.length_map]; omega) | (simp only [List.length_cons, List.length_nil, List.length_map, w64] at *; omega) | (simp [w64] at *; omega)) (by first | omega | (simp only [List.length_cons, List.length_nil, List.length_map]; omega) | (simp only [List.length_cons, List.length_nil, List.length_map, w64] at *; omega) | (simp [w64] at *; omega)) (by first | omega | (simp only [List.length_cons, List.length_nil, List.length_map]; omega) | (simp only [List.length_cons, List.length_nil, List.length_map, w64] at *; omega) | (simp [w64] at *; omega))) ?_
              refine AwSch.take (Yd.ldo hT rfl rfl _ (ldm (by first | omega | (simp only [List.length_cons, List.length_nil, List.length_map]; omega) | (simp only [List.length_cons, List.length_nil, List.length_map, w64] at *; omega) | (simp [w64] at *; omega))) rfl (by decide)) ?_
              refine AwSch.take (Yd.val hT rfl rfl) ?_
              refine AwSch.take (Yd.val hT rfl rfl) ?_
              repeat (first | refine AwOps.nil ?_ | refine AwSch.nil ?_ | refine Aw.seq ?_ | refine Aw.region ?_ | refine Aw.block ?_ | refine Aw.skip ?_ | refine Aw.exit ?_ | refine Aw.condT rfl ?_ | refine Aw.condF rfl ?_)
              iterate 18 refine AwOps.v hT rfl ?_
              repeat (first | refine AwOps.nil ?_ | refine AwSch.nil ?_ | refine Aw.seq ?_ | refine Aw.region ?_ | refine Aw.block ?_ | refine Aw.skip ?_ | refine Aw.exit ?_ | refine Aw.condT rfl ?_ | refine Aw.condF rfl ?_)
              iterate 14 refine AwOps.v hT rfl ?_
              repeat (first | refine AwOps.nil ?_ | refine AwSch.nil ?_ | refine Aw.seq ?_ | refine Aw.region ?_ | refine Aw.block ?_ | refine Aw.skip ?_ | refine Aw.exit ?_ | refine Aw.condT rfl ?_ | refine Aw.condF rfl ?_)
              iterate 20 refine AwOps.v hT rfl ?_
              repeat (first | refine AwOps.nil ?_ | refine AwSch.nil ?_ | refine Aw.seq ?_ | refine Aw.region ?_ | refine Aw.block ?_ | refine Aw.skip ?_ | refine Aw.exit ?_ | refine Aw.condT rfl ?_ | refine Aw.condF rfl ?_)
              refine AwOps.v hT rfl ?_
              refine AwOps.v hT rfl ?_
              first | refine AwOps.nm 144 rfl (by omega) (by omega) ?_ | skip
              refine AwOps.v hT rfl ?_
              repeat (first | refine AwOps.nil ?_ | refine AwSch.nil ?_ | refine Aw.seq ?_ | refine Aw.region ?_ | refine Aw.block ?_ | refine Aw.skip ?_ | refine Aw.exit ?_ | refine Aw.condT rfl ?_ | refine Aw.condF rfl ?_)
              refine ⟨(_, _, _, _, _, _, _, _, _), ?nx3, ?mu3, Less.tn ⟨rfl, ⟨rfl, rfl, rfl, rfl, rfl, rfl, rfl, rfl, rfl, rfl, rfl, rfl, trivial⟩, ⟨rfl, trivial⟩⟩⟩
              case nx3 =>
                try dsimp only
                exact ⟨by first | omega | (simp only [w64] at *; omega) | (simp [w64] at *; omega), by first | omega | (simp only [w64] at *; omega) | (simp [w64] at *; omega)⟩
              case mu3 =>
                try dsimp only
                first | omega | (simp only [w64] at *; omega) | (simp [w64] at *; omega)
            · skip
              repeat (first | refine AwOps.nil ?_ | refine AwSch.nil ?_ | refine Aw.seq ?_ | refine Aw.region ?_ | refine Aw.block ?_ | refine Aw.skip ?_ | refine Aw.exit ?_ | refine Aw.condT rfl ?_ | refine Aw.condF rfl ?_)
              refine Aw.regionS [] [(true, 0), (true, 1), (true, 2), (true, 3), (true, 4), (true, 5), (true, 6), (true, 7), (true, 8), (true, 9), (true, 10), (true, 11), (true, 12), (true, 13), (true, 14), (true, 15), (true, 16), (true, 17), (true, 18), (true, 19), (true, 20), (true, 21), (true, 22), (true, 23), (true, 24), (true, 25), (true, 26), (true, 27), (true, 28), (true, 29), (true, 30), (true, 31), (true, 32), (true, 33), (true, 34), (true, 35), (true, 36), (true, 37), (true, 38), (true, 39), (false, 40), (true, 41)] (by kernel_rfl) (by kernel_rfl) ?_
              refine AwSch.take (Yd.val hT rfl rfl) ?_
              refine AwSch.take (Yd.imI hT rfl (by first | omega | (simp only [w64] at *; omega) | (simp [w64] at *; omega)) (by first | omega | (simp only [List.length_cons, List.length_nil, List.length_map]; omega) | (simp only [List.length_cons, List.length_nil, List.length_map, w64] at *; omega) | (simp [w64] at *; omega)) rfl) ?_
              iterate 4 refine AwSch.take (Yd.val hT rfl rfl) ?_
              refine AwSch.take (Yd.imI hT rfl (by first | omega | (simp only [w64] at *; omega) | (simp [w64] at *; omega)) (by first | omega | (simp only [List.length_cons, List.length_nil, List.length_map]; omega) | (simp only [List.length_cons, List.length_nil, List.length_map, w64] at *; omega) | (simp [w64] at *; omega)) rfl) ?_
              iterate 4 refine AwSch.take (Yd.val hT rfl rfl) ?_
              refine AwSch.take (Yd.imI hT rfl (by first | omega | (simp only [w64] at *; omega) | (simp [w64] at *; omega)) (by first | omega | (simp only [List.length_cons, List.length_nil, List.length_map]; omega) | (simp only [List.length_cons, List.length_nil, List.length_map, w64] at *; omega) | (simp [w64] at *; omega)) rfl) ?_
              iterate 4 refine AwSch.take (Yd.val hT rfl rfl) ?_
              refine AwSch.take (Yd.imI hT rfl (by first | omega | (simp only [w64] at *; omega) | (simp [w64] at *; omega)) (by first | omega | (simp only [List.length_cons, List.length_nil, List.length_map]; omega) | (simp only [List.length_cons, List.length_nil, List.length_map, w64] at *; omega) | (simp [w64] at *; omega)) rfl) ?_
              iterate 4 refine AwSch.take (Yd.val hT rfl rfl) ?_
              refine AwSch.take (Yd.imI hT rfl (by first | omega | (simp only [w64] at *; omega) | (simp [w64] at *; omega)) (by first | omega | (simp only [List.length_cons, List.length_nil, List.length_map]; omega) | (simp only [List.length_cons, List.length_nil, List.length_map, w64] at *; omega) | (simp [w64] at *; omega)) rfl) ?_
              iterate 4 refine AwSch.take (Yd.val hT rfl rfl) ?_
              refine AwSch.take (Yd.imI hT rfl (by first | omega | (simp only [w64] at *; omega) | (simp [w64] at *; omega)) (by first | omega | (simp only [List.length_cons, List.length_nil, List.length_map]; omega) | (simp only [List.length_cons, List.length_nil, List.length_map, w64] at *; omega) | (simp [w64] at *; omega)) rfl) ?_
              iterate 4 refine AwSch.take (Yd.val hT rfl rfl) ?_
              refine AwSch.take (Yd.imI hT rfl (by first | omega | (simp only [w64] at *; omega) | (simp [w64] at *; omega)) (by first | omega | (simp only [List.length_cons, List.length_nil, List.length_map]; omega) | (simp only [List.length_cons, List.length_nil, List.length_map, w64] at *; omega) | (simp [w64] at *; omega)) rfl) ?_
              iterate 4 refine AwSch.take (Yd.val hT rfl rfl) ?_
              refine AwSch.take (Yd.imI hT rfl (by first | omega | (simp only [w64] at *; omega) | (simp [w64] at *; omega)) (by first | omega | (simp only [List.length_cons, List.length_nil, List.length_map]; omega) | (simp only [List.length_cons, List.length_nil, List.length_map, w64] at *; omega) | (simp [w64] at *; omega)) rfl) ?_
              iterate 3 refine AwSch.take (Yd.val hT rfl rfl) ?_
              refine AwSch.one ?_
              refine Ed.lit hT rfl ?_
              refine AwSch.freeze 265 rfl rfl (by first | rfl | (simp; done)) rfl ?_
              refine AwSch.say (t := 265) (B := .one (.p (.sl (List.map eW [_, _, _, _, _, _, _, _])))) rfl rfl ?_
              refine AwSch.take (Yd.val hT rfl rfl) ?_
              repeat (first | refine AwOps.nil ?_ | refine AwSch.nil ?_ | refine Aw.seq ?_ | refine Aw.region ?_ | refine Aw.block ?_ | refine Aw.skip ?_ | refine Aw.exit ?_ | refine Aw.condT rfl ?_ | refine Aw.condF rfl ?_)
              refine Aw.ret ?_
              refine ⟨_, [], rfl, trivial, ?_⟩
              exact ⟨_, rfl, rfl⟩
def okSs (l : List ByteArray) : Prop := l.length ≤ 1000 ∧ ∀ s ∈ l, s.size ≤ 1073741824
theorem ext_size (b : ByteArray) {i j : Nat} (h : i ≤ j) (hj : j ≤ b.size) : (b.extract i j).size = j - i := by rw [ByteArray.size_extract]; omega
-- f100 certpath/certpathref01.Sum
theorem F100 (l : List ByteArray) (hl : okSs l) : Fn Tryz.prog 91 [.pv (.one (.p (.sl (l.map eStr))))] [] (fun r _ => ∃ x : ByteArray, r = sc (.string x) ∧ x.size = 32) := by
  refine Fn.intro (rs := [.tmp 2]) hT Tryz.func91 (by kernel_rfl) rfl rfl rfl rfl fun C => ?_
  repeat (first | refine AwOps.nil ?_ | refine AwSch.nil ?_ | refine Aw.seq ?_ | refine Aw.region ?_ | refine Aw.block ?_ | refine Aw.skip ?_ | refine Aw.exit ?_ | refine Aw.condT rfl ?_ | refine Aw.condF rfl ?_)
  refine AwOps.v hT rfl ?_
  repeat (first | refine AwOps.nil ?_ | refine AwSch.nil ?_ | refine Aw.seq ?_ | refine Aw.region ?_ | refine Aw.block ?_ | refine Aw.skip ?_ | refine Aw.exit ?_ | refine Aw.condT rfl ?_ | refine Aw.condF rfl ?_)
  refine AwOps.v hT rfl ?_
  repeat (first | refine AwOps.nil ?_ | refine AwSch.nil ?_ | refine Aw.seq ?_ | refine Aw.region ?_ | refine Aw.block ?_ | refine Aw.skip ?_ | refine Aw.exit ?_ | refine Aw.condT rfl ?_ | refine Aw.condF rfl ?_)
  iterate 3 refine AwOps.v hT rfl ?_
  repeat (first | refine AwOps.nil ?_ | refine AwSch.nil ?_ | refine Aw.seq ?_ | refine Aw.region ?_ | refine Aw.block ?_ | refine Aw.skip ?_ | refine Aw.exit ?_ | refine Aw.condT rfl ?_ | refine Aw.condF rfl ?_)
  refine Aw.bnd 15 rfl fun hB1 => ?_
  replace hB1 : l.length ≤ maxLen := by simpa using hB1
  repeat (first | refine AwOps.nil ?_ | refine AwSch.nil ?_ | refine Aw.seq ?_ | refine Aw.region ?_ | refine Aw.block ?_ | refine Aw.skip ?_ | refine Aw.exit ?_ | refine Aw.condT rfl ?_ | refine Aw.condF rfl ?_)
  refine Aw.lp (ι := ByteArray × Nat) (n := 97) [(15, _), (16, _)] [] (fun g => [(3, sc (.string g.1)), (17, sc (.int .i64 g.2))]) (fun g => []) (fun g => g.2 ≤ l.length ∧ (g.1.size ≤ g.2 * 1073741824)) (fun g => l.length - g.2) (_, 0) ?ok1 (Less.tn ⟨rfl, ⟨rfl, rfl, rfl, rfl, trivial⟩, trivial⟩) ?bd1
  case ok1 =>
    try dsimp only
    exact ⟨Nat.zero_le _, Nat.le_refl _⟩
  case bd1 =>
    rintro ⟨s3, i1⟩ hi1
    try dsimp only at hi1
    show Aw _ _ _ ⟨97, [(3, sc (.string s3)), (17, sc (.int .i64 i1))] ++ [(15, _), (16, _)], [] ++ []⟩ _
    have hls := hl.1
    repeat (first | refine AwOps.nil ?_ | refine AwSch.nil ?_ | refine Aw.seq ?_ | refine Aw.region ?_ | refine Aw.block ?_ | refine Aw.skip ?_ | refine Aw.exit ?_ | refine Aw.condT rfl ?_ | refine Aw.condF rfl ?_)
    refine AwOps.v hT rfl ?_
    repeat (first | refine AwOps.nil ?_ | refine AwSch.nil ?_ | refine Aw.seq ?_ | refine Aw.region ?_ | refine Aw.block ?_ | refine Aw.skip ?_ | refine Aw.exit ?_ | refine Aw.condT rfl ?_ | refine Aw.condF rfl ?_)
    refine Aw.tst rfl (fun hb18 => ?_) (fun hb18 => ?_)
    · skip
      have hlt1 : i1 < l.length := by simpa using hb18
      repeat (first | refine AwOps.nil ?_ | refine AwSch.nil ?_ | refine Aw.seq ?_ | refine Aw.region ?_ | refine Aw.block ?_ | refine Aw.skip ?_ | refine Aw.exit ?_ | refine Aw.condT rfl ?_ | refine Aw.condF rfl ?_)
      refine AwOps.im hT rfl hlt1 rfl ?_
      refine AwOps.v hT rfl ?_
      refine AwOps.v hT rfl ?_
      repeat (first | refine AwOps.nil ?_ | refine AwSch.nil ?_ | refine Aw.seq ?_ | refine Aw.region ?_ | refine Aw.block ?_ | refine Aw.skip ?_ | refine Aw.exit ?_ | refine Aw.condT rfl ?_ | refine Aw.condF rfl ?_)
      refine AwOps.v hT rfl ?_
      refine AwOps.v hT rfl ?_
      have hls := hl.1
      have hsz := hl.2 _ (List.getElem_mem hlt1)
      refine AwOps.bin rfl _ rfl (cat_run (by omega)) ?_
      refine AwOps.v hT rfl ?_
      repeat (first | refine AwOps.nil ?_ | refine AwSch.nil ?_ | refine Aw.seq ?_ | refine Aw.region ?_ | refine Aw.block ?_ | refine Aw.skip ?_ | refine Aw.exit ?_ | refine Aw.condT rfl ?_ | refine Aw.condF rfl ?_)
      refine AwOps.v hT rfl ?_
      refine AwOps.v hT rfl ?_
      repeat (first | refine AwOps.nil ?_ | refine AwSch.nil ?_ | refine Aw.seq ?_ | refine Aw.region ?_ | refine Aw.block ?_ | refine Aw.skip ?_ | refine Aw.exit ?_ | refine Aw.condT rfl ?_ | refine Aw.condF rfl ?_)
      refine ⟨(_, i1 + 1), ?nx1, ?mu1, Less.tn ⟨rfl, ⟨rfl, incS hlt1 hB1, rfl, rfl, trivial⟩, trivial⟩⟩
      case nx1 =>
        try dsimp only
        refine ⟨hlt1, ?_⟩
        have := hl.2 _ (List.getElem_mem hlt1)
        rw [ByteArray.size_append]
        omega
      case mu1 =>
        try dsimp only
        first | omega | (simp only [w64] at *; omega) | (simp [w64] at *; omega)
    · skip
      repeat (first | refine AwOps.nil ?_ | refine AwSch.nil ?_ | refine Aw.seq ?_ | refine Aw.region ?_ | refine Aw.block ?_ | refine Aw.skip ?_ | refine Aw.exit ?_ | refine Aw.condT rfl ?_ | refine Aw.condF rfl ?_)
      refine AwOps.lit hT rfl ?_
      refine AwOps.turn (Tn.fz 25 rfl rfl (by first | rfl | (simp; done)) rfl) ?_
      refine AwOps.turn (Less.say (t := 25) (B := .one (.p (.sl (List.map eW [_, _, _, _, _, _, _, _])))) rfl rfl) ?_
      refine AwOps.v hT rfl ?_
      repeat (first | refine AwOps.nil ?_ | refine AwSch.nil ?_ | refine Aw.seq ?_ | refine Aw.region ?_ | refine Aw.block ?_ | refine Aw.skip ?_ | refine Aw.exit ?_ | refine Aw.condT rfl ?_ | refine Aw.condF rfl ?_)
      have hls := hl.1
      have hs3 : s3.size ≤ 1073741824000 := by omega
      iterate 3 refine AwOps.v hT rfl ?_
      repeat (first | refine AwOps.nil ?_ | refine AwSch.nil ?_ | refine Aw.seq ?_ | refine Aw.region ?_ | refine Aw.block ?_ | refine Aw.skip ?_ | refine Aw.exit ?_ | refine Aw.condT rfl ?_ | refine Aw.condF rfl ?_)
      refine AwOps.v hT rfl ?_
      refine AwOps.v hT rfl ?_
      first | refine AwOps.nm 29 rfl (by omega) (by omega) ?_ | skip
      refine AwOps.v hT rfl ?_
      first | refine AwOps.nmr 30 rfl (by omega) ?_ | skip
      refine AwOps.v hT rfl ?_
      first | refine AwOps.nm 31 rfl (by omega) (by omega) ?_ | skip
      refine AwOps.v hT rfl ?_
      repeat (first | refine AwOps.nil ?_ | refine AwSch.nil ?_ | refine Aw.seq ?_ | refine Aw.region ?_ | refine Aw.block ?_ | refine Aw.skip ?_ | refine Aw.exit ?_ | refine Aw.condT rfl ?_ | refine Aw.condF rfl ?_)
      refine AwOps.v hT rfl ?_
      refine AwOps.v hT rfl ?_
      repeat (first | refine AwOps.nil ?_ | refine AwSch.nil ?_ | refine Aw.seq ?_ | refine Aw.region ?_ | refine Aw.block ?_ | refine Aw.skip ?_ | refine Aw.exit ?_ | refine Aw.condT rfl ?_ | refine Aw.condF rfl ?_)
      refine Aw.tst rfl (fun hb33 => ?_) (fun hb33 => ?_)
      · skip
        repeat (first | refine AwOps.nil ?_ | refine AwSch.nil ?_ | refine Aw.seq ?_ | refine Aw.region ?_ | refine Aw.block ?_ | refine Aw.skip ?_ | refine Aw.exit ?_ | refine Aw.condT rfl ?_ | refine Aw.condF rfl ?_)
        refine AwOps.v hT rfl ?_
        repeat (first | refine AwOps.nil ?_ | refine AwSch.nil ?_ | refine Aw.seq ?_ | refine Aw.region ?_ | refine Aw.block ?_ | refine Aw.skip ?_ | refine Aw.exit ?_ | refine Aw.condT rfl ?_ | refine Aw.condF rfl ?_)
        refine AwOps.v hT rfl ?_
        refine AwOps.v hT rfl ?_
        first | refine AwOps.nm 35 rfl (by omega) (by omega) ?_ | skip
        refine AwOps.gen 35 rfl (fun m hm => ?_)
        have hm9 : 9 ≤ m ∧ m ≤ 72 ∧ (s3.size + m) % 64 = 0 := by
          have hx := hb33
          first | (have := beq_iff_eq.1 hx; omega) | (have := beq_eq_false_iff_ne.1 hx; omega)
        refine AwOps.mk hT rfl (by omega) (by omega) (by dsimp only; omega) (by unfold maxLen; omega) ?_
        refine AwOps.turn (Tn.sayH (b := 36) rfl (rowrep (f := eB) (x := 0))) ?_
        refine AwOps.v hT rfl ?_
        repeat (first | refine AwOps.nil ?_ | refine AwSch.nil ?_ | refine Aw.seq ?_ | refine Aw.region ?_ | refine Aw.block ?_ | refine Aw.skip ?_ | refine Aw.exit ?_ | refine Aw.condT rfl ?_ | refine Aw.condF rfl ?_)
        refine AwOps.v hT rfl ?_
        refine AwOps.idxo hT rfl rfl (by omega) (by omega) ?_
        refine AwOps.sto hT rfl rfl _ (ldm (by simp; omega)) (Nat.le_refl _) ?_
        refine AwOps.turn (Tn.sayH (b := 36) rfl (rowset (f := eB))) ?_
        repeat (first | refine AwOps.nil ?_ | refine AwSch.nil ?_ | refine Aw.seq ?_ | refine Aw.region ?_ | refine Aw.block ?_ | refine Aw.skip ?_ | refine Aw.exit ?_ | refine Aw.condT rfl ?_ | refine Aw.condF rfl ?_)
        refine AwOps.v hT rfl ?_
        repeat (first | refine AwOps.nil ?_ | refine AwSch.nil ?_ | refine Aw.seq ?_ | refine Aw.region ?_ | refine Aw.block ?_ | refine Aw.skip ?_ | refine Aw.exit ?_ | refine Aw.condT rfl ?_ | refine Aw.condF rfl ?_)
        refine Aw.lp (ι := Int × List (Int)) (n := 97) [(3, _), (6, _), (7, _), (9, _)] [] (fun g => [(10, sc (.int .i64 g.1))]) (fun g => [(36, .row 5 1 true (List.map eB g.2))]) (fun g => 0 ≤ g.1 ∧ g.1 ≤ 8 ∧ g.2.length = m.toNat ∧ ∀ x ∈ g.2, 0 ≤ x ∧ x < 256) (fun g => (8 - g.1).toNat) (_, _) ?ok2 (Less.tn ⟨rfl, ⟨rfl, rfl, rfl, rfl, rfl, trivial⟩, ⟨rfl, trivial⟩⟩) ?bd2
        case ok2 =>
          try dsimp only
          refine ⟨by omega, by omega, by simp, fun x hx => ?_⟩
          rcases List.mem_or_eq_of_mem_set hx with hx | hx
          · rw [List.eq_of_mem_replicate hx]; omega
          · rw [hx]; omega
        case bd2 =>
          rintro ⟨k10, l36⟩ hi2
          try dsimp only at hi2
          show Aw _ _ _ ⟨97, [(10, sc (.int .i64 k10))] ++ [(3, _), (6, _), (7, _), (9, _)], [(36, .row 5 1 true (List.map eB l36))] ++ []⟩ _
          repeat (first | refine AwOps.nil ?_ | refine AwSch.nil ?_ | refine Aw.seq ?_ | refine Aw.region ?_ | refine Aw.block ?_ | refine Aw.skip ?_ | refine Aw.exit ?_ | refine Aw.condT rfl ?_ | refine Aw.condF rfl ?_)
          refine AwOps.v hT rfl ?_
          refine AwOps.v hT rfl ?_
          repeat (first | refine AwOps.nil ?_ | refine AwSch.nil ?_ | refine Aw.seq ?_ | refine Aw.region ?_ | refine Aw.block ?_ | refine Aw.skip ?_ | refine Aw.exit ?_ | refine Aw.condT rfl ?_ | refine Aw.condF rfl ?_)
          refine Aw.tst rfl (fun hb40 => ?_) (fun hb40 => ?_)
          · skip
            have hk : k10 < 8 := by simpa using hb40
            repeat (first | refine AwOps.nil ?_ | refine AwSch.nil ?_ | refine Aw.seq ?_ | refine Aw.region ?_ | refine Aw.block ?_ | refine Aw.skip ?_ | refine Aw.exit ?_ | refine Aw.condT rfl ?_ | refine Aw.condF rfl ?_)
            iterate 4 refine AwOps.v hT rfl ?_
            first | refine AwOps.nm 46 rfl (by omega) (by omega) ?_ | skip
            refine AwOps.v hT rfl ?_
            refine AwOps.v hT rfl ?_
            first | refine AwOps.nm 48 rfl (by omega) (by omega) ?_ | skip
            refine AwOps.v hT rfl ?_
            refine AwOps.v hT rfl ?_
            first | refine AwOps.nm 50 rfl (by omega) (by omega) ?_ | skip
            refine AwOps.v hT rfl ?_
            refine AwOps.v hT rfl ?_
            first | refine AwOps.nm 52 rfl (by omega) (by omega) ?_ | skip
            refine AwOps.bin rfl _ rfl (shr_run (by first | omega | (simp only [w64] at *; omega) | (simp [w64] at *; omega))) ?_
            refine AwOps.v hT rfl ?_
            refine AwOps.idxo hT rfl rfl (by omega) (by omega) ?_
            refine AwOps.sto hT rfl rfl _ (ldm (by omega)) (Nat.le_refl _) ?_
            refine AwOps.turn (Tn.sayH (b := 36) rfl (rowset (f := eB))) ?_
            repeat (first | refine AwOps.nil ?_ | refine AwSch.nil ?_ | refine Aw.seq ?_ | refine Aw.region ?_ | refine Aw.block ?_ | refine Aw.skip ?_ | refine Aw.exit ?_ | refine Aw.condT rfl ?_ | refine Aw.condF rfl ?_)
            refine AwOps.v hT rfl ?_
            refine AwOps.v hT rfl ?_
            first | refine AwOps.nm 42 rfl (by omega) (by omega) ?_ | skip
            refine AwOps.v hT rfl ?_
            repeat (first | refine AwOps.nil ?_ | refine AwSch.nil ?_ | refine Aw.seq ?_ | refine Aw.region ?_ | refine Aw.block ?_ | refine Aw.skip ?_ | refine Aw.exit ?_ | refine Aw.condT rfl ?_ | refine Aw.condF rfl ?_)
            refine ⟨(_, _), ?nx2, ?mu2, Less.tn ⟨rfl, ⟨rfl, rfl, rfl, rfl, rfl, trivial⟩, ⟨rfl, trivial⟩⟩⟩
            case nx2 =>
              try dsimp only
              refine ⟨by first | omega | (simp only [w64] at *; omega) | (simp [w64] at *; omega), by first | omega | (simp only [w64] at *; omega) | (simp [w64] at *; omega), by rw [List.length_set]; exact hi2.2.2.1, fun x hx => ?_⟩
              rcases List.mem_or_eq_of_mem_set hx with hx | hx
              · exact hi2.2.2.2 x hx
              · rw [hx]; exact wu8 _
            case mu2 =>
              try dsimp only
              first | omega | (simp only [w64] at *; omega) | (simp [w64] at *; omega)
          · skip
            repeat (first | refine AwOps.nil ?_ | refine AwSch.nil ?_ | refine Aw.seq ?_ | refine Aw.region ?_ | refine Aw.block ?_ | refine Aw.skip ?_ | refine Aw.exit ?_ | refine Aw.condT rfl ?_ | refine Aw.condF rfl ?_)
            refine AwOps.v hT rfl ?_
            refine AwOps.v hT rfl ?_
            have hl36 := hi2.2.2.1
            have hsz2 : (s3 ++ ofI l36).size = s3.size + m.toNat := by rw [ByteArray.size_append, ofI_size, hl36]
            refine AwOps.strB hT rfl rfl (fun x hx => hi2.2.2.2 x hx) hl36.symm ?_
            refine AwOps.bin rfl _ rfl (cat_run (by rw [ofI_size]; omega)) ?_
            refine AwOps.v hT rfl ?_
            repeat (first | refine AwOps.nil ?_ | refine AwSch.nil ?_ | refine Aw.seq ?_ | refine Aw.region ?_ | refine Aw.block ?_ | refine Aw.skip ?_ | refine Aw.exit ?_ | refine Aw.condT rfl ?_ | refine Aw.condF rfl ?_)
            refine AwOps.v hT rfl ?_
            repeat (first | refine AwOps.nil ?_ | refine AwSch.nil ?_ | refine Aw.seq ?_ | refine Aw.region ?_ | refine Aw.block ?_ | refine Aw.skip ?_ | refine Aw.exit ?_ | refine Aw.condT rfl ?_ | refine Aw.condF rfl ?_)
            refine Aw.lp (ι := List (Int) × Int) (n := 97) [(3, _)] [] (fun g => [(6, .one (.p (.sl (List.map eW g.1)))), (11, sc (.int .i64 g.2))]) (fun g => []) (fun g => 0 ≤ g.2 ∧ g.2 % 64 = 0 ∧ g.2 ≤ (s3 ++ ofI l36).size ∧ g.1.length = 8) (fun g => ((s3 ++ ofI l36).size - g.2).toNat) (_, _) ?ok3 (Less.tn ⟨rfl, ⟨rfl, rfl, rfl, trivial⟩, trivial⟩) ?bd3
            case ok3 =>
              try dsimp only
              exact ⟨by omega, by omega, by omega, rfl⟩
            case bd3 =>
              rintro ⟨l6, k11⟩ hi3
              try dsimp only at hi3
              show Aw _ _ _ ⟨97, [(6, .one (.p (.sl (List.map eW l6)))), (11, sc (.int .i64 k11))] ++ [(3, _)], [] ++ []⟩ _
              repeat (first | refine AwOps.nil ?_ | refine AwSch.nil ?_ | refine Aw.seq ?_ | refine Aw.region ?_ | refine Aw.block ?_ | refine Aw.skip ?_ | refine Aw.exit ?_ | refine Aw.condT rfl ?_ | refine Aw.condF rfl ?_)
              iterate 4 refine AwOps.v hT rfl ?_
              repeat (first | refine AwOps.nil ?_ | refine AwSch.nil ?_ | refine Aw.seq ?_ | refine Aw.region ?_ | refine Aw.block ?_ | refine Aw.skip ?_ | refine Aw.exit ?_ | refine Aw.condT rfl ?_ | refine Aw.condF rfl ?_)
              refine Aw.tst rfl (fun hb63 => ?_) (fun hb63 => ?_)
              · skip
                have hk : k11 < (s3 ++ ofI l36).size := by simpa using hb63
                repeat (first | refine AwOps.nil ?_ | refine AwSch.nil ?_ | refine Aw.seq ?_ | refine Aw.region ?_ | refine Aw.block ?_ | refine Aw.skip ?_ | refine Aw.exit ?_ | refine Aw.condT rfl ?_ | refine Aw.condF rfl ?_)
                iterate 5 refine AwOps.v hT rfl ?_
                first | refine AwOps.nm 70 rfl (by omega) (by omega) ?_ | skip
                have hk64 : k11 + 64 ≤ (s3 ++ ofI l36).size := by omega
                refine AwOps.sls hT rfl (by simp only [loI]; first | omega | (simp only [w64] at *; omega) | (simp [w64] at *; omega)) (by simp only [loI, hiI]; first | omega | (simp only [w64] at *; omega) | (simp [w64] at *; omega)) (by simp only [hiI]; first | omega | (simp only [w64] at *; omega) | (simp [w64] at *; omega)) ?_
                have hx64 := ext_size (s3 ++ ofI l36) (i := k11.toNat) (j := (k11 + 64).toNat) (by omega) (by omega)
                have hy64 : ((s3 ++ ofI l36).extract k11.toNat (k11 + 64).toNat).size = 64 := by omega
                have hh6 := hi3.2.2.2
                refine AwOps.cl (F107 _ _ (by assumption) (by assumption)) [] rfl ⟨⟨rfl, rfl⟩, ⟨rfl, rfl⟩, trivial⟩ trivial rfl ?_   -- certpathref01.round
                rintro _ _ ⟨h1, rfl, hh1⟩
                refine AwOps.v hT rfl ?_
                repeat (first | refine AwOps.nil ?_ | refine AwSch.nil ?_ | refine Aw.seq ?_ | refine Aw.region ?_ | refine Aw.block ?_ | refine Aw.skip ?_ | refine Aw.exit ?_ | refine Aw.condT rfl ?_ | refine Aw.condF rfl ?_)
                refine AwOps.v hT rfl ?_
                refine AwOps.v hT rfl ?_
                first | refine AwOps.nm 65 rfl (by omega) (by omega) ?_ | skip
                refine AwOps.v hT rfl ?_
                repeat (first | refine AwOps.nil ?_ | refine AwSch.nil ?_ | refine Aw.seq ?_ | refine Aw.region ?_ | refine Aw.block ?_ | refine Aw.skip ?_ | refine Aw.exit ?_ | refine Aw.condT rfl ?_ | refine Aw.condF rfl ?_)
                refine ⟨(_, _), ?nx3, ?mu3, Less.tn ⟨rfl, ⟨rfl, rfl, rfl, trivial⟩, trivial⟩⟩
                case nx3 =>
                  try dsimp only
                  exact ⟨by omega, by omega, by omega, by assumption⟩
                case mu3 =>
                  try dsimp only
                  omega
              · skip
                have hh6 : l6.length = 8 := hi3.2.2.2
                repeat (first | refine AwOps.nil ?_ | refine AwSch.nil ?_ | refine Aw.seq ?_ | refine Aw.region ?_ | refine Aw.block ?_ | refine Aw.skip ?_ | refine Aw.exit ?_ | refine Aw.condT rfl ?_ | refine Aw.condF rfl ?_)
                refine AwOps.mk hT rfl (by omega) (by omega) (by dsimp only; omega) (by unfold maxLen; omega) ?_
                refine AwOps.turn (Tn.sayH (b := 73) rfl (rowrep (f := eB) (x := 0))) ?_
                refine AwOps.v hT rfl ?_
                repeat (first | refine AwOps.nil ?_ | refine AwSch.nil ?_ | refine Aw.seq ?_ | refine Aw.region ?_ | refine Aw.block ?_ | refine Aw.skip ?_ | refine Aw.exit ?_ | refine Aw.condT rfl ?_ | refine Aw.condF rfl ?_)
                iterate 3 refine AwOps.v hT rfl ?_
                repeat (first | refine AwOps.nil ?_ | refine AwSch.nil ?_ | refine Aw.seq ?_ | refine Aw.region ?_ | refine Aw.block ?_ | refine Aw.skip ?_ | refine Aw.exit ?_ | refine Aw.condT rfl ?_ | refine Aw.condF rfl ?_)
                refine Aw.bnd 74 rfl fun hB4 => ?_
                replace hB4 : l6.length ≤ maxLen := by simpa using hB4
                repeat (first | refine AwOps.nil ?_ | refine AwSch.nil ?_ | refine Aw.seq ?_ | refine Aw.region ?_ | refine Aw.block ?_ | refine Aw.skip ?_ | refine Aw.exit ?_ | refine Aw.condT rfl ?_ | refine Aw.condF rfl ?_)
                refine Aw.turn (Tn.ren 73 912 rfl rfl rfl) ?_
                refine Aw.lp (ι := List (Int) × Nat) (n := 97) [(74, _), (75, _)] [] (fun g => [(12, .one (.own 912 g.1.length)), (76, sc (.int .i64 g.2))]) (fun g => [(912, .row 5 1 true (List.map eB g.1))]) (fun g => g.2 ≤ l6.length ∧ (g.1.length = 4 * g.2 ∧ ∀ x ∈ g.1, 0 ≤ x ∧ x < 256)) (fun g => l6.length - g.2) ([], 0) ?ok4 (Less.tn ⟨rfl, ⟨rfl, rfl, rfl, rfl, trivial⟩, ⟨rfl, trivial⟩⟩) ?bd4
                case ok4 =>
                  try dsimp only
                  exact ⟨Nat.zero_le _, rfl, fun x hx => (by cases hx)⟩
                case bd4 =>
                  rintro ⟨l12, i4⟩ hi4
                  try dsimp only at hi4
                  show Aw _ _ _ ⟨97, [(12, .one (.own 912 l12.length)), (76, sc (.int .i64 i4))] ++ [(74, _), (75, _)], [(912, .row 5 1 true (List.map eB l12))] ++ []⟩ _
                  repeat (first | refine AwOps.nil ?_ | refine AwSch.nil ?_ | refine Aw.seq ?_ | refine Aw.region ?_ | refine Aw.block ?_ | refine Aw.skip ?_ | refine Aw.exit ?_ | refine Aw.condT rfl ?_ | refine Aw.condF rfl ?_)
                  refine AwOps.v hT rfl ?_
                  repeat (first | refine AwOps.nil ?_ | refine AwSch.nil ?_ | refine Aw.seq ?_ | refine Aw.region ?_ | refine Aw.block ?_ | refine Aw.skip ?_ | refine Aw.exit ?_ | refine Aw.condT rfl ?_ | refine Aw.condF rfl ?_)
                  refine Aw.tst rfl (fun hb77 => ?_) (fun hb77 => ?_)
                  · skip
                    have hlt4 : i4 < l6.length := by simpa using hb77
                    repeat (first | refine AwOps.nil ?_ | refine AwSch.nil ?_ | refine Aw.seq ?_ | refine Aw.region ?_ | refine Aw.block ?_ | refine Aw.skip ?_ | refine Aw.exit ?_ | refine Aw.condT rfl ?_ | refine Aw.condF rfl ?_)
                    refine AwOps.im hT rfl hlt4 rfl ?_
                    refine AwOps.v hT rfl ?_
                    refine AwOps.v hT rfl ?_
                    repeat (first | refine AwOps.nil ?_ | refine AwSch.nil ?_ | refine Aw.seq ?_ | refine Aw.region ?_ | refine Aw.block ?_ | refine Aw.skip ?_ | refine Aw.exit ?_ | refine Aw.condT rfl ?_ | refine Aw.condF rfl ?_)
                    iterate 12 refine AwOps.v hT rfl ?_
                    refine AwOps.lit hT rfl ?_
                    refine AwOps.appm (ys := [_, _, _, _])  hT rfl rfl rfl rfl rfl (fun _ => rfl) (by simp only [List.length_cons, List.length_nil]; omega) ?_
                    refine AwOps.v hT rfl ?_
                    repeat (first | refine AwOps.nil ?_ | refine AwSch.nil ?_ | refine Aw.seq ?_ | refine Aw.region ?_ | refine Aw.block ?_ | refine Aw.skip ?_ | refine Aw.exit ?_ | refine Aw.condT rfl ?_ | refine Aw.condF rfl ?_)
                    refine AwOps.v hT rfl ?_
                    refine AwOps.v hT rfl ?_
                    repeat (first | refine AwOps.nil ?_ | refine AwSch.nil ?_ | refine Aw.seq ?_ | refine Aw.region ?_ | refine Aw.block ?_ | refine Aw.skip ?_ | refine Aw.exit ?_ | refine Aw.condT rfl ?_ | refine Aw.condF rfl ?_)
                    refine ⟨(_, i4 + 1), ?nx4, ?mu4, Tn.trans (Less.tn (τ := ⟨97, [(12, _), (76, _), (74, _), (75, _)], [(93, _)]⟩) ⟨rfl, ⟨rfl, rfl, rfl, rfl, trivial⟩, ⟨rfl, trivial⟩⟩) (Tn.trans (Tn.ren 93 912 rfl rfl rfl) (Less.tn ⟨rfl, ⟨rfl, incS hlt4 hB4, rfl, rfl, trivial⟩, ⟨rfl, trivial⟩⟩))⟩
                    case nx4 =>
                      try dsimp only
                      refine ⟨hlt4, by simp only [List.length_append, List.length_cons, List.length_nil]; omega, fun x hx => ?_⟩
                      rcases List.mem_append.1 hx with hx | hx
                      · exact hi4.2.2 x hx
                      · simp only [List.mem_cons, List.not_mem_nil, or_false] at hx; rcases hx with rfl | rfl | rfl | rfl <;> exact wu8 _
                    case mu4 =>
                      try dsimp only
                      first | omega | (simp only [w64] at *; omega) | (simp [w64] at *; omega)
                  · skip
                    repeat (first | refine AwOps.nil ?_ | refine AwSch.nil ?_ | refine Aw.seq ?_ | refine Aw.region ?_ | refine Aw.block ?_ | refine Aw.skip ?_ | refine Aw.exit ?_ | refine Aw.condT rfl ?_ | refine Aw.condF rfl ?_)
                    refine AwOps.v hT rfl ?_
                    refine AwOps.strB hT rfl rfl (fun x hx => hi4.2.2 x hx) rfl ?_
                    refine AwOps.v hT rfl ?_
                    repeat (first | refine AwOps.nil ?_ | refine AwSch.nil ?_ | refine Aw.seq ?_ | refine Aw.region ?_ | refine Aw.block ?_ | refine Aw.skip ?_ | refine Aw.exit ?_ | refine Aw.condT rfl ?_ | refine Aw.condF rfl ?_)
                    refine Aw.ret ?_
                    refine ⟨_, [], rfl, trivial, ?_⟩
                    have hz4 := of_decide_eq_false hb77
                    have hz5 := hi4.2.1
                    simp only [List.length_map] at hz4
                    exact ⟨_, rfl, by rw [ofI_size]; omega⟩
      · skip
        repeat (first | refine AwOps.nil ?_ | refine AwSch.nil ?_ | refine Aw.seq ?_ | refine Aw.region ?_ | refine Aw.block ?_ | refine Aw.skip ?_ | refine Aw.exit ?_ | refine Aw.condT rfl ?_ | refine Aw.condF rfl ?_)
        refine AwOps.v hT rfl ?_
        refine AwOps.v hT rfl ?_
        first | refine AwOps.nm 35 rfl (by omega) (by omega) ?_ | skip
        refine AwOps.gen 35 rfl (fun m hm => ?_)
        have hm9 : 9 ≤ m ∧ m ≤ 72 ∧ (s3.size + m) % 64 = 0 := by
          have hx := hb33
          first | (have := beq_iff_eq.1 hx; omega) | (have := beq_eq_false_iff_ne.1 hx; omega)
        refine AwOps.mk hT rfl (by omega) (by omega) (by dsimp only; omega) (by unfold maxLen; omega) ?_
        refine AwOps.turn (Tn.sayH (b := 36) rfl (rowrep (f := eB) (x := 0))) ?_
        refine AwOps.v hT rfl ?_
        repeat (first | refine AwOps.nil ?_ | refine AwSch.nil ?_ | refine Aw.seq ?_ | refine Aw.region ?_ | refine Aw.block ?_ | refine Aw.skip ?_ | refine Aw.exit ?_ | refine Aw.condT rfl ?_ | refine Aw.condF rfl ?_)
        refine AwOps.v hT rfl ?_
        refine AwOps.idxo hT rfl rfl (by omega) (by omega) ?_
        refine AwOps.sto hT rfl rfl _ (ldm (by simp; omega)) (Nat.le_refl _) ?_
        refine AwOps.turn (Tn.sayH (b := 36) rfl (rowset (f := eB))) ?_
        repeat (first | refine AwOps.nil ?_ | refine AwSch.nil ?_ | refine Aw.seq ?_ | refine Aw.region ?_ | refine Aw.block ?_ | refine Aw.skip ?_ | refine Aw.exit ?_ | refine Aw.condT rfl ?_ | refine Aw.condF rfl ?_)
        refine AwOps.v hT rfl ?_
        repeat (first | refine AwOps.nil ?_ | refine AwSch.nil ?_ | refine Aw.seq ?_ | refine Aw.region ?_ | refine Aw.block ?_ | refine Aw.skip ?_ | refine Aw.exit ?_ | refine Aw.condT rfl ?_ | refine Aw.condF rfl ?_)
        refine Aw.lp (ι := Int × List (Int)) (n := 97) [(3, _), (6, _), (7, _), (9, _)] [] (fun g => [(10, sc (.int .i64 g.1))]) (fun g => [(36, .row 5 1 true (List.map eB g.2))]) (fun g => 0 ≤ g.1 ∧ g.1 ≤ 8 ∧ g.2.length = m.toNat ∧ ∀ x ∈ g.2, 0 ≤ x ∧ x < 256) (fun g => (8 - g.1).toNat) (_, _) ?ok2 (Less.tn ⟨rfl, ⟨rfl, rfl, rfl, rfl, rfl, trivial⟩, ⟨rfl, trivial⟩⟩) ?bd2
        case ok2 =>
          try dsimp only
          refine ⟨by omega, by omega, by simp, fun x hx => ?_⟩
          rcases List.mem_or_eq_of_mem_set hx with hx | hx
          · rw [List.eq_of_mem_replicate hx]; omega
          · rw [hx]; omega
        case bd2 =>
          rintro ⟨k10, l36⟩ hi2
          try dsimp only at hi2
          show Aw _ _ _ ⟨97, [(10, sc (.int .i64 k10))] ++ [(3, _), (6, _), (7, _), (9, _)], [(36, .row 5 1 true (List.map eB l36))] ++ []⟩ _
          repeat (first | refine AwOps.nil ?_ | refine AwSch.nil ?_ | refine Aw.seq ?_ | refine Aw.region ?_ | refine Aw.block ?_ | refine Aw.skip ?_ | refine Aw.exit ?_ | refine Aw.condT rfl ?_ | refine Aw.condF rfl ?_)
          refine AwOps.v hT rfl ?_
          refine AwOps.v hT rfl ?_
          repeat (first | refine AwOps.nil ?_ | refine AwSch.nil ?_ | refine Aw.seq ?_ | refine Aw.region ?_ | refine Aw.block ?_ | refine Aw.skip ?_ | refine Aw.exit ?_ | refine Aw.condT rfl ?_ | refine Aw.condF rfl ?_)
          refine Aw.tst rfl (fun hb40 => ?_) (fun hb40 => ?_)
          · skip
            have hk : k10 < 8 := by simpa using hb40
            repeat (first | refine AwOps.nil ?_ | refine AwSch.nil ?_ | refine Aw.seq ?_ | refine Aw.region ?_ | refine Aw.block ?_ | refine Aw.skip ?_ | refine Aw.exit ?_ | refine Aw.condT rfl ?_ | refine Aw.condF rfl ?_)
            iterate 4 refine AwOps.v hT rfl ?_
            first | refine AwOps.nm 46 rfl (by omega) (by omega) ?_ | skip
            refine AwOps.v hT rfl ?_
            refine AwOps.v hT rfl ?_
            first | refine AwOps.nm 48 rfl (by omega) (by omega) ?_ | skip
            refine AwOps.v hT rfl ?_
            refine AwOps.v hT rfl ?_
            first | refine AwOps.nm 50 rfl (by omega) (by omega) ?_ | skip
            refine AwOps.v hT rfl ?_
            refine AwOps.v hT rfl ?_
            first | refine AwOps.nm 52 rfl (by omega) (by omega) ?_ | skip
            refine AwOps.bin rfl _ rfl (shr_run (by first | omega | (simp only [w64] at *; omega) | (simp [w64] at *; omega))) ?_
            refine AwOps.v hT rfl ?_
            refine AwOps.idxo hT rfl rfl (by omega) (by omega) ?_
            refine AwOps.sto hT rfl rfl _ (ldm (by omega)) (Nat.le_refl _) ?_
            refine AwOps.turn (Tn.sayH (b := 36) rfl (rowset (f := eB))) ?_
            repeat (first | refine AwOps.nil ?_ | refine AwSch.nil ?_ | refine Aw.seq ?_ | refine Aw.region ?_ | refine Aw.block ?_ | refine Aw.skip ?_ | refine Aw.exit ?_ | refine Aw.condT rfl ?_ | refine Aw.condF rfl ?_)
            refine AwOps.v hT rfl ?_
            refine AwOps.v hT rfl ?_
            first | refine AwOps.nm 42 rfl (by omega) (by omega) ?_ | skip
            refine AwOps.v hT rfl ?_
            repeat (first | refine AwOps.nil ?_ | refine AwSch.nil ?_ | refine Aw.seq ?_ | refine Aw.region ?_ | refine Aw.block ?_ | refine Aw.skip ?_ | refine Aw.exit ?_ | refine Aw.condT rfl ?_ | refine Aw.condF rfl ?_)
            refine ⟨(_, _), ?nx2, ?mu2, Less.tn ⟨rfl, ⟨rfl, rfl, rfl, rfl, rfl, trivial⟩, ⟨rfl, trivial⟩⟩⟩
            case nx2 =>
              try dsimp only
              refine ⟨by first | omega | (simp only [w64] at *; omega) | (simp [w64] at *; omega), by first | omega | (simp only [w64] at *; omega) | (simp [w64] at *; omega), by rw [List.length_set]; exact hi2.2.2.1, fun x hx => ?_⟩
              rcases List.mem_or_eq_of_mem_set hx with hx | hx
              · exact hi2.2.2.2 x hx
              · rw [hx]; exact wu8 _
            case mu2 =>
              try dsimp only
              first | omega | (simp only [w64] at *; omega) | (simp [w64] at *; omega)
          · skip
            repeat (first | refine AwOps.nil ?_ | refine AwSch.nil ?_ | refine Aw.seq ?_ | refine Aw.region ?_ | refine Aw.block ?_ | refine Aw.skip ?_ | refine Aw.exit ?_ | refine Aw.condT rfl ?_ | refine Aw.condF rfl ?_)
            refine AwOps.v hT rfl ?_
            refine AwOps.v hT rfl ?_
            have hl36 := hi2.2.2.1
            have hsz2 : (s3 ++ ofI l36).size = s3.size + m.toNat := by rw [ByteArray.size_append, ofI_size, hl36]
            refine AwOps.strB hT rfl rfl (fun x hx => hi2.2.2.2 x hx) hl36.symm ?_
            refine AwOps.bin rfl _ rfl (cat_run (by rw [ofI_size]; omega)) ?_
            refine AwOps.v hT rfl ?_
            repeat (first | refine AwOps.nil ?_ | refine AwSch.nil ?_ | refine Aw.seq ?_ | refine Aw.region ?_ | refine Aw.block ?_ | refine Aw.skip ?_ | refine Aw.exit ?_ | refine Aw.condT rfl ?_ | refine Aw.condF rfl ?_)
            refine AwOps.v hT rfl ?_
            repeat (first | refine AwOps.nil ?_ | refine AwSch.nil ?_ | refine Aw.seq ?_ | refine Aw.region ?_ | refine Aw.block ?_ | refine Aw.skip ?_ | refine Aw.exit ?_ | refine Aw.condT rfl ?_ | refine Aw.condF rfl ?_)
            refine Aw.lp (ι := List (Int) × Int) (n := 97) [(3, _)] [] (fun g => [(6, .one (.p (.sl (List.map eW g.1)))), (11, sc (.int .i64 g.2))]) (fun g => []) (fun g => 0 ≤ g.2 ∧ g.2 % 64 = 0 ∧ g.2 ≤ (s3 ++ ofI l36).size ∧ g.1.length = 8) (fun g => ((s3 ++ ofI l36).size - g.2).toNat) (_, _) ?ok3 (Less.tn ⟨rfl, ⟨rfl, rfl, rfl, trivial⟩, trivial⟩) ?bd3
            case ok3 =>
              try dsimp only
              exact ⟨by omega, by omega, by omega, rfl⟩
            case bd3 =>
              rintro ⟨l6, k11⟩ hi3
              try dsimp only at hi3
              show Aw _ _ _ ⟨97, [(6, .one (.p (.sl (List.map eW l6)))), (11, sc (.int .i64 k11))] ++ [(3, _)], [] ++ []⟩ _
              repeat (first | refine AwOps.nil ?_ | refine AwSch.nil ?_ | refine Aw.seq ?_ | refine Aw.region ?_ | refine Aw.block ?_ | refine Aw.skip ?_ | refine Aw.exit ?_ | refine Aw.condT rfl ?_ | refine Aw.condF rfl ?_)
              iterate 4 refine AwOps.v hT rfl ?_
              repeat (first | refine AwOps.nil ?_ | refine AwSch.nil ?_ | refine Aw.seq ?_ | refine Aw.region ?_ | refine Aw.block ?_ | refine Aw.skip ?_ | refine Aw.exit ?_ | refine Aw.condT rfl ?_ | refine Aw.condF rfl ?_)
              refine Aw.tst rfl (fun hb63 => ?_) (fun hb63 => ?_)
              · skip
                have hk : k11 < (s3 ++ ofI l36).size := by simpa using hb63
                repeat (first | refine AwOps.nil ?_ | refine AwSch.nil ?_ | refine Aw.seq ?_ | refine Aw.region ?_ | refine Aw.block ?_ | refine Aw.skip ?_ | refine Aw.exit ?_ | refine Aw.condT rfl ?_ | refine Aw.condF rfl ?_)
                iterate 5 refine AwOps.v hT rfl ?_
                first | refine AwOps.nm 70 rfl (by omega) (by omega) ?_ | skip
                have hk64 : k11 + 64 ≤ (s3 ++ ofI l36).size := by omega
                refine AwOps.sls hT rfl (by simp only [loI]; first | omega | (simp only [w64] at *; omega) | (simp [w64] at *; omega)) (by simp only [loI, hiI]; first | omega | (simp only [w64] at *; omega) | (simp [w64] at *; omega)) (by simp only [hiI]; first | omega | (simp only [w64] at *; omega) | (simp [w64] at *; omega)) ?_
                have hx64 := ext_size (s3 ++ ofI l36) (i := k11.toNat) (j := (k11 + 64).toNat) (by omega) (by omega)
                have hy64 : ((s3 ++ ofI l36).extract k11.toNat (k11 + 64).toNat).size = 64 := by omega
                have hh6 := hi3.2.2.2
                refine AwOps.cl (F107 _ _ (by assumption) (by assumption)) [] rfl ⟨⟨rfl, rfl⟩, ⟨rfl, rfl⟩, trivial⟩ trivial rfl ?_   -- certpathref01.round
                rintro _ _ ⟨h2, rfl, hh2⟩
                refine AwOps.v hT rfl ?_
                repeat (first | refine AwOps.nil ?_ | refine AwSch.nil ?_ | refine Aw.seq ?_ | refine Aw.region ?_ | refine Aw.block ?_ | refine Aw.skip ?_ | refine Aw.exit ?_ | refine Aw.condT rfl ?_ | refine Aw.condF rfl ?_)
                refine AwOps.v hT rfl ?_
                refine AwOps.v hT rfl ?_
                first | refine AwOps.nm 65 rfl (by omega) (by omega) ?_ | skip
                refine AwOps.v hT rfl ?_
                repeat (first | refine AwOps.nil ?_ | refine AwSch.nil ?_ | refine Aw.seq ?_ | refine Aw.region ?_ | refine Aw.block ?_ | refine Aw.skip ?_ | refine Aw.exit ?_ | refine Aw.condT rfl ?_ | refine Aw.condF rfl ?_)
                refine ⟨(_, _), ?nx3, ?mu3, Less.tn ⟨rfl, ⟨rfl, rfl, rfl, trivial⟩, trivial⟩⟩
                case nx3 =>
                  try dsimp only
                  exact ⟨by omega, by omega, by omega, by assumption⟩
                case mu3 =>
                  try dsimp only
                  omega
              · skip
                have hh6 : l6.length = 8 := hi3.2.2.2
                repeat (first | refine AwOps.nil ?_ | refine AwSch.nil ?_ | refine Aw.seq ?_ | refine Aw.region ?_ | refine Aw.block ?_ | refine Aw.skip ?_ | refine Aw.exit ?_ | refine Aw.condT rfl ?_ | refine Aw.condF rfl ?_)
                refine AwOps.mk hT rfl (by omega) (by omega) (by dsimp only; omega) (by unfold maxLen; omega) ?_
                refine AwOps.turn (Tn.sayH (b := 73) rfl (rowrep (f := eB) (x := 0))) ?_
                refine AwOps.v hT rfl ?_
                repeat (first | refine AwOps.nil ?_ | refine AwSch.nil ?_ | refine Aw.seq ?_ | refine Aw.region ?_ | refine Aw.block ?_ | refine Aw.skip ?_ | refine Aw.exit ?_ | refine Aw.condT rfl ?_ | refine Aw.condF rfl ?_)
                iterate 3 refine AwOps.v hT rfl ?_
                repeat (first | refine AwOps.nil ?_ | refine AwSch.nil ?_ | refine Aw.seq ?_ | refine Aw.region ?_ | refine Aw.block ?_ | refine Aw.skip ?_ | refine Aw.exit ?_ | refine Aw.condT rfl ?_ | refine Aw.condF rfl ?_)
                refine Aw.bnd 74 rfl fun hB4 => ?_
                replace hB4 : l6.length ≤ maxLen := by simpa using hB4
                repeat (first | refine AwOps.nil ?_ | refine AwSch.nil ?_ | refine Aw.seq ?_ | refine Aw.region ?_ | refine Aw.block ?_ | refine Aw.skip ?_ | refine Aw.exit ?_ | refine Aw.condT rfl ?_ | refine Aw.condF rfl ?_)
                refine Aw.turn (Tn.ren 73 912 rfl rfl rfl) ?_
                refine Aw.lp (ι := List (Int) × Nat) (n := 97) [(74, _), (75, _)] [] (fun g => [(12, .one (.own 912 g.1.length)), (76, sc (.int .i64 g.2))]) (fun g => [(912, .row 5 1 true (List.map eB g.1))]) (fun g => g.2 ≤ l6.length ∧ (g.1.length = 4 * g.2 ∧ ∀ x ∈ g.1, 0 ≤ x ∧ x < 256)) (fun g => l6.length - g.2) ([], 0) ?ok4 (Less.tn ⟨rfl, ⟨rfl, rfl, rfl, rfl, trivial⟩, ⟨rfl, trivial⟩⟩) ?bd4
                case ok4 =>
                  try dsimp only
                  exact ⟨Nat.zero_le _, rfl, fun x hx => (by cases hx)⟩
                case bd4 =>
                  rintro ⟨l12, i4⟩ hi4
                  try dsimp only at hi4
                  show Aw _ _ _ ⟨97, [(12, .one (.own 912 l12.length)), (76, sc (.int .i64 i4))] ++ [(74, _), (75, _)], [(912, .row 5 1 true (List.map eB l12))] ++ []⟩ _
                  repeat (first | refine AwOps.nil ?_ | refine AwSch.nil ?_ | refine Aw.seq ?_ | refine Aw.region ?_ | refine Aw.block ?_ | refine Aw.skip ?_ | refine Aw.exit ?_ | refine Aw.condT rfl ?_ | refine Aw.condF rfl ?_)
                  refine AwOps.v hT rfl ?_
                  repeat (first | refine AwOps.nil ?_ | refine AwSch.nil ?_ | refine Aw.seq ?_ | refine Aw.region ?_ | refine Aw.block ?_ | refine Aw.skip ?_ | refine Aw.exit ?_ | refine Aw.condT rfl ?_ | refine Aw.condF rfl ?_)
                  refine Aw.tst rfl (fun hb77 => ?_) (fun hb77 => ?_)
                  · skip
                    have hlt4 : i4 < l6.length := by simpa using hb77
                    repeat (first | refine AwOps.nil ?_ | refine AwSch.nil ?_ | refine Aw.seq ?_ | refine Aw.region ?_ | refine Aw.block ?_ | refine Aw.skip ?_ | refine Aw.exit ?_ | refine Aw.condT rfl ?_ | refine Aw.condF rfl ?_)
                    refine AwOps.im hT rfl hlt4 rfl ?_
                    refine AwOps.v hT rfl ?_
                    refine AwOps.v hT rfl ?_
                    repeat (first | refine AwOps.nil ?_ | refine AwSch.nil ?_ | refine Aw.seq ?_ | refine Aw.region ?_ | refine Aw.block ?_ | refine Aw.skip ?_ | refine Aw.exit ?_ | refine Aw.condT rfl ?_ | refine Aw.condF rfl ?_)
                    iterate 12 refine AwOps.v hT rfl ?_
                    refine AwOps.lit hT rfl ?_
                    refine AwOps.appm (ys := [_, _, _, _])  hT rfl rfl rfl rfl rfl (fun _ => rfl) (by simp only [List.length_cons, List.length_nil]; omega) ?_
                    refine AwOps.v hT rfl ?_
                    repeat (first | refine AwOps.nil ?_ | refine AwSch.nil ?_ | refine Aw.seq ?_ | refine Aw.region ?_ | refine Aw.block ?_ | refine Aw.skip ?_ | refine Aw.exit ?_ | refine Aw.condT rfl ?_ | refine Aw.condF rfl ?_)
                    refine AwOps.v hT rfl ?_
                    refine AwOps.v hT rfl ?_
                    repeat (first | refine AwOps.nil ?_ | refine AwSch.nil ?_ | refine Aw.seq ?_ | refine Aw.region ?_ | refine Aw.block ?_ | refine Aw.skip ?_ | refine Aw.exit ?_ | refine Aw.condT rfl ?_ | refine Aw.condF rfl ?_)
                    refine ⟨(_, i4 + 1), ?nx4, ?mu4, Tn.trans (Less.tn (τ := ⟨97, [(12, _), (76, _), (74, _), (75, _)], [(93, _)]⟩) ⟨rfl, ⟨rfl, rfl, rfl, rfl, trivial⟩, ⟨rfl, trivial⟩⟩) (Tn.trans (Tn.ren 93 912 rfl rfl rfl) (Less.tn ⟨rfl, ⟨rfl, incS hlt4 hB4, rfl, rfl, trivial⟩, ⟨rfl, trivial⟩⟩))⟩
                    case nx4 =>
                      try dsimp only
                      refine ⟨hlt4, by simp only [List.length_append, List.length_cons, List.length_nil]; omega, fun x hx => ?_⟩
                      rcases List.mem_append.1 hx with hx | hx
                      · exact hi4.2.2 x hx
                      · simp only [List.mem_cons, List.not_mem_nil, or_false] at hx; rcases hx with rfl | rfl | rfl | rfl <;> exact wu8 _
                    case mu4 =>
                      try dsimp only
                      first | omega | (simp only [w64] at *; omega) | (simp [w64] at *; omega)
                  · skip
                    repeat (first | refine AwOps.nil ?_ | refine AwSch.nil ?_ | refine Aw.seq ?_ | refine Aw.region ?_ | refine Aw.block ?_ | refine Aw.skip ?_ | refine Aw.exit ?_ | refine Aw.condT rfl ?_ | refine Aw.condF rfl ?_)
                    refine AwOps.v hT rfl ?_
                    refine AwOps.strB hT rfl rfl (fun x hx => hi4.2.2 x hx) rfl ?_
                    refine AwOps.v hT rfl ?_
                    repeat (first | refine AwOps.nil ?_ | refine AwSch.nil ?_ | refine Aw.seq ?_ | refine Aw.region ?_ | refine Aw.block ?_ | refine Aw.skip ?_ | refine Aw.exit ?_ | refine Aw.condT rfl ?_ | refine Aw.condF rfl ?_)
                    refine Aw.ret ?_
                    refine ⟨_, [], rfl, trivial, ?_⟩
                    have hz4 := of_decide_eq_false hb77
                    have hz5 := hi4.2.1
                    simp only [List.length_map] at hz4
                    exact ⟨_, rfl, by rw [ofI_size]; omega⟩
theorem okSs_mk {l : List ByteArray} (h1 : l.length ≤ 1000) (h2 : ∀ s ∈ l, s.size ≤ 1073741824) : okSs l := ⟨h1, h2⟩
-- f96 certpath/certpathref01.Short
theorem F96 (l : List ByteArray) (hl : okSs l) : Fn Tryz.prog 87 [.pv (.one (.p (.sl (l.map eStr))))] [] (fun r _ => ∃ x : ByteArray, r = sc (.string x) ∧ x.size = 16) := by
  refine Fn.intro (rs := [.tmp 2]) hT Tryz.func87 (by kernel_rfl) rfl rfl rfl rfl fun C => ?_
  repeat (first | refine AwOps.nil ?_ | refine AwSch.nil ?_ | refine Aw.seq ?_ | refine Aw.region ?_ | refine Aw.block ?_ | refine Aw.skip ?_ | refine Aw.exit ?_ | refine Aw.condT rfl ?_ | refine Aw.condF rfl ?_)
  refine AwOps.v hT rfl ?_
  repeat (first | refine AwOps.nil ?_ | refine AwSch.nil ?_ | refine Aw.seq ?_ | refine Aw.region ?_ | refine Aw.block ?_ | refine Aw.skip ?_ | refine Aw.exit ?_ | refine Aw.condT rfl ?_ | refine Aw.condF rfl ?_)
  refine AwOps.v hT rfl ?_
  refine AwOps.cl (F100 _ hl) [] rfl ⟨⟨rfl, rfl⟩, trivial⟩ trivial rfl ?_   -- certpathref01.Sum
  rintro _ _ ⟨s1, rfl, hs1⟩
  refine AwOps.sls hT rfl (by simp only [loI]; first | omega | (simp only [w64] at *; omega) | (simp [w64] at *; omega)) (by simp only [loI, hiI]; first | omega | (simp only [w64] at *; omega) | (simp [w64] at *; omega)) (by simp only [hiI]; first | omega | (simp only [w64] at *; omega) | (simp [w64] at *; omega)) ?_
  refine AwOps.v hT rfl ?_
  repeat (first | refine AwOps.nil ?_ | refine AwSch.nil ?_ | refine Aw.seq ?_ | refine Aw.region ?_ | refine Aw.block ?_ | refine Aw.skip ?_ | refine Aw.exit ?_ | refine Aw.condT rfl ?_ | refine Aw.condF rfl ?_)
  refine Aw.ret ?_
  refine ⟨_, [], rfl, trivial, ?_⟩
  exact ⟨_, rfl, by simp only [loI, hiI]; rw [ByteArray.size_extract, hs1]; rfl⟩
-- f106 certpath/certpathref11.secret
theorem F106 (s : ByteArray) (k m : Int) (hs : s.size ≤ 1073741824) : Fn Tryz.prog 102 [.pv (sc (.string s)), .pv (sc (.int .i64 k)), .pv (sc (.int .i64 m))] [] (fun r _ => ∃ x : ByteArray, r = sc (.string x) ∧ x.size = 16) := by
  refine Fn.intro (rs := [.tmp 6]) hT Tryz.func102 (by kernel_rfl) rfl rfl rfl rfl fun C => ?_
  repeat (first | refine AwOps.nil ?_ | refine AwSch.nil ?_ | refine Aw.seq ?_ | refine Aw.region ?_ | refine Aw.block ?_ | refine Aw.skip ?_ | refine Aw.exit ?_ | refine Aw.condT rfl ?_ | refine Aw.condF rfl ?_)
  refine AwOps.v hT rfl ?_
  repeat (first | refine AwOps.nil ?_ | refine AwSch.nil ?_ | refine Aw.seq ?_ | refine Aw.region ?_ | refine Aw.block ?_ | refine Aw.skip ?_ | refine Aw.exit ?_ | refine Aw.condT rfl ?_ | refine Aw.condF rfl ?_)
  refine AwOps.v hT rfl ?_
  refine AwOps.v hT rfl ?_
  refine AwOps.cl (F99 _) [] rfl ⟨⟨rfl, rfl⟩, trivial⟩ trivial rfl ?_   -- certpathref11.B4
  rintro _ _ ⟨s1, rfl, hs1⟩
  refine AwOps.v hT rfl ?_
  refine AwOps.cl (F98 _) [] rfl ⟨⟨rfl, rfl⟩, trivial⟩ trivial rfl ?_   -- certpathref11.B1
  rintro _ _ ⟨s2, rfl, hs2⟩
  refine AwOps.lit hT rfl ?_
  refine AwOps.turn (Tn.fz 12 rfl rfl (by first | rfl | (simp; done)) rfl) ?_
  refine AwOps.turn (Less.say (t := 12) (B := .one (.p (.sl (List.map eStr [_, _, _, _])))) rfl rfl) ?_
  refine AwOps.cl (F96 _ (okSs_mk (by simp) (by simp; first | omega | (refine ⟨by decide, ?_⟩; omega)))) [] rfl ⟨⟨rfl, rfl⟩, trivial⟩ trivial rfl ?_   -- certpathref01.Short
  rintro _ _ ⟨s3, rfl, hs3⟩
  refine AwOps.v hT rfl ?_
  repeat (first | refine AwOps.nil ?_ | refine AwSch.nil ?_ | refine Aw.seq ?_ | refine Aw.region ?_ | refine Aw.block ?_ | refine Aw.skip ?_ | refine Aw.exit ?_ | refine Aw.condT rfl ?_ | refine Aw.condF rfl ?_)
  refine Aw.ret ?_
  refine ⟨_, [], rfl, trivial, ?_⟩
  exact ⟨_, rfl, by assumption⟩
-- f105 certpath/certpathref11.walk
theorem F105 (id : ByteArray) (leaf c from' to' : Int) (v : ByteArray) (h1 : id.size ≤ 1073741824) (h2 : v.size = 16) (h3 : 0 ≤ from') (h4 : to' ≤ 1000) : Fn Tryz.prog 101 [.pv (sc (.string id)), .pv (sc (.int .i64 leaf)), .pv (sc (.int .i64 c)), .pv (sc (.int .i64 from')), .pv (sc (.int .i64 to')), .pv (sc (.string v))] [] (fun r _ => ∃ x : ByteArray, r = sc (.string x) ∧ x.size = 16) := by
  refine Fn.intro (rs := [.tmp 12]) hT Tryz.func101 (by kernel_rfl) rfl rfl rfl rfl fun C => ?_
  repeat (first | refine AwOps.nil ?_ | refine AwSch.nil ?_ | refine Aw.seq ?_ | refine Aw.region ?_ | refine Aw.block ?_ | refine Aw.skip ?_ | refine Aw.exit ?_ | refine Aw.condT rfl ?_ | refine Aw.condF rfl ?_)
  refine AwOps.v hT rfl ?_
  repeat (first | refine AwOps.nil ?_ | refine AwSch.nil ?_ | refine Aw.seq ?_ | refine Aw.region ?_ | refine Aw.block ?_ | refine Aw.skip ?_ | refine Aw.exit ?_ | refine Aw.condT rfl ?_ | refine Aw.condF rfl ?_)
  refine AwOps.v hT rfl ?_
  refine AwOps.v hT rfl ?_
  repeat (first | refine AwOps.nil ?_ | refine AwSch.nil ?_ | refine Aw.seq ?_ | refine Aw.region ?_ | refine Aw.block ?_ | refine Aw.skip ?_ | refine Aw.exit ?_ | refine Aw.condT rfl ?_ | refine Aw.condF rfl ?_)
  refine Aw.lp (ι := ByteArray × Int) (n := 31) [(0, _), (1, _), (2, _), (4, _)] [] (fun g => [(5, sc (.string g.1)), (13, sc (.int .i64 g.2))]) (fun g => []) (fun g => 0 ≤ g.2 ∧ g.1.size = 16) (fun g => (to' - g.2).toNat) (_, _) ?ok1 (Less.tn ⟨rfl, ⟨rfl, rfl, rfl, rfl, rfl, rfl, trivial⟩, trivial⟩) ?bd1
  case ok1 =>
    try dsimp only
    exact ⟨h3, h2⟩
  case bd1 =>
    rintro ⟨s5, k13⟩ hi1
    try dsimp only at hi1
    show Aw _ _ _ ⟨31, [(5, sc (.string s5)), (13, sc (.int .i64 k13))] ++ [(0, _), (1, _), (2, _), (4, _)], [] ++ []⟩ _
    have hs5 := hi1.2
    repeat (first | refine AwOps.nil ?_ | refine AwSch.nil ?_ | refine Aw.seq ?_ | refine Aw.region ?_ | refine Aw.block ?_ | refine Aw.skip ?_ | refine Aw.exit ?_ | refine Aw.condT rfl ?_ | refine Aw.condF rfl ?_)
    iterate 3 refine AwOps.v hT rfl ?_
    repeat (first | refine AwOps.nil ?_ | refine AwSch.nil ?_ | refine Aw.seq ?_ | refine Aw.region ?_ | refine Aw.block ?_ | refine Aw.skip ?_ | refine Aw.exit ?_ | refine Aw.condT rfl ?_ | refine Aw.condF rfl ?_)
    refine Aw.tst rfl (fun hb17 => ?_) (fun hb17 => ?_)
    · skip
      have hk : k13 < to' := by simpa using hb17
      repeat (first | refine AwOps.nil ?_ | refine AwSch.nil ?_ | refine Aw.seq ?_ | refine Aw.region ?_ | refine Aw.block ?_ | refine Aw.skip ?_ | refine Aw.exit ?_ | refine Aw.condT rfl ?_ | refine Aw.condF rfl ?_)
      refine AwOps.v hT rfl ?_
      refine AwOps.v hT rfl ?_
      refine AwOps.cl (F99 _) [] rfl ⟨⟨rfl, rfl⟩, trivial⟩ trivial rfl ?_   -- certpathref11.B4
      rintro _ _ ⟨s1, rfl, hs1⟩
      refine AwOps.v hT rfl ?_
      refine AwOps.cl (F98 _) [] rfl ⟨⟨rfl, rfl⟩, trivial⟩ trivial rfl ?_   -- certpathref11.B1
      rintro _ _ ⟨s2, rfl, hs2⟩
      refine AwOps.v hT rfl ?_
      refine AwOps.cl (F98 _) [] rfl ⟨⟨rfl, rfl⟩, trivial⟩ trivial rfl ?_   -- certpathref11.B1
      rintro _ _ ⟨s3, rfl, hs3⟩
      refine AwOps.v hT rfl ?_
      refine AwOps.lit hT rfl ?_
      refine AwOps.turn (Tn.fz 28 rfl rfl (by first | rfl | (simp; done)) rfl) ?_
      refine AwOps.turn (Less.say (t := 28) (B := .one (.p (.sl (List.map eStr [_, _, _, _, _, _])))) rfl rfl) ?_
      refine AwOps.cl (F96 _ (okSs_mk (by simp) (by simp; first | omega | (refine ⟨by decide, ?_⟩; omega)))) [] rfl ⟨⟨rfl, rfl⟩, trivial⟩ trivial rfl ?_   -- certpathref01.Short
      rintro _ _ ⟨s4, rfl, hs4⟩
      refine AwOps.v hT rfl ?_
      repeat (first | refine AwOps.nil ?_ | refine AwSch.nil ?_ | refine Aw.seq ?_ | refine Aw.region ?_ | refine Aw.block ?_ | refine Aw.skip ?_ | refine Aw.exit ?_ | refine Aw.condT rfl ?_ | refine Aw.condF rfl ?_)
      refine AwOps.v hT rfl ?_
      refine AwOps.v hT rfl ?_
      first | refine AwOps.nm 19 rfl (by omega) (by omega) ?_ | skip
      refine AwOps.v hT rfl ?_
      repeat (first | refine AwOps.nil ?_ | refine AwSch.nil ?_ | refine Aw.seq ?_ | refine Aw.region ?_ | refine Aw.block ?_ | refine Aw.skip ?_ | refine Aw.exit ?_ | refine Aw.condT rfl ?_ | refine Aw.condF rfl ?_)
      refine ⟨(_, _), ?nx1, ?mu1, Less.tn ⟨rfl, ⟨rfl, rfl, rfl, rfl, rfl, rfl, trivial⟩, trivial⟩⟩
      case nx1 =>
        try dsimp only
        exact ⟨by omega, by assumption⟩
      case mu1 =>
        try dsimp only
        first | omega | (simp only [w64] at *; omega) | (simp [w64] at *; omega)
    · skip
      repeat (first | refine AwOps.nil ?_ | refine AwSch.nil ?_ | refine Aw.seq ?_ | refine Aw.region ?_ | refine Aw.block ?_ | refine Aw.skip ?_ | refine Aw.exit ?_ | refine Aw.condT rfl ?_ | refine Aw.condF rfl ?_)
      refine AwOps.v hT rfl ?_
      refine AwOps.v hT rfl ?_
      repeat (first | refine AwOps.nil ?_ | refine AwSch.nil ?_ | refine Aw.seq ?_ | refine Aw.region ?_ | refine Aw.block ?_ | refine Aw.skip ?_ | refine Aw.exit ?_ | refine Aw.condT rfl ?_ | refine Aw.condF rfl ?_)
      refine Aw.ret ?_
      refine ⟨_, [], rfl, trivial, ?_⟩
      exact ⟨_, rfl, hi1.2⟩
-- f104 certpath/certpathref11.check
theorem F104 (id seed : ByteArray) (leaf : Int) (h1 : id.size = 16) (h2 : seed.size = 32) (h3 : 0 ≤ leaf) (h4 : leaf < 256) : Fn Tryz.prog 100 [.pv (sc (.string id)), .pv (sc (.string seed)), .pv (sc (.int .i64 leaf))] [] (fun r _ => r = sc (.int .i64 0)) := by
  refine Fn.intro (rs := [.tmp 6]) hT Tryz.func100 (by kernel_rfl) rfl rfl rfl rfl fun C => ?_
  repeat (first | refine AwOps.nil ?_ | refine AwSch.nil ?_ | refine Aw.seq ?_ | refine Aw.region ?_ | refine Aw.block ?_ | refine Aw.skip ?_ | refine Aw.exit ?_ | refine Aw.condT rfl ?_ | refine Aw.condF rfl ?_)
  refine AwOps.v hT rfl ?_
  repeat (first | refine AwOps.nil ?_ | refine AwSch.nil ?_ | refine Aw.seq ?_ | refine Aw.region ?_ | refine Aw.block ?_ | refine Aw.skip ?_ | refine Aw.exit ?_ | refine Aw.condT rfl ?_ | refine Aw.condF rfl ?_)
  iterate 4 refine AwOps.v hT rfl ?_
  refine AwOps.split (t := 10) rfl (fun hb10 => ?_) (fun hb10 => ?_)
  · skip
    have := bne_iff_ne.1 hb10; omega
  · skip
    iterate 4 refine AwOps.v hT rfl ?_
    repeat (first | refine AwOps.nil ?_ | refine AwSch.nil ?_ | refine Aw.seq ?_ | refine Aw.region ?_ | refine Aw.block ?_ | refine Aw.skip ?_ | refine Aw.exit ?_ | refine Aw.condT rfl ?_ | refine Aw.condF rfl ?_)
    refine Aw.tst rfl (fun hb14 => ?_) (fun hb14 => ?_)
    · skip
      have := bne_iff_ne.1 hb14; omega
    · skip
      repeat (first | refine AwOps.nil ?_ | refine AwSch.nil ?_ | refine Aw.seq ?_ | refine Aw.region ?_ | refine Aw.block ?_ | refine Aw.skip ?_ | refine Aw.exit ?_ | refine Aw.condT rfl ?_ | refine Aw.condF rfl ?_)
      iterate 3 refine AwOps.v hT rfl ?_
      refine AwOps.split (t := 17) rfl (fun hb17 => ?_) (fun hb17 => ?_)
      · skip
        have := of_decide_eq_true hb17; omega
      · skip
        iterate 3 refine AwOps.v hT rfl ?_
        repeat (first | refine AwOps.nil ?_ | refine AwSch.nil ?_ | refine Aw.seq ?_ | refine Aw.region ?_ | refine Aw.block ?_ | refine Aw.skip ?_ | refine Aw.exit ?_ | refine Aw.condT rfl ?_ | refine Aw.condF rfl ?_)
        refine Aw.tst rfl (fun hb20 => ?_) (fun hb20 => ?_)
        · skip
          have := of_decide_eq_true hb20; omega
        · skip
          repeat (first | refine AwOps.nil ?_ | refine AwSch.nil ?_ | refine Aw.seq ?_ | refine Aw.region ?_ | refine Aw.block ?_ | refine Aw.skip ?_ | refine Aw.exit ?_ | refine Aw.condT rfl ?_ | refine Aw.condF rfl ?_)
          refine AwOps.v hT rfl ?_
          repeat (first | refine AwOps.nil ?_ | refine AwSch.nil ?_ | refine Aw.seq ?_ | refine Aw.region ?_ | refine Aw.block ?_ | refine Aw.skip ?_ | refine Aw.exit ?_ | refine Aw.condT rfl ?_ | refine Aw.condF rfl ?_)
          refine Aw.ret ?_
          refine ⟨_, [], rfl, trivial, ?_⟩
          exact rfl
-- f97 certpath/certpathref11.Public
theorem F97 (id seed : ByteArray) (leaf : Int) (h1 : id.size = 16) (h2 : seed.size = 32) (h3 : 0 ≤ leaf) (h4 : leaf < 256) : Fn Tryz.prog 88 [.pv (sc (.string id)), .pv (sc (.string seed)), .pv (sc (.int .i64 leaf))] [] (fun r _ => ∃ x : ByteArray, r = .tup [.one (.p (.v (.string x))), .one (.p (.v (.int .i64 0)))] ∧ x.size = 16) := by
  refine Fn.intro (rs := [.tmp 6, .tmp 7]) hT Tryz.func88 (by kernel_rfl) rfl rfl rfl rfl fun C => ?_
  repeat (first | refine AwOps.nil ?_ | refine AwSch.nil ?_ | refine Aw.seq ?_ | refine Aw.region ?_ | refine Aw.block ?_ | refine Aw.skip ?_ | refine Aw.exit ?_ | refine Aw.condT rfl ?_ | refine Aw.condF rfl ?_)
  refine AwOps.v hT rfl ?_
  refine AwOps.v hT rfl ?_
  repeat (first | refine AwOps.nil ?_ | refine AwSch.nil ?_ | refine Aw.seq ?_ | refine Aw.region ?_ | refine Aw.block ?_ | refine Aw.skip ?_ | refine Aw.exit ?_ | refine Aw.condT rfl ?_ | refine Aw.condF rfl ?_)
  iterate 3 refine AwOps.v hT rfl ?_
  refine AwOps.cl (F104 _ _ _ (by omega) (by omega) (by omega) (by omega)) [] rfl ⟨⟨rfl, rfl⟩, ⟨rfl, rfl⟩, ⟨rfl, rfl⟩, trivial⟩ trivial rfl ?_   -- certpathref11.check
  rintro _ _ rfl
  refine AwOps.v hT rfl ?_
  repeat (first | refine AwOps.nil ?_ | refine AwSch.nil ?_ | refine Aw.seq ?_ | refine Aw.region ?_ | refine Aw.block ?_ | refine Aw.skip ?_ | refine Aw.exit ?_ | refine Aw.condT rfl ?_ | refine Aw.condF rfl ?_)
  refine AwOps.v hT rfl ?_
  refine AwOps.v hT rfl ?_
  repeat (first | refine AwOps.nil ?_ | refine AwSch.nil ?_ | refine Aw.seq ?_ | refine Aw.region ?_ | refine Aw.block ?_ | refine Aw.skip ?_ | refine Aw.exit ?_ | refine Aw.condT rfl ?_ | refine Aw.condF rfl ?_)
  refine AwOps.v hT rfl ?_
  repeat (first | refine AwOps.nil ?_ | refine AwSch.nil ?_ | refine Aw.seq ?_ | refine Aw.region ?_ | refine Aw.block ?_ | refine Aw.skip ?_ | refine Aw.exit ?_ | refine Aw.condT rfl ?_ | refine Aw.condF rfl ?_)
  refine AwOps.v hT rfl ?_
  repeat (first | refine AwOps.nil ?_ | refine AwSch.nil ?_ | refine Aw.seq ?_ | refine Aw.region ?_ | refine Aw.block ?_ | refine Aw.skip ?_ | refine Aw.exit ?_ | refine Aw.condT rfl ?_ | refine Aw.condF rfl ?_)
  refine Aw.lp (ι := ByteArray × Int) (n := 38) [(0, _), (1, _), (2, _)] [] (fun g => [(9, sc (.string g.1)), (10, sc (.int .i64 g.2))]) (fun g => []) (fun g => 0 ≤ g.2 ∧ g.2 ≤ 35 ∧ (g.1.size : Int) = g.2 * 16 ∧ g.1.size ≤ 1000) (fun g => (35 - g.2).toNat) (_, _) ?ok1 (Less.tn ⟨rfl, ⟨rfl, rfl, rfl, rfl, rfl, trivial⟩, trivial⟩) ?bd1
  case ok1 =>
    try dsimp only
    exact ⟨by omega, by omega, rfl, by decide⟩
  case bd1 =>
    rintro ⟨s9, k10⟩ hi1
    try dsimp only at hi1
    show Aw _ _ _ ⟨38, [(9, sc (.string s9)), (10, sc (.int .i64 k10))] ++ [(0, _), (1, _), (2, _)], [] ++ []⟩ _
    repeat (first | refine AwOps.nil ?_ | refine AwSch.nil ?_ | refine Aw.seq ?_ | refine Aw.region ?_ | refine Aw.block ?_ | refine Aw.skip ?_ | refine Aw.exit ?_ | refine Aw.condT rfl ?_ | refine Aw.condF rfl ?_)
    refine AwOps.v hT rfl ?_
    refine AwOps.v hT rfl ?_
    repeat (first | refine AwOps.nil ?_ | refine AwSch.nil ?_ | refine Aw.seq ?_ | refine Aw.region ?_ | refine Aw.block ?_ | refine Aw.skip ?_ | refine Aw.exit ?_ | refine Aw.condT rfl ?_ | refine Aw.condF rfl ?_)
    refine Aw.tst rfl (fun hb19 => ?_) (fun hb19 => ?_)
    · skip
      have hk : k10 < 35 := by simpa using hb19
      repeat (first | refine AwOps.nil ?_ | refine AwSch.nil ?_ | refine Aw.seq ?_ | refine Aw.region ?_ | refine Aw.block ?_ | refine Aw.skip ?_ | refine Aw.exit ?_ | refine Aw.condT rfl ?_ | refine Aw.condF rfl ?_)
      iterate 7 refine AwOps.v hT rfl ?_
      refine AwOps.cl (F106 _ _ _ (by omega)) [] rfl ⟨⟨rfl, rfl⟩, ⟨rfl, rfl⟩, ⟨rfl, rfl⟩, trivial⟩ trivial rfl ?_   -- certpathref11.secret
      rintro _ _ ⟨s2, rfl, hs2⟩
      refine AwOps.cl (F105 _ _ _ _ _ _ (by omega) (by omega) (by omega) (by omega)) [] rfl ⟨⟨rfl, rfl⟩, ⟨rfl, rfl⟩, ⟨rfl, rfl⟩, ⟨rfl, rfl⟩, ⟨rfl, rfl⟩, ⟨rfl, rfl⟩, trivial⟩ trivial rfl ?_   -- certpathref11.walk
      rintro _ _ ⟨s3, rfl, hs3⟩
      refine AwOps.bin rfl _ rfl (cat_run (by omega)) ?_
      refine AwOps.v hT rfl ?_
      repeat (first | refine AwOps.nil ?_ | refine AwSch.nil ?_ | refine Aw.seq ?_ | refine Aw.region ?_ | refine Aw.block ?_ | refine Aw.skip ?_ | refine Aw.exit ?_ | refine Aw.condT rfl ?_ | refine Aw.condF rfl ?_)
      refine AwOps.v hT rfl ?_
      refine AwOps.v hT rfl ?_
      first | refine AwOps.nm 21 rfl (by omega) (by omega) ?_ | skip
      refine AwOps.v hT rfl ?_
      repeat (first | refine AwOps.nil ?_ | refine AwSch.nil ?_ | refine Aw.seq ?_ | refine Aw.region ?_ | refine Aw.block ?_ | refine Aw.skip ?_ | refine Aw.exit ?_ | refine Aw.condT rfl ?_ | refine Aw.condF rfl ?_)
      refine ⟨(_, _), ?nx1, ?mu1, Less.tn ⟨rfl, ⟨rfl, rfl, rfl, rfl, rfl, trivial⟩, trivial⟩⟩
      case nx1 =>
        try dsimp only
        refine ⟨by omega, by omega, ?_⟩
        rw [ByteArray.size_append]
        omega
      case mu1 =>
        try dsimp only
        first | omega | (simp only [w64] at *; omega) | (simp [w64] at *; omega)
    · skip
      have hs9 := hi1.2.2.2
      repeat (first | refine AwOps.nil ?_ | refine AwSch.nil ?_ | refine Aw.seq ?_ | refine Aw.region ?_ | refine Aw.block ?_ | refine Aw.skip ?_ | refine Aw.exit ?_ | refine Aw.condT rfl ?_ | refine Aw.condF rfl ?_)
      refine AwOps.v hT rfl ?_
      refine AwOps.v hT rfl ?_
      refine AwOps.cl (F99 _) [] rfl ⟨⟨rfl, rfl⟩, trivial⟩ trivial rfl ?_   -- certpathref11.B4
      rintro _ _ ⟨s4, rfl, hs4⟩
      refine AwOps.v hT rfl ?_
      refine AwOps.lit hT rfl ?_
      refine AwOps.turn (Tn.fz 36 rfl rfl (by first | rfl | (simp; done)) rfl) ?_
      refine AwOps.turn (Less.say (t := 36) (B := .one (.p (.sl (List.map eStr [_, _, _, _])))) rfl rfl) ?_
      refine AwOps.cl (F96 _ (okSs_mk (by simp) (by simp; first | omega | (refine ⟨by decide, ?_⟩; omega)))) [] rfl ⟨⟨rfl, rfl⟩, trivial⟩ trivial rfl ?_   -- certpathref01.Short
      rintro _ _ ⟨s5, rfl, hs5⟩
      refine AwOps.v hT rfl ?_
      refine AwOps.v hT rfl ?_
      repeat (first | refine AwOps.nil ?_ | refine AwSch.nil ?_ | refine Aw.seq ?_ | refine Aw.region ?_ | refine Aw.block ?_ | refine Aw.skip ?_ | refine Aw.exit ?_ | refine Aw.condT rfl ?_ | refine Aw.condF rfl ?_)
      refine Aw.ret ?_
      refine ⟨_, [], rfl, trivial, ?_⟩
      exact ⟨_, rfl, by assumption⟩
-- f91 certpath/certpathmade.Seed
theorem F91 (k : Int) : Fn Tryz.prog 71 [.pv (sc (.int .i64 k))] [] (fun r _ => ∃ x : ByteArray, r = sc (.string x) ∧ x.size = 32) := by
  refine Fn.intro (rs := [.tmp 2]) hT Tryz.func71 (by kernel_rfl) rfl rfl rfl rfl fun C => ?_
  repeat (first | refine AwOps.nil ?_ | refine AwSch.nil ?_ | refine Aw.seq ?_ | refine Aw.region ?_ | refine Aw.block ?_ | refine Aw.skip ?_ | refine Aw.exit ?_ | refine Aw.condT rfl ?_ | refine Aw.condF rfl ?_)
  refine AwOps.v hT rfl ?_
  repeat (first | refine AwOps.nil ?_ | refine AwSch.nil ?_ | refine Aw.seq ?_ | refine Aw.region ?_ | refine Aw.block ?_ | refine Aw.skip ?_ | refine Aw.exit ?_ | refine Aw.condT rfl ?_ | refine Aw.condF rfl ?_)
  refine AwOps.v hT rfl ?_
  refine AwOps.cl (F99 _) [] rfl ⟨⟨rfl, rfl⟩, trivial⟩ trivial rfl ?_   -- certpathref11.B4
  rintro _ _ ⟨s1, rfl, hs1⟩
  refine AwOps.lit hT rfl ?_
  refine AwOps.turn (Tn.fz 5 rfl rfl (by first | rfl | (simp; done)) rfl) ?_
  refine AwOps.turn (Less.say (t := 5) (B := .one (.p (.sl (List.map eStr [_, _])))) rfl rfl) ?_
  refine AwOps.cl (F100 _ (okSs_mk (by simp) (by simp; first | omega | (refine ⟨by decide, ?_⟩; omega)))) [] rfl ⟨⟨rfl, rfl⟩, trivial⟩ trivial rfl ?_   -- certpathref01.Sum
  rintro _ _ ⟨s2, rfl, hs2⟩
  refine AwOps.v hT rfl ?_
  repeat (first | refine AwOps.nil ?_ | refine AwSch.nil ?_ | refine Aw.seq ?_ | refine Aw.region ?_ | refine Aw.block ?_ | refine Aw.skip ?_ | refine Aw.exit ?_ | refine Aw.condT rfl ?_ | refine Aw.condF rfl ?_)
  refine Aw.ret ?_
  refine ⟨_, [], rfl, trivial, ?_⟩
  exact ⟨_, rfl, by assumption⟩
-- f90 certpath/certpathref11.Generate
theorem F90 (seed : ByteArray) (h1 : seed.size = 32) : Fn Tryz.prog 70 [.pv (sc (.string seed)), .pv (sc (.int .i64 0))] [] (fun r _ => ∃ (s i : ByteArray) (l : List (List ByteArray)), r = .tup [.agg (eTree ⟨s, i, l⟩), .one (.p (.v (.int .i64 0)))] ∧ i.size = 16 ∧ l.length = 1 ∧ ∀ x ∈ l, x.length = 1 ∧ ∀ y ∈ x, y.size = 16) := by
  refine Fn.intro (rs := [.cell 4 100, .tmp 5]) hT Tryz.func70 (by kernel_rfl) rfl rfl rfl rfl fun C => ?_
  repeat (first | refine AwOps.nil ?_ | refine AwSch.nil ?_ | refine Aw.seq ?_ | refine Aw.region ?_ | refine Aw.block ?_ | refine Aw.skip ?_ | refine Aw.exit ?_ | refine Aw.condT rfl ?_ | refine Aw.condF rfl ?_)
  refine AwOps.eff hT rfl ?_
  refine AwOps.v hT rfl ?_
  repeat (first | refine AwOps.nil ?_ | refine AwSch.nil ?_ | refine Aw.seq ?_ | refine Aw.region ?_ | refine Aw.block ?_ | refine Aw.skip ?_ | refine Aw.exit ?_ | refine Aw.condT rfl ?_ | refine Aw.condF rfl ?_)
  iterate 3 refine AwOps.v hT rfl ?_
  repeat (first | refine AwOps.nil ?_ | refine AwSch.nil ?_ | refine Aw.seq ?_ | refine Aw.region ?_ | refine Aw.block ?_ | refine Aw.skip ?_ | refine Aw.exit ?_ | refine Aw.condT rfl ?_ | refine Aw.condF rfl ?_)
  refine Aw.tst rfl (fun hb16 => ?_) (fun hb16 => ?_)
  · skip
    have := bne_iff_ne.1 hb16; omega
  · skip
    repeat (first | refine AwOps.nil ?_ | refine AwSch.nil ?_ | refine Aw.seq ?_ | refine Aw.region ?_ | refine Aw.block ?_ | refine Aw.skip ?_ | refine Aw.exit ?_ | refine Aw.condT rfl ?_ | refine Aw.condF rfl ?_)
    iterate 6 refine AwOps.v hT rfl ?_
    repeat (first | refine AwOps.nil ?_ | refine AwSch.nil ?_ | refine Aw.seq ?_ | refine Aw.region ?_ | refine Aw.block ?_ | refine Aw.skip ?_ | refine Aw.exit ?_ | refine Aw.condT rfl ?_ | refine Aw.condF rfl ?_)
    refine AwOps.v hT rfl ?_
    refine AwOps.v hT rfl ?_
    refine AwOps.lit hT rfl ?_
    refine AwOps.turn (Tn.fz 27 rfl rfl (by first | rfl | (simp; done)) rfl) ?_
    refine AwOps.turn (Less.say (t := 27) (B := .one (.p (.sl (List.map eStr [_, _])))) rfl rfl) ?_
    refine AwOps.cl (F96 _ (okSs_mk (by simp) (by simp; first | omega | (refine ⟨by decide, ?_⟩; omega)))) [] rfl ⟨⟨rfl, rfl⟩, trivial⟩ trivial rfl ?_   -- certpathref01.Short
    rintro _ _ ⟨s1, rfl, hs1⟩
    refine AwOps.buildN hT rfl ?_
    refine AwOps.eff hT rfl ?_
    refine AwOps.stoM hT rfl ?_
    repeat (first | refine AwOps.nil ?_ | refine AwSch.nil ?_ | refine Aw.seq ?_ | refine Aw.region ?_ | refine Aw.block ?_ | refine Aw.skip ?_ | refine Aw.exit ?_ | refine Aw.condT rfl ?_ | refine Aw.condF rfl ?_)
    refine AwOps.v hT rfl ?_
    repeat (first | refine AwOps.nil ?_ | refine AwSch.nil ?_ | refine Aw.seq ?_ | refine Aw.region ?_ | refine Aw.block ?_ | refine Aw.skip ?_ | refine Aw.exit ?_ | refine Aw.condT rfl ?_ | refine Aw.condF rfl ?_)
    refine AwOps.v hT rfl ?_
    repeat (first | refine AwOps.nil ?_ | refine AwSch.nil ?_ | refine Aw.seq ?_ | refine Aw.region ?_ | refine Aw.block ?_ | refine Aw.skip ?_ | refine Aw.exit ?_ | refine Aw.condT rfl ?_ | refine Aw.condF rfl ?_)
    refine Aw.turn (Tn.own 7 907 9 1 rfl (by decide) (by decide) rfl) ?_
    refine Aw.lp (ι := List (ByteArray) × Int) (n := 95) [(0, _), (1, _), (4, _), (6, _)] [(4, _), (6, _)] (fun g => [(7, .one (.own 907 g.1.length)), (8, sc (.int .i64 g.2))]) (fun g => [(907, .row 9 1 true (List.map eStr g.1))]) (fun g => 0 ≤ g.2 ∧ g.2 ≤ 1 ∧ (g.1.length : Int) = g.2 ∧ ∀ y ∈ g.1, y.size = 16) (fun g => (1 - g.2).toNat) ([], _) ?ok1 (Less.tn ⟨rfl, ⟨rfl, rfl, rfl, rfl, rfl, rfl, trivial⟩, ⟨rfl, rfl, rfl, trivial⟩⟩) ?bd1
    case ok1 =>
      try dsimp only
      exact ⟨by omega, by omega, rfl, fun y hy => (by cases hy)⟩
    case bd1 =>
      rintro ⟨l7, k8⟩ hi1
      try dsimp only at hi1
      show Aw _ _ _ ⟨95, [(7, .one (.own 907 l7.length)), (8, sc (.int .i64 k8))] ++ [(0, _), (1, _), (4, _), (6, _)], [(907, .row 9 1 true (List.map eStr l7))] ++ [(4, _), (6, _)]⟩ _
      repeat (first | refine AwOps.nil ?_ | refine AwSch.nil ?_ | refine Aw.seq ?_ | refine Aw.region ?_ | refine Aw.block ?_ | refine Aw.skip ?_ | refine Aw.exit ?_ | refine Aw.condT rfl ?_ | refine Aw.condF rfl ?_)
      refine AwOps.v hT rfl ?_
      refine AwOps.v hT rfl ?_
      refine AwOps.bin rfl _ rfl (shl_run (by decide)) ?_
      refine AwOps.turn (Less.say (t := 32) (B := sc (.int .i64 1)) rfl rfl) ?_
      refine AwOps.v hT rfl ?_
      repeat (first | refine AwOps.nil ?_ | refine AwSch.nil ?_ | refine Aw.seq ?_ | refine Aw.region ?_ | refine Aw.block ?_ | refine Aw.skip ?_ | refine Aw.exit ?_ | refine Aw.condT rfl ?_ | refine Aw.condF rfl ?_)
      refine Aw.tst rfl (fun hb33 => ?_) (fun hb33 => ?_)
      · skip
        have hk : k8 < 1 := by simpa using hb33
        repeat (first | refine AwOps.nil ?_ | refine AwSch.nil ?_ | refine Aw.seq ?_ | refine Aw.region ?_ | refine Aw.block ?_ | refine Aw.skip ?_ | refine Aw.exit ?_ | refine Aw.condT rfl ?_ | refine Aw.condF rfl ?_)
        iterate 4 refine AwOps.v hT rfl ?_
        refine AwOps.cl (F97 _ _ _ (by omega) (by omega) (by omega) (by omega)) [] rfl ⟨⟨rfl, rfl⟩, ⟨rfl, rfl⟩, ⟨rfl, rfl⟩, trivial⟩ trivial rfl ?_   -- certpathref11.Public
        rintro _ _ ⟨s2, rfl, hs2⟩
        iterate 5 refine AwOps.v hT rfl ?_
        repeat (first | refine AwOps.nil ?_ | refine AwSch.nil ?_ | refine Aw.seq ?_ | refine Aw.region ?_ | refine Aw.block ?_ | refine Aw.skip ?_ | refine Aw.exit ?_ | refine Aw.condT rfl ?_ | refine Aw.condF rfl ?_)
        refine AwOps.v hT rfl ?_
        refine AwOps.v hT rfl ?_
        refine AwOps.lit hT rfl ?_
        refine AwOps.turn (Tn.fz 46 rfl rfl (by first | rfl | (simp; done)) rfl) ?_
        refine AwOps.turn (Less.say (t := 46) (B := .one (.p (.sl (List.map eStr [_])))) rfl rfl) ?_
        refine AwOps.appm  hT rfl rfl rfl rfl rfl (fun _ => rfl) (by simp only [List.length_cons, List.length_nil]; omega) ?_
        refine AwOps.v hT rfl ?_
        repeat (first | refine AwOps.nil ?_ | refine AwSch.nil ?_ | refine Aw.seq ?_ | refine Aw.region ?_ | refine Aw.block ?_ | refine Aw.skip ?_ | refine Aw.exit ?_ | refine Aw.condT rfl ?_ | refine Aw.condF rfl ?_)
        refine AwOps.v hT rfl ?_
        refine AwOps.v hT rfl ?_
        first | refine AwOps.nm 35 rfl (by omega) (by omega) ?_ | skip
        refine AwOps.v hT rfl ?_
        repeat (first | refine AwOps.nil ?_ | refine AwSch.nil ?_ | refine Aw.seq ?_ | refine Aw.region ?_ | refine Aw.block ?_ | refine Aw.skip ?_ | refine Aw.exit ?_ | refine Aw.condT rfl ?_ | refine Aw.condF rfl ?_)
        refine ⟨(_, _), ?nx1, ?mu1, Tn.trans (Less.tn (τ := ⟨95, [(7, _), (8, _), (0, _), (1, _), (4, _), (6, _)], [(47, _), (4, _), (6, _)]⟩) ⟨rfl, ⟨rfl, rfl, rfl, rfl, rfl, rfl, trivial⟩, ⟨rfl, rfl, rfl, trivial⟩⟩) (Tn.trans (Tn.ren 47 907 rfl rfl rfl) (Less.tn ⟨rfl, ⟨rfl, rfl, rfl, rfl, rfl, rfl, trivial⟩, ⟨rfl, rfl, rfl, trivial⟩⟩))⟩
        case nx1 =>
          try dsimp only
          refine ⟨by omega, by omega, by simp only [List.length_append, List.length_cons, List.length_nil]; omega, fun y hy => ?_⟩
          rcases List.mem_append.1 hy with hy | hy
          · exact hi1.2.2.2 y hy
          · rw [List.mem_singleton.1 hy]; assumption
        case mu1 =>
          try dsimp only
          first | omega | (simp only [w64] at *; omega) | (simp [w64] at *; omega)
      · skip
        have hk : ¬ k8 < 1 := by simpa using hb33
        have hl7 : l7.length = 1 := by omega
        have hl8 := hi1.2.2.2
        repeat (first | refine AwOps.nil ?_ | refine AwSch.nil ?_ | refine Aw.seq ?_ | refine Aw.region ?_ | refine Aw.block ?_ | refine Aw.skip ?_ | refine Aw.exit ?_ | refine Aw.condT rfl ?_ | refine Aw.condF rfl ?_)
        iterate 3 refine AwOps.v hT rfl ?_
        refine AwOps.turn (Tn.fz2 50 7 rfl rfl rfl (by first | rfl | (simp; done)) (by first | rfl | (simp; done)) rfl) ?_
        refine AwOps.lit hT rfl ?_
        refine AwOps.turn (Tn.fz 51 rfl rfl (by first | rfl | (simp; done)) rfl) ?_
        refine AwOps.turn (Less.say (t := 51) (B := .one (.p (.sl (List.map eStrs [_])))) rfl rfl) ?_
        refine AwOps.appm (xs := []) hT rfl rfl rfl rfl rfl (fun _ => rfl) (by first | exact Nat.le_of_ble_eq_true rfl | (simp only [List.length_cons, List.length_nil]; first | omega | (simp only [w64] at *; omega) | (simp [w64] at *; omega))) ?_
        refine AwOps.v hT rfl ?_
        refine AwOps.eff hT rfl ?_
        repeat (first | refine AwOps.nil ?_ | refine AwSch.nil ?_ | refine Aw.seq ?_ | refine Aw.region ?_ | refine Aw.block ?_ | refine Aw.skip ?_ | refine Aw.exit ?_ | refine Aw.condT rfl ?_ | refine Aw.condF rfl ?_)
        refine AwOps.v hT rfl ?_
        repeat (first | refine AwOps.nil ?_ | refine AwSch.nil ?_ | refine Aw.seq ?_ | refine Aw.region ?_ | refine Aw.block ?_ | refine Aw.skip ?_ | refine Aw.exit ?_ | refine Aw.condT rfl ?_ | refine Aw.condF rfl ?_)
        refine Aw.lp (ι := List (ByteArray) × Int) (n := 95) [(1, _), (4, _), (6, _)] [(4, _), (6, _), (52, _)] (fun g => [(7, .one (.p (.sl (List.map eStr g.1)))), (11, sc (.int .i64 g.2))]) (fun g => []) (fun g => g.2 = 0 ∧ g.1.length = 1 ∧ ∀ y ∈ g.1, y.size = 16) (fun g => 0) (_, _) ?ok2 (Less.tn ⟨rfl, ⟨rfl, rfl, rfl, rfl, rfl, trivial⟩, ⟨rfl, rfl, rfl, trivial⟩⟩) ?bd2
        case ok2 =>
          try dsimp only
          exact ⟨rfl, hl7, hl8⟩
        case bd2 =>
          rintro ⟨l7, k11⟩ hi2
          try dsimp only at hi2
          show Aw _ _ _ ⟨95, [(7, .one (.p (.sl (List.map eStr l7)))), (11, sc (.int .i64 k11))] ++ [(1, _), (4, _), (6, _)], [] ++ [(4, _), (6, _), (52, _)]⟩ _
          repeat (first | refine AwOps.nil ?_ | refine AwSch.nil ?_ | refine Aw.seq ?_ | refine Aw.region ?_ | refine Aw.block ?_ | refine Aw.skip ?_ | refine Aw.exit ?_ | refine Aw.condT rfl ?_ | refine Aw.condF rfl ?_)
          iterate 3 refine AwOps.v hT rfl ?_
          repeat (first | refine AwOps.nil ?_ | refine AwSch.nil ?_ | refine Aw.seq ?_ | refine Aw.region ?_ | refine Aw.block ?_ | refine Aw.skip ?_ | refine Aw.exit ?_ | refine Aw.condT rfl ?_ | refine Aw.condF rfl ?_)
          refine Aw.tst rfl (fun hb56 => ?_) (fun hb56 => ?_)
          · skip
            exact absurd (of_decide_eq_true hb56) (by have := hi2.1; omega)
          · skip
            repeat (first | refine AwOps.nil ?_ | refine AwSch.nil ?_ | refine Aw.seq ?_ | refine Aw.region ?_ | refine Aw.block ?_ | refine Aw.skip ?_ | refine Aw.exit ?_ | refine Aw.condT rfl ?_ | refine Aw.condF rfl ?_)
            refine AwOps.turn (Tn.freezeC 6 2 rfl rfl rfl (by first | rfl | (simp; done)) rfl rfl) ?_
            refine AwOps.v hT rfl ?_
            refine AwOps.eff hT rfl ?_
            refine AwOps.v hT rfl ?_
            repeat (first | refine AwOps.nil ?_ | refine AwSch.nil ?_ | refine Aw.seq ?_ | refine Aw.region ?_ | refine Aw.block ?_ | refine Aw.skip ?_ | refine Aw.exit ?_ | refine Aw.condT rfl ?_ | refine Aw.condF rfl ?_)
            refine Aw.ret ?_
            refine ⟨_, [], rfl, trivial, ?_⟩
            refine ⟨_, _, _, rfl, by assumption, rfl, fun x hx => ?_⟩
            simp only [List.nil_append, List.mem_singleton] at hx
            rw [hx]
            exact ⟨hl7, hl8⟩
-- f80 certpath/certpathmade.Tree
theorem F80 (k : Int) : Fn Tryz.prog 56 [.pv (sc (.int .i64 k)), .pv (sc (.int .i64 0))] [] (fun r _ => ∃ (s i : ByteArray) (l : List (List ByteArray)), r = .agg (eTree ⟨s, i, l⟩) ∧ i.size = 16 ∧ l.length = 1 ∧ ∀ x ∈ l, x.length = 1 ∧ ∀ y ∈ x, y.size = 16) := by
  refine Fn.intro (rs := [.cell 4 100]) hT Tryz.func56 (by kernel_rfl) rfl rfl rfl rfl fun C => ?_
  repeat (first | refine AwOps.nil ?_ | refine AwSch.nil ?_ | refine Aw.seq ?_ | refine Aw.region ?_ | refine Aw.block ?_ | refine Aw.skip ?_ | refine Aw.exit ?_ | refine Aw.condT rfl ?_ | refine Aw.condF rfl ?_)
  refine AwOps.eff hT rfl ?_
  repeat (first | refine AwOps.nil ?_ | refine AwSch.nil ?_ | refine Aw.seq ?_ | refine Aw.region ?_ | refine Aw.block ?_ | refine Aw.skip ?_ | refine Aw.exit ?_ | refine Aw.condT rfl ?_ | refine Aw.condF rfl ?_)
  refine AwOps.v hT rfl ?_
  refine AwOps.cl (F91 _) [] rfl ⟨⟨rfl, rfl⟩, trivial⟩ trivial rfl ?_   -- certpathmade.Seed
  rintro _ _ ⟨s1, rfl, hs1⟩
  refine AwOps.v hT rfl ?_
  refine AwOps.cl (F90 _ (by omega)) [] rfl ⟨⟨rfl, rfl⟩, ⟨rfl, rfl⟩, trivial⟩ trivial rfl ?_   -- certpathref11.Generate
  rintro _ _ ⟨s2, i2, l2, rfl, hi2, hl2, hm2⟩
  iterate 3 refine AwOps.v hT rfl ?_
  refine AwOps.eff hT rfl ?_
  refine AwOps.eff hT rfl ?_
  refine AwOps.v hT rfl ?_
  repeat (first | refine AwOps.nil ?_ | refine AwSch.nil ?_ | refine Aw.seq ?_ | refine Aw.region ?_ | refine Aw.block ?_ | refine Aw.skip ?_ | refine Aw.exit ?_ | refine Aw.condT rfl ?_ | refine Aw.condF rfl ?_)
  refine AwOps.v hT rfl ?_
  refine AwOps.eff hT rfl ?_
  repeat (first | refine AwOps.nil ?_ | refine AwSch.nil ?_ | refine Aw.seq ?_ | refine Aw.region ?_ | refine Aw.block ?_ | refine Aw.skip ?_ | refine Aw.exit ?_ | refine Aw.condT rfl ?_ | refine Aw.condF rfl ?_)
  refine Aw.ret ?_
  refine ⟨_, [], rfl, trivial, ?_⟩
  exact ⟨_, _, _, rfl, by assumption, by assumption, by assumption⟩
-- f62 certpath/certpathmade2.Key
theorem F62 (k : Int) (hk : 0 ≤ k) : Fn Tryz.prog 39 [.pv (sc (.int .i64 k))] [] (fun r _ => ∃ (s i : ByteArray) (l : List (List ByteArray)), r = .agg (eTree ⟨s, i, l⟩) ∧ i.size = 16 ∧ l.length = 1 ∧ ∀ x ∈ l, x.length = 1 ∧ ∀ y ∈ x, y.size = 16) := by
  refine Fn.intro (rs := [.cell 2 100]) hT Tryz.func39 (by kernel_rfl) rfl rfl rfl rfl fun C => ?_
  repeat (first | refine AwOps.nil ?_ | refine AwSch.nil ?_ | refine Aw.seq ?_ | refine Aw.region ?_ | refine Aw.block ?_ | refine Aw.skip ?_ | refine Aw.exit ?_ | refine Aw.condT rfl ?_ | refine Aw.condF rfl ?_)
  refine AwOps.eff hT rfl ?_
  repeat (first | refine AwOps.nil ?_ | refine AwSch.nil ?_ | refine Aw.seq ?_ | refine Aw.region ?_ | refine Aw.block ?_ | refine Aw.skip ?_ | refine Aw.exit ?_ | refine Aw.condT rfl ?_ | refine Aw.condF rfl ?_)
  refine AwOps.v hT rfl ?_
  refine AwOps.v hT rfl ?_
  first | refine AwOps.nmr 4 rfl (by omega) ?_ | skip
  refine AwOps.v hT rfl ?_
  first | refine AwOps.nm 5 rfl (by omega) (by omega) ?_ | skip
  refine AwOps.cl (F80 _) [] rfl ⟨⟨rfl, rfl⟩, ⟨rfl, rfl⟩, trivial⟩ trivial rfl ?_   -- certpathmade.Tree
  rintro _ _ ⟨s1, i1, l1, rfl, hi1, hl1, hm1⟩
  refine AwOps.eff hT rfl ?_
  repeat (first | refine AwOps.nil ?_ | refine AwSch.nil ?_ | refine Aw.seq ?_ | refine Aw.region ?_ | refine Aw.block ?_ | refine Aw.skip ?_ | refine Aw.exit ?_ | refine Aw.condT rfl ?_ | refine Aw.condF rfl ?_)
  refine Aw.ret ?_
  refine ⟨_, [], rfl, trivial, ?_⟩
  exact ⟨_, _, _, rfl, by assumption, by assumption, by assumption⟩
-- f61 certpath/certpathref11.KeyOf
theorem F61 (s i : ByteArray) (l : List (List ByteArray)) (h1 : i.size = 16) (h2 : l.length = 1) (h3 : ∀ x ∈ l, x.length = 1 ∧ ∀ y ∈ x, y.size = 16) : Fn Tryz.prog 38 [.pv (.agg (eTree ⟨s, i, l⟩))] [] (fun r _ => ∃ k : Key, r = .agg (eKey k)) := by
  refine Fn.intro (rs := [.cell 2 29]) hT Tryz.func38 (by kernel_rfl) rfl rfl rfl rfl fun C => ?_
  obtain ⟨x, rfl⟩ : ∃ x, l = [x] := List.length_eq_one_iff.1 h2
  obtain ⟨y, rfl⟩ : ∃ y, x = [y] := List.length_eq_one_iff.1 (h3 x (by simp)).1
  repeat (first | refine AwOps.nil ?_ | refine AwSch.nil ?_ | refine Aw.seq ?_ | refine Aw.region ?_ | refine Aw.block ?_ | refine Aw.skip ?_ | refine Aw.exit ?_ | refine Aw.condT rfl ?_ | refine Aw.condF rfl ?_)
  refine AwOps.eff hT rfl ?_
  refine AwOps.eff hT rfl ?_
  repeat (first | refine AwOps.nil ?_ | refine AwSch.nil ?_ | refine Aw.seq ?_ | refine Aw.region ?_ | refine Aw.block ?_ | refine Aw.skip ?_ | refine Aw.exit ?_ | refine Aw.condT rfl ?_ | refine Aw.condF rfl ?_)
  iterate 4 refine AwOps.v hT rfl ?_
  refine AwOps.turn (Less.say (t := 7) (B := sc (.int .i64 0)) rfl rfl) ?_
  refine AwOps.v hT rfl ?_
  repeat (first | refine AwOps.nil ?_ | refine AwSch.nil ?_ | refine Aw.seq ?_ | refine Aw.region ?_ | refine Aw.block ?_ | refine Aw.skip ?_ | refine Aw.exit ?_ | refine Aw.condT rfl ?_ | refine Aw.condF rfl ?_)
  refine Aw.regionS [2] [(true, 0), (true, 1), (true, 2), (true, 3), (true, 4), (true, 5), (true, 6), (true, 7), (true, 8), (true, 9), (true, 10), (false, 11)] (by kernel_rfl) (by kernel_rfl) ?_
  iterate 6 refine AwSch.take (Yd.val hT rfl rfl) ?_
  refine AwSch.take (Yd.imI hT rfl (by omega) (by exact Nat.le_refl 1) rfl) ?_
  refine AwSch.take (Yd.val hT rfl rfl) ?_
  refine AwSch.take (Yd.imI hT rfl (by omega) (by exact Nat.le_refl 1) rfl) ?_
  refine AwSch.take (Yd.val hT rfl rfl) ?_
  refine AwSch.take (Yd.build hT rfl) ?_
  refine AwSch.say (t := 18) (B := .agg [_, _, _]) rfl rfl ?_
  refine AwSch.one ?_
  refine Ed.eff hT rfl (fun b hb => by injection hb with hb; subst hb; decide) ?_
  repeat (first | refine AwOps.nil ?_ | refine AwSch.nil ?_ | refine Aw.seq ?_ | refine Aw.region ?_ | refine Aw.block ?_ | refine Aw.skip ?_ | refine Aw.exit ?_ | refine Aw.condT rfl ?_ | refine Aw.condF rfl ?_)
  refine Aw.ret ?_
  refine ⟨_, [], rfl, trivial, ?_⟩
  exact ⟨⟨_, _, _⟩, rfl⟩
-- f34 certpath/certpathmade2.Public
theorem F34 (k : Int) (hk : 0 ≤ k) : Fn Tryz.prog 17 [.pv (sc (.int .i64 k))] [] (fun r _ => ∃ k : Key, r = .agg (eKey k)) := by
  refine Fn.intro (rs := [.cell 2 29]) hT Tryz.func17 (by kernel_rfl) rfl rfl rfl rfl fun C => ?_
  repeat (first | refine AwOps.nil ?_ | refine AwSch.nil ?_ | refine Aw.seq ?_ | refine Aw.region ?_ | refine Aw.block ?_ | refine Aw.skip ?_ | refine Aw.exit ?_ | refine Aw.condT rfl ?_ | refine Aw.condF rfl ?_)
  refine AwOps.eff hT rfl ?_
  repeat (first | refine AwOps.nil ?_ | refine AwSch.nil ?_ | refine Aw.seq ?_ | refine Aw.region ?_ | refine Aw.block ?_ | refine Aw.skip ?_ | refine Aw.exit ?_ | refine Aw.condT rfl ?_ | refine Aw.condF rfl ?_)
  refine AwOps.v hT rfl ?_
  refine AwOps.cl (F62 _ (by omega)) [] rfl ⟨⟨rfl, rfl⟩, trivial⟩ trivial rfl ?_   -- certpathmade2.Key
  rintro _ _ ⟨s1, i1, l1, rfl, hi1, hl1, hm1⟩
  refine AwOps.cl (F61 _ _ _ (by assumption) (by assumption) (by assumption)) [] rfl ⟨⟨rfl, rfl⟩, trivial⟩ trivial rfl ?_   -- certpathref11.KeyOf
  rintro _ _ ⟨k2, rfl⟩
  refine AwOps.eff hT rfl ?_
  repeat (first | refine AwOps.nil ?_ | refine AwSch.nil ?_ | refine Aw.seq ?_ | refine Aw.region ?_ | refine Aw.block ?_ | refine Aw.skip ?_ | refine Aw.exit ?_ | refine Aw.condT rfl ?_ | refine Aw.condF rfl ?_)
  refine Aw.ret ?_
  refine ⟨_, [], rfl, trivial, ?_⟩
  exact ⟨_, rfl⟩
-- f9 certpath/certpathmade2.Anchor
theorem F9 (k : Int) (hk : 0 ≤ k) : Fn Tryz.prog 13 [.pv (sc (.int .i64 k))] [] (fun r _ => ∃ (v : Int) (k : Key), 0 ≤ v ∧ r = .agg (eAnchor ⟨authS v, k⟩)) := by
  refine Fn.intro (rs := [.cell 2 61]) hT Tryz.func13 (by kernel_rfl) rfl rfl rfl rfl fun C => ?_
  repeat (first | refine AwOps.nil ?_ | refine AwSch.nil ?_ | refine Aw.seq ?_ | refine Aw.region ?_ | refine Aw.block ?_ | refine Aw.skip ?_ | refine Aw.exit ?_ | refine Aw.condT rfl ?_ | refine Aw.condF rfl ?_)
  refine AwOps.eff hT rfl ?_
  repeat (first | refine AwOps.nil ?_ | refine AwSch.nil ?_ | refine Aw.seq ?_ | refine Aw.region ?_ | refine Aw.block ?_ | refine Aw.skip ?_ | refine Aw.exit ?_ | refine Aw.condT rfl ?_ | refine Aw.condF rfl ?_)
  refine AwOps.v hT rfl ?_
  refine AwOps.cl (F33 _ (by first | omega | (simp only [w64] at *; omega) | (simp [w64] at *; omega))) [] rfl ⟨⟨rfl, rfl⟩, trivial⟩ trivial rfl ?_   -- certpathmade2.Named
  rintro _ _ ⟨v1, hv1, rfl⟩
  have hw1 := namedL_nn _ hv1
  refine AwOps.cl (F25 _ (by first | omega | (simp only [w64] at *; omega) | (simp [w64] at *; omega))) [] rfl ⟨⟨rfl, rfl⟩, trivial⟩ trivial rfl ?_   -- certpathmade.Authority
  rintro _ _ rfl
  refine AwOps.v hT rfl ?_
  refine AwOps.cl (F34 _ (by omega)) [] rfl ⟨⟨rfl, rfl⟩, trivial⟩ trivial rfl ?_   -- certpathmade2.Public
  rintro _ _ ⟨k3, rfl⟩
  refine AwOps.build hT rfl ?_
  refine AwOps.turn (Less.say (t := 8) (B := .agg [_, _, _, _]) rfl rfl) ?_
  refine AwOps.eff hT rfl ?_
  repeat (first | refine AwOps.nil ?_ | refine AwSch.nil ?_ | refine Aw.seq ?_ | refine Aw.region ?_ | refine Aw.block ?_ | refine Aw.skip ?_ | refine Aw.exit ?_ | refine Aw.condT rfl ?_ | refine Aw.condF rfl ?_)
  refine Aw.ret ?_
  refine ⟨_, [], rfl, trivial, ?_⟩
  exact ⟨_, _, by assumption, rfl⟩
end Go.Proofs.YthhjfcmkelmobaaGreat.Aw
