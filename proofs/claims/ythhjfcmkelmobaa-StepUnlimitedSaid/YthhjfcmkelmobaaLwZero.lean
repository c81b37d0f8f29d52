/- The walks over a deck that is used up: exact.
   Conditions: none. -/
import Derived.Test.YthhjfcmkelmobaaWkLaw
namespace Go.Proofs.Ythhjfcmkelmobaa.Aw
open Go
set_option maxRecDepth 100000
set_option maxHeartbeats 4000000
set_option linter.unusedSimpArgs false
set_option linter.unusedVariables false

-- f10 (*certpath/certpathmade.Deck).Next
theorem F10z (d : Dk) (n : Int) (h : d.L.length ≤ d.k) : Fn Try.prog 10 [.ptr 0 0, .pv (sc (.int .i64 n))] [(75, eDk d)] (fun r H' => r = sc (.int .i64 0) ∧ H' = [eDk d]) := by
  refine Fn.intro (rs := [.tmp 4]) hT Try.func10 (by kernel_rfl) rfl rfl rfl rfl fun C => ?_
  repeat (first | refine AwOps.nil ?_ | refine AwSch.nil ?_ | refine Aw.seq ?_ | refine Aw.region ?_ | refine Aw.block ?_ | refine Aw.skip ?_ | refine Aw.exit ?_ | refine Aw.condT rfl ?_ | refine Aw.condF rfl ?_)
  refine AwOps.v hT rfl ?_
  repeat (first | refine AwOps.nil ?_ | refine AwSch.nil ?_ | refine Aw.seq ?_ | refine Aw.region ?_ | refine Aw.block ?_ | refine Aw.skip ?_ | refine Aw.exit ?_ | refine Aw.condT rfl ?_ | refine Aw.condF rfl ?_)
  refine Aw.regionS [] [(true, 0), (true, 1), (true, 2), (true, 3), (true, 4), (true, 5), (true, 6), (true, 7), (true, 8), (true, 9)] (by kernel_rfl) (by kernel_rfl) ?_
  iterate 10 refine AwSch.take (Yd.val hT rfl rfl) ?_
  repeat (first | refine AwOps.nil ?_ | refine AwSch.nil ?_ | refine Aw.seq ?_ | refine Aw.region ?_ | refine Aw.block ?_ | refine Aw.skip ?_ | refine Aw.exit ?_ | refine Aw.condT rfl ?_ | refine Aw.condF rfl ?_)
  refine Aw.tst rfl (fun hb14 => ?_) (fun hb14 => ?_)
  · skip
    repeat (first | refine AwOps.nil ?_ | refine AwSch.nil ?_ | refine Aw.seq ?_ | refine Aw.region ?_ | refine Aw.block ?_ | refine Aw.skip ?_ | refine Aw.exit ?_ | refine Aw.condT rfl ?_ | refine Aw.condF rfl ?_)
    refine AwOps.v hT rfl ?_
    repeat (first | refine AwOps.nil ?_ | refine AwSch.nil ?_ | refine Aw.seq ?_ | refine Aw.region ?_ | refine Aw.block ?_ | refine Aw.skip ?_ | refine Aw.exit ?_ | refine Aw.condT rfl ?_ | refine Aw.condF rfl ?_)
    refine Aw.ret ?_
    refine ⟨_, [_], rfl, ⟨rfl, trivial⟩, ?_⟩
    exact ⟨rfl, rfl⟩
  · skip
    have := of_decide_eq_false hb14
    simp only [List.length_map] at this
    omega
-- f45 certpath/certpathmade2.times
theorem F45z (d : Dk) (h : d.L.length ≤ d.k) : Fn Try.prog 45 [.ptr 0 0] [(75, eDk d)] (fun r H' => r = .tup [.one (.p (.v (.int .i64 2000))), .one (.p (.v (.int .i64 2000)))] ∧ H' = [eDk d]) := by
  refine Fn.intro (rs := [.tmp 2, .tmp 3]) hT Try.func45 (by kernel_rfl) rfl rfl rfl rfl fun C => ?_
  repeat (first | refine AwOps.nil ?_ | refine AwSch.nil ?_ | refine Aw.seq ?_ | refine Aw.region ?_ | refine Aw.block ?_ | refine Aw.skip ?_ | refine Aw.exit ?_ | refine Aw.condT rfl ?_ | refine Aw.condF rfl ?_)
  refine AwOps.v hT rfl ?_
  refine AwOps.v hT rfl ?_
  repeat (first | refine AwOps.nil ?_ | refine AwSch.nil ?_ | refine Aw.seq ?_ | refine Aw.region ?_ | refine Aw.block ?_ | refine Aw.skip ?_ | refine Aw.exit ?_ | refine Aw.condT rfl ?_ | refine Aw.condF rfl ?_)
  refine AwOps.v hT rfl ?_
  refine AwOps.cl (F10z _ _ (by assumption)) [1000] rfl ⟨⟨1000, rfl, rfl⟩, ⟨rfl, rfl⟩, trivial⟩ ⟨rfl, trivial⟩ rfl ?_   -- certpathmade.Deck).Next
  rintro _ _ ⟨rfl, rfl⟩
  repeat (first | refine AwOps.nil ?_ | refine AwSch.nil ?_ | refine Aw.seq ?_ | refine Aw.region ?_ | refine Aw.block ?_ | refine Aw.skip ?_ | refine Aw.exit ?_ | refine Aw.condT rfl ?_ | refine Aw.condF rfl ?_)
  refine AwOps.v hT rfl ?_
  refine AwOps.v hT rfl ?_
  repeat (first | refine AwOps.nil ?_ | refine AwSch.nil ?_ | refine Aw.seq ?_ | refine Aw.region ?_ | refine Aw.block ?_ | refine Aw.skip ?_ | refine Aw.exit ?_ | refine Aw.condT rfl ?_ | refine Aw.condF rfl ?_)
  refine AwOps.v hT rfl ?_
  refine AwOps.v hT rfl ?_
  repeat (first | refine AwOps.nil ?_ | refine AwSch.nil ?_ | refine Aw.seq ?_ | refine Aw.region ?_ | refine Aw.block ?_ | refine Aw.skip ?_ | refine Aw.exit ?_ | refine Aw.condT rfl ?_ | refine Aw.condF rfl ?_)
  refine AwOps.v hT rfl ?_
  refine AwOps.cl (F10z _ _ (by assumption)) [1000] rfl ⟨⟨1000, rfl, rfl⟩, ⟨rfl, rfl⟩, trivial⟩ ⟨rfl, trivial⟩ rfl ?_   -- certpathmade.Deck).Next
  rintro _ _ ⟨rfl, rfl⟩
  refine AwOps.v hT rfl ?_
  first | refine AwOps.nm 12 rfl (by omega) (by omega) ?_ | skip
  refine AwOps.v hT rfl ?_
  refine AwOps.cl (F10z _ _ (by assumption)) [1000] rfl ⟨⟨1000, rfl, rfl⟩, ⟨rfl, rfl⟩, trivial⟩ ⟨rfl, trivial⟩ rfl ?_   -- certpathmade.Deck).Next
  rintro _ _ ⟨rfl, rfl⟩
  refine AwOps.v hT rfl ?_
  first | refine AwOps.nm 15 rfl (by omega) (by omega) ?_ | skip
  refine AwOps.v hT rfl ?_
  refine AwOps.v hT rfl ?_
  repeat (first | refine AwOps.nil ?_ | refine AwSch.nil ?_ | refine Aw.seq ?_ | refine Aw.region ?_ | refine Aw.block ?_ | refine Aw.skip ?_ | refine Aw.exit ?_ | refine Aw.condT rfl ?_ | refine Aw.condF rfl ?_)
  refine Aw.ret ?_
  refine ⟨_, [_], rfl, ⟨rfl, trivial⟩, ?_⟩
  exact ⟨rfl, rfl⟩
def namedS (k : Int) : Int := namedL.getD (k % 8).toNat 0
theorem namedS_nn (k : Int) : 0 ≤ namedS k := by
  unfold namedS
  rw [List.getD_eq_getElem?_getD]
  cases h : namedL[(k % 8).toNat]? with
  | none => exact Int.le_refl _
  | some v => exact namedL_nn v (List.mem_of_getElem? h)
/-- The fields of a certificate of the entity i for the entity j, without anything else. -/
def cert0 (i j : Int) (ca : Bool) (k : Key) : Cert := ⟨⟨#[]⟩, ⟨#[]⟩, 1, authS (namedS i), authS (namedS j), 2000, 2000, k, { noneS with hasBasic := ca, ca := ca }, ⟨#[]⟩⟩
-- f33 certpath/certpathmade2.Named
theorem F33z (k : Int) (hk : 0 ≤ k) : Fn Try.prog 33 [.pv (sc (.int .i64 k))] [] (fun r _ => r = sc (.int .i64 (namedS k))) := by
  refine Fn.intro (rs := [.tmp 2]) hT Try.func33 (by kernel_rfl) rfl rfl rfl rfl fun C => ?_
  repeat (first | refine AwOps.nil ?_ | refine AwSch.nil ?_ | refine Aw.seq ?_ | refine Aw.region ?_ | refine Aw.block ?_ | refine Aw.skip ?_ | refine Aw.exit ?_ | refine Aw.condT rfl ?_ | refine Aw.condF rfl ?_)
  refine AwOps.v hT rfl ?_
  repeat (first | refine AwOps.nil ?_ | refine AwSch.nil ?_ | refine Aw.seq ?_ | refine Aw.region ?_ | refine Aw.block ?_ | refine Aw.skip ?_ | refine Aw.exit ?_ | refine Aw.condT rfl ?_ | refine Aw.condF rfl ?_)
  refine AwOps.lit hT rfl ?_
  refine AwOps.turn (Tn.fz 3 rfl rfl (by first | rfl | (simp; done)) rfl) ?_
  refine AwOps.turn (Less.say (t := 3) (B := .one (.p (.sl (List.map eI [_, _, _, _, _, _, _, _])))) rfl rfl) ?_
  refine AwOps.v hT rfl ?_
  refine AwOps.v hT rfl ?_
  first | refine AwOps.nmr 5 rfl (by omega) ?_ | skip
  refine AwOps.imI hT rfl (by first | omega | (simp only [w64] at *; omega) | (simp [w64] at *; omega)) (by first | omega | (simp only [List.length_cons, List.length_nil, List.length_map]; omega) | (simp only [List.length_cons, List.length_nil, List.length_map, w64] at *; omega) | (simp [w64] at *; omega)) rfl ?_
  refine AwOps.v hT rfl ?_
  refine AwOps.v hT rfl ?_
  repeat (first | refine AwOps.nil ?_ | refine AwSch.nil ?_ | refine Aw.seq ?_ | refine Aw.region ?_ | refine Aw.block ?_ | refine Aw.skip ?_ | refine Aw.exit ?_ | refine Aw.condT rfl ?_ | refine Aw.condF rfl ?_)
  refine Aw.ret ?_
  refine ⟨_, [], rfl, trivial, ?_⟩
  exact sci' (by unfold namedS; rw [List.getD_eq_getElem?_getD]; exact (congrArg (Option.getD · 0) (List.getElem?_eq_getElem (l := namedL) (i := (k % 8).toNat) (by show (k % 8).toNat < 8; omega))).symm)
-- f19 certpath/certpathmade2.CertFields
theorem F19z (d : Dk) (i j : Int) (ca : Bool) (hi : 0 ≤ i) (hj : 0 ≤ j) (h : d.L.length ≤ d.k) : Fn Try.prog 19 [.ptr 0 0, .pv (sc (.int .i64 i)), .pv (sc (.int .i64 j)), .pv (sc (.bool ca))] [(75, eDk d)] (fun r H' => ∃ k : Key, r = .agg (eCert (cert0 i j ca k)) ∧ H' = [eDk d]) := by
  refine Fn.intro (rs := [.cell 8 58]) hT Try.func19 (by kernel_rfl) rfl rfl rfl rfl fun C => ?_
  repeat (first | refine AwOps.nil ?_ | refine AwSch.nil ?_ | refine Aw.seq ?_ | refine Aw.region ?_ | refine Aw.block ?_ | refine Aw.skip ?_ | refine Aw.exit ?_ | refine Aw.condT rfl ?_ | refine Aw.condF rfl ?_)
  refine AwOps.eff hT rfl ?_
  repeat (first | refine AwOps.nil ?_ | refine AwSch.nil ?_ | refine Aw.seq ?_ | refine Aw.region ?_ | refine Aw.block ?_ | refine Aw.skip ?_ | refine Aw.exit ?_ | refine Aw.condT rfl ?_ | refine Aw.condF rfl ?_)
  refine AwOps.v hT rfl ?_
  refine AwOps.cl (F10z _ _ (by assumption)) [1000] rfl ⟨⟨1000, rfl, rfl⟩, ⟨rfl, rfl⟩, trivial⟩ ⟨rfl, trivial⟩ rfl ?_   -- certpathmade.Deck).Next
  rintro _ _ ⟨rfl, rfl⟩
  refine AwOps.v hT rfl ?_
  first | refine AwOps.nm 14 rfl (by omega) (by omega) ?_ | skip
  refine AwOps.v hT rfl ?_
  refine AwOps.cl (F33z _ (by omega)) [] rfl ⟨⟨rfl, rfl⟩, trivial⟩ trivial rfl ?_   -- certpathmade2.Named
  rintro _ _ rfl
  refine AwOps.cl (F25 _ (namedS_nn _)) [] rfl ⟨⟨rfl, rfl⟩, trivial⟩ trivial rfl ?_   -- certpathmade.Authority
  rintro _ _ rfl
  refine AwOps.v hT rfl ?_
  refine AwOps.cl (F33z _ (by omega)) [] rfl ⟨⟨rfl, rfl⟩, trivial⟩ trivial rfl ?_   -- certpathmade2.Named
  rintro _ _ rfl
  refine AwOps.cl (F25 _ (namedS_nn _)) [] rfl ⟨⟨rfl, rfl⟩, trivial⟩ trivial rfl ?_   -- certpathmade.Authority
  rintro _ _ rfl
  refine AwOps.v hT rfl ?_
  refine AwOps.cl (F34 _ (by omega)) [] rfl ⟨⟨rfl, rfl⟩, trivial⟩ trivial rfl ?_   -- certpathmade2.Public
  rintro _ _ ⟨k6, rfl⟩
  refine AwOps.cl (F44) [] rfl trivial trivial rfl ?_   -- certpathref14.None
  rintro _ _ rfl
  refine AwOps.turn (Less.say (t := 23) (B := .agg [.v (.bool false), .v (.bool false), .v (.int .i64 (-1)), .v (.int .i64 0), .sl (List.map eStr []), .sl (List.map eStr []), .sl (List.map eMapp []), .v (.int .i64 (-1)), .v (.int .i64 (-1)), .v (.int .i64 (-1)), .sl (List.map eGn []), .v (.bool false), .sl (List.map eGn []), .sl (List.map eGn []), .v (.string ⟨#[]⟩), .v (.string ⟨#[]⟩), .sl (List.map ePoint []), .sl (List.map ePoint []), .sl (List.map eExt [])]) rfl rfl) ?_
  refine AwOps.build hT rfl ?_
  refine AwOps.turn (Less.say (t := 24) (B := .agg [.v (.string ⟨#[]⟩), .v (.string ⟨#[]⟩), _, _, _, .v (.int .i64 0), .v (.int .i64 0), _, _, _, _, _, _, _, _, _, _, _, _, _, _, _, _, _, _, _, _, _, _, .v (.string ⟨#[]⟩)]) rfl rfl) ?_
  refine AwOps.eff hT rfl ?_
  refine AwOps.eff hT rfl ?_
  repeat (first | refine AwOps.nil ?_ | refine AwSch.nil ?_ | refine Aw.seq ?_ | refine Aw.region ?_ | refine Aw.block ?_ | refine Aw.skip ?_ | refine Aw.exit ?_ | refine Aw.condT rfl ?_ | refine Aw.condF rfl ?_)
  refine AwOps.v hT rfl ?_
  refine AwOps.cl (F45z _ (by assumption)) [1000] rfl ⟨⟨1000, rfl, rfl⟩, trivial⟩ ⟨rfl, trivial⟩ rfl ?_   -- certpathmade2.times
  rintro _ _ ⟨rfl, rfl⟩
  iterate 4 refine AwOps.v hT rfl ?_
  refine AwOps.eff hT rfl ?_
  refine AwOps.v hT rfl ?_
  refine AwOps.eff hT rfl ?_
  repeat (first | refine AwOps.nil ?_ | refine AwSch.nil ?_ | refine Aw.seq ?_ | refine Aw.region ?_ | refine Aw.block ?_ | refine Aw.skip ?_ | refine Aw.exit ?_ | refine Aw.condT rfl ?_ | refine Aw.condF rfl ?_)
  refine AwOps.v hT rfl ?_
  refine AwOps.v hT rfl ?_
  repeat (first | refine AwOps.nil ?_ | refine AwSch.nil ?_ | refine Aw.seq ?_ | refine Aw.region ?_ | refine Aw.block ?_ | refine Aw.skip ?_ | refine Aw.exit ?_ | refine Aw.condT rfl ?_ | refine Aw.condF rfl ?_)
  iterate 6 refine AwOps.v hT rfl ?_
  refine AwOps.eff hT rfl ?_
  refine AwOps.v hT rfl ?_
  refine AwOps.v hT rfl ?_
  refine AwOps.eff hT rfl ?_
  repeat (first | refine AwOps.nil ?_ | refine AwSch.nil ?_ | refine Aw.seq ?_ | refine Aw.region ?_ | refine Aw.block ?_ | refine Aw.skip ?_ | refine Aw.exit ?_ | refine Aw.condT rfl ?_ | refine Aw.condF rfl ?_)
  refine AwOps.v hT rfl ?_
  refine AwOps.cl (F10z _ _ (by assumption)) [1000] rfl ⟨⟨1000, rfl, rfl⟩, ⟨rfl, rfl⟩, trivial⟩ ⟨rfl, trivial⟩ rfl ?_   -- certpathmade.Deck).Next
  rintro _ _ ⟨rfl, rfl⟩
  refine AwOps.v hT rfl ?_
  repeat (first | refine AwOps.nil ?_ | refine AwSch.nil ?_ | refine Aw.seq ?_ | refine Aw.region ?_ | refine Aw.block ?_ | refine Aw.skip ?_ | refine Aw.exit ?_ | refine Aw.condT rfl ?_ | refine Aw.condF rfl ?_)
  refine Aw.lp (ι := Int) (n := 59) [(0, _), (8, _), (9, _), (10, _)] [(8, _), (9, _), (1000, _)] (fun gq => [(11, sc (.int .i64 gq))]) (fun gq => []) (fun gq => gq = 0) (fun gq => 0) (_) ?ok1 (Less.tn ⟨rfl, ⟨rfl, rfl, rfl, rfl, rfl, trivial⟩, ⟨rfl, rfl, rfl, trivial⟩⟩) ?bd1
  case ok1 =>
    try dsimp only
    all_goals rfl
  case bd1 =>
    intro k11 hi1
    try dsimp only at hi1
    show Aw _ _ _ ⟨59, [(11, sc (.int .i64 k11))] ++ [(0, _), (8, _), (9, _), (10, _)], [] ++ [(8, _), (9, _), (1000, _)]⟩ _
    repeat (first | refine AwOps.nil ?_ | refine AwSch.nil ?_ | refine Aw.seq ?_ | refine Aw.region ?_ | refine Aw.block ?_ | refine Aw.skip ?_ | refine Aw.exit ?_ | refine Aw.condT rfl ?_ | refine Aw.condF rfl ?_)
    refine AwOps.v hT rfl ?_
    refine AwOps.v hT rfl ?_
    repeat (first | refine AwOps.nil ?_ | refine AwSch.nil ?_ | refine Aw.seq ?_ | refine Aw.region ?_ | refine Aw.block ?_ | refine Aw.skip ?_ | refine Aw.exit ?_ | refine Aw.condT rfl ?_ | refine Aw.condF rfl ?_)
    refine Aw.tst rfl (fun hb44 => ?_) (fun hb44 => ?_)
    · skip
      have := of_decide_eq_true hb44; omega
    · skip
      repeat (first | refine AwOps.nil ?_ | refine AwSch.nil ?_ | refine Aw.seq ?_ | refine Aw.region ?_ | refine Aw.block ?_ | refine Aw.skip ?_ | refine Aw.exit ?_ | refine Aw.condT rfl ?_ | refine Aw.condF rfl ?_)
      iterate 5 refine AwOps.v hT rfl ?_
      repeat (first | refine AwOps.nil ?_ | refine AwSch.nil ?_ | refine Aw.seq ?_ | refine Aw.region ?_ | refine Aw.block ?_ | refine Aw.skip ?_ | refine Aw.exit ?_ | refine Aw.condT rfl ?_ | refine Aw.condF rfl ?_)
      refine Aw.tst rfl (fun hb54 => ?_) (fun hb54 => ?_)
      · skip
        repeat (first | refine AwOps.nil ?_ | refine AwSch.nil ?_ | refine Aw.seq ?_ | refine Aw.region ?_ | refine Aw.block ?_ | refine Aw.skip ?_ | refine Aw.exit ?_ | refine Aw.condT rfl ?_ | refine Aw.condF rfl ?_)
        iterate 3 refine AwOps.v hT rfl ?_
        refine AwOps.eff hT rfl ?_
        repeat (first | refine AwOps.nil ?_ | refine AwSch.nil ?_ | refine Aw.seq ?_ | refine Aw.region ?_ | refine Aw.block ?_ | refine Aw.skip ?_ | refine Aw.exit ?_ | refine Aw.condT rfl ?_ | refine Aw.condF rfl ?_)
        refine AwOps.v hT rfl ?_
        refine AwOps.eff hT rfl ?_
        repeat (first | refine AwOps.nil ?_ | refine AwSch.nil ?_ | refine Aw.seq ?_ | refine Aw.region ?_ | refine Aw.block ?_ | refine Aw.skip ?_ | refine Aw.exit ?_ | refine Aw.condT rfl ?_ | refine Aw.condF rfl ?_)
        refine Aw.ret ?_
        refine ⟨_, [_], rfl, ⟨rfl, trivial⟩, ?_⟩
        first
          | exact ⟨_, rfl, rfl⟩
          | (cases ca <;> first | exact ⟨_, rfl, rfl⟩ | (simp at hb54; done))
      · skip
        repeat (first | refine AwOps.nil ?_ | refine AwSch.nil ?_ | refine Aw.seq ?_ | refine Aw.region ?_ | refine Aw.block ?_ | refine Aw.skip ?_ | refine Aw.exit ?_ | refine Aw.condT rfl ?_ | refine Aw.condF rfl ?_)
        refine AwOps.v hT rfl ?_
        refine AwOps.eff hT rfl ?_
        repeat (first | refine AwOps.nil ?_ | refine AwSch.nil ?_ | refine Aw.seq ?_ | refine Aw.region ?_ | refine Aw.block ?_ | refine Aw.skip ?_ | refine Aw.exit ?_ | refine Aw.condT rfl ?_ | refine Aw.condF rfl ?_)
        refine Aw.ret ?_
        refine ⟨_, [_], rfl, ⟨rfl, trivial⟩, ?_⟩
        first
          | exact ⟨_, rfl, rfl⟩
          | (cases ca <;> first | exact ⟨_, rfl, rfl⟩ | (simp at hb54; done))
end Go.Proofs.Ythhjfcmkelmobaa.Aw
