
/- The walks of what the laws on scopes make: points, a list, some.
   Conditions: none. -/
import Derived.Test.YtbdgmondalkhlaaDoorLwScope
namespace Go.Proofs.YtbdgmondalkhlaaDoor.Aw
open Go
set_option maxRecDepth 100000
set_option maxHeartbeats 4000000
set_option linter.unusedSimpArgs false
set_option linter.unusedVariables false

def goodR (r : Int) : Prop := 0 ≤ allR r ∧ allR r ≤ 510 ∧ allR r % 2 = 0
instance (r : Int) : Decidable (goodR r) := inferInstanceAs (Decidable (_ ∧ _ ∧ _))
def rPts : List Int := [0, 0, 2, 510, 508]
def rScp : List Int := [0, 0, 2, 508, 510, 128]
theorem rPts_ok : ∀ x ∈ rPts, goodR x := by decide
theorem rScp_ok : ∀ x ∈ rScp, goodR x := by decide
def okPtR (p : Point) : Prop := okPt p ∧ goodR p.reasons
def okPtsR (l : List Point) : Prop := l.length ≤ 1000 ∧ ∀ p ∈ l, okPtR p
theorem okPtsR_nil : okPtsR [] := ⟨by simp, fun _ h => (by cases h)⟩
theorem okPtsR_snoc {l : List Point} {g : Point} (h : okPtsR l) (hl : l.length ≤ 900) (hg : okPtR g) : okPtsR (l ++ [g]) := ⟨by simp; omega, fun x hx => by
  rcases List.mem_append.1 hx with hx | hx
  · exact h.2 x hx
  · rw [List.mem_singleton.1 hx]; exact hg⟩
theorem okPtsR_ok {l : List Point} (h : okPtsR l) : okPts l := ⟨h.1, fun p hp => (h.2 p hp).1⟩
def lL : List Int := [0, 8, 2, 4]
theorem lL_nn : ∀ x ∈ lL, 0 ≤ x := by decide
-- f71 certpath/certpathmade2.Points
theorem F71m (d : Dk) : Fn Tryd.prog 23 [.ptr 0 0] [(68, eDk d)] (fun r H' => ∃ (x : List Point) (d' : Dk), r = .one (.p (.sl (x.map ePoint))) ∧ H' = [eDk d'] ∧ okPtsR x ∧ 1 ≤ x.length ∧ x.length ≤ 3) := by
  refine Fn.intro (rs := [.tmp 2]) hT Tryd.func23 (by kernel_rfl) rfl rfl rfl rfl fun C => ?_
  refine Aw.seq (Aw.region ?_)
  refine AwOps.v hT rfl ?_
  refine AwOps.nil (Aw.seq (Aw.region ?_))
  refine AwOps.v hT rfl ?_
  refine AwOps.nil (Aw.seq (Aw.seq (Aw.region ?_)))
  refine AwOps.v hT rfl ?_
  refine AwOps.cl (F10 _ _ (by first | omega | (simp only [w64] at *; omega) | (simp [w64] at *; omega)) (by first | omega | (simp only [w64] at *; omega) | (simp [w64] at *; omega))) [1000] rfl ⟨⟨1000, rfl, rfl⟩, ⟨rfl, rfl⟩, trivial⟩ ⟨rfl, trivial⟩ rfl ?_   -- certpathmade.Deck).Next
  rintro _ _ ⟨v1, d1, rfl, rfl, hv1, hw1⟩
  refine AwOps.v hT rfl ?_
  first | refine AwOps.nm 8 rfl (by omega) (by omega) ?_ | skip
  refine AwOps.v hT rfl ?_
  refine AwOps.nil (Aw.block ?_)
  refine Aw.turn (Tn.own 3 903 53 4 rfl (by decide) (by decide) rfl) ?_
  refine Aw.lp (ι := List (Point) × Int × Dk) (n := 47) [(0, _)] [] (fun gq => [(3, .one (.own 903 gq.1.length)), (4, sc (.int .i64 gq.2.1))]) (fun gq => [(903, .row 53 4 true (List.map ePoint gq.1)), (1000, .box ⟨68, eDk gq.2.2, []⟩)]) (fun gq => 0 ≤ gq.2.1 ∧ gq.2.1 + gq.1.length ≤ 3 ∧ 1 ≤ gq.2.1 + gq.1.length ∧ okPtsR gq.1) (fun gq => gq.2.1.toNat) ([], _, _) ?ok1 (Less.tn ⟨rfl, ⟨rfl, rfl, rfl, trivial⟩, ⟨rfl, rfl, trivial⟩⟩) ?bd1
  case ok1 =>
    try dsimp only
    exact ⟨by first | omega | (simp only [w64] at *; omega) | (simp [w64] at *; omega), by simp only [List.length_nil]; first | omega | (simp only [w64] at *; omega) | (simp [w64] at *; omega), by simp only [List.length_nil]; first | omega | (simp only [w64] at *; omega) | (simp [w64] at *; omega), okPtsR_nil⟩
  case bd1 =>
    rintro ⟨l3, k4, x1000⟩ hi1
    try dsimp only at hi1
    show Aw _ _ _ ⟨47, [(3, .one (.own 903 l3.length)), (4, sc (.int .i64 k4))] ++ [(0, _)], [(903, .row 53 4 true (List.map ePoint l3)), (1000, .box ⟨68, eDk x1000, []⟩)] ++ []⟩ _
    refine Aw.seq (Aw.seq (Aw.region ?_))
    refine AwOps.v hT rfl ?_
    refine AwOps.v hT rfl ?_
    refine AwOps.nil ?_
    refine Aw.tst rfl (fun hb10 => ?_) (fun hb10 => ?_)
    · skip
      have hk : 0 < k4 := by simpa using hb10
      refine Aw.skip (Aw.seq (Aw.block (Aw.seq (Aw.region ?_))))
      refine AwOps.lit hT rfl ?_
      refine AwOps.turn (Tn.fz 13 rfl rfl (by first | rfl | (simp; done)) rfl) ?_
      refine AwOps.turn (Less.say (t := 13) (B := .one (.p (.sl (List.map eI [_, _, _, _, _])))) rfl rfl) ?_
      refine AwOps.v hT rfl ?_
      refine AwOps.cl (F10 _ _ (by first | omega | (simp only [w64] at *; omega) | (simp [w64] at *; omega)) (by first | omega | (simp only [w64] at *; omega) | (simp [w64] at *; omega))) [1000] rfl ⟨⟨1000, rfl, rfl⟩, ⟨rfl, rfl⟩, trivial⟩ ⟨rfl, trivial⟩ rfl ?_   -- certpathmade.Deck).Next
      rintro _ _ ⟨v2, d2, rfl, rfl, hv2, hw2⟩
      refine AwOps.imI hT rfl (by first | omega | (simp only [w64] at *; omega) | (simp [w64] at *; omega)) (by first | omega | (simp only [List.length_cons, List.length_nil, List.length_map]; omega) | (simp only [List.length_cons, List.length_nil, List.length_map, w64] at *; omega) | (simp [w64] at *; omega)) rfl ?_
      refine AwOps.v hT rfl ?_
      refine AwOps.build hT rfl ?_
      refine AwOps.turn (Less.say (t := 18) (B := .agg [.sl (List.map eGn []), _, .v (.bool false), .sl (List.map eRdn [])]) rfl rfl) ?_
      refine AwOps.eff hT rfl ?_
      refine AwOps.eff hT rfl ?_
      refine AwOps.nil (Aw.seq (Aw.seq (Aw.region ?_)))
      refine AwOps.v hT rfl ?_
      refine AwOps.cl (F10 _ _ (by first | omega | (simp only [w64] at *; omega) | (simp [w64] at *; omega)) (by first | omega | (simp only [w64] at *; omega) | (simp [w64] at *; omega))) [1000] rfl ⟨⟨1000, rfl, rfl⟩, ⟨rfl, rfl⟩, trivial⟩ ⟨rfl, trivial⟩ rfl ?_   -- certpathmade.Deck).Next
      rintro _ _ ⟨v3, d3, rfl, rfl, hv3, hw3⟩
      refine AwOps.v hT rfl ?_
      refine AwOps.nil ?_
      refine Aw.tst rfl (fun hb21 => ?_) (fun hb21 => ?_)
      · skip
        refine Aw.region ?_
        refine AwOps.v hT rfl ?_
        refine AwOps.cl (F10 _ _ (by first | omega | (simp only [w64] at *; omega) | (simp [w64] at *; omega)) (by first | omega | (simp only [w64] at *; omega) | (simp [w64] at *; omega))) [1000] rfl ⟨⟨1000, rfl, rfl⟩, ⟨rfl, rfl⟩, trivial⟩ ⟨rfl, trivial⟩ rfl ?_   -- certpathmade.Deck).Next
        rintro _ _ ⟨v4, d4, rfl, rfl, hv4, hw4⟩
        refine AwOps.cl (F83 _ (by first | omega | (simp only [w64] at *; omega) | (simp [w64] at *; omega))) [] rfl ⟨⟨rfl, rfl⟩, trivial⟩ trivial rfl ?_   -- certpathmade2.place
        rintro _ _ ⟨g5, rfl, hg5⟩
        refine AwOps.lit hT rfl ?_
        refine AwOps.turn (Tn.fz 25 rfl rfl (by first | rfl | (simp; done)) rfl) ?_
        refine AwOps.turn (Less.say (t := 25) (B := .one (.p (.sl (List.map eGn [⟨_, _, _⟩])))) rfl rfl) ?_
        refine AwOps.v hT rfl ?_
        refine AwOps.eff hT rfl ?_
        refine AwOps.nil (Aw.seq (Aw.seq (Aw.region ?_)))
        iterate 5 refine AwOps.v hT rfl ?_
        refine AwOps.split (t := 31) rfl (fun hb31 => ?_) (fun hb31 => ?_)
        · skip
          iterate 4 refine AwOps.v hT rfl ?_
          refine AwOps.nil (Aw.condT rfl (Aw.region ?_))
          refine AwOps.v hT rfl ?_
          refine AwOps.cl (F10 _ _ (by first | omega | (simp only [w64] at *; omega) | (simp [w64] at *; omega)) (by first | omega | (simp only [w64] at *; omega) | (simp [w64] at *; omega))) [1000] rfl ⟨⟨1000, rfl, rfl⟩, ⟨rfl, rfl⟩, trivial⟩ ⟨rfl, trivial⟩ rfl ?_   -- certpathmade.Deck).Next
          rintro _ _ ⟨v6, d6, rfl, rfl, hv6, hw6⟩
          refine AwOps.cl (F33 _ (by first | omega | (simp only [w64] at *; omega) | (simp [w64] at *; omega))) [] rfl ⟨⟨rfl, rfl⟩, trivial⟩ trivial rfl ?_   -- certpathmade2.Named
          rintro _ _ ⟨v7, hv7, rfl⟩
          have hw7 := namedL_nn _ hv7
          refine AwOps.cl (F25 _ (by first | omega | (simp only [w64] at *; omega) | (simp [w64] at *; omega))) [] rfl ⟨⟨rfl, rfl⟩, trivial⟩ trivial rfl ?_   -- certpathmade.Authority
          rintro _ _ rfl
          refine AwOps.v hT rfl ?_
          refine AwOps.eff hT rfl ?_
          refine AwOps.v hT rfl ?_
          refine AwOps.eff hT rfl ?_
          refine AwOps.nil (Aw.region ?_)
          refine AwOps.v hT rfl ?_
          refine AwOps.v hT rfl ?_
          refine AwOps.lit hT rfl ?_
          refine AwOps.turn (Tn.fz 44 rfl rfl (by first | rfl | (simp; done)) rfl) ?_
          refine AwOps.turn (Less.say (t := 44) (B := .one (.p (.sl (List.map ePoint [⟨_, _, _, _⟩])))) rfl rfl) ?_
          refine AwOps.appm  hT rfl rfl rfl (by first | rfl | (simp; done)) (by first | rfl | (simp; done)) (fun _ => rfl) (by simp only [List.length_cons, List.length_nil]; omega) ?_
          refine AwOps.v hT rfl ?_
          refine AwOps.nil (Aw.region ?_)
          refine AwOps.v hT rfl ?_
          refine AwOps.v hT rfl ?_
          first | refine AwOps.nm 12 rfl (by omega) (by omega) ?_ | skip
          refine AwOps.v hT rfl ?_
          refine AwOps.nil ?_
          refine ⟨(_, _, _), ?nx1, ?mu1, Tn.trans (Less.tn (τ := ⟨47, [(3, _), (4, _), (0, _)], [(45, _), (1000, _)]⟩) ⟨rfl, ⟨rfl, rfl, rfl, trivial⟩, ⟨rfl, rfl, trivial⟩⟩) (Tn.trans (Tn.ren 45 903 rfl rfl rfl) (Less.tn ⟨rfl, ⟨rfl, rfl, rfl, trivial⟩, ⟨rfl, rfl, trivial⟩⟩))⟩
          case nx1 =>
            try dsimp only
            exact ⟨by first | omega | (simp only [w64] at *; omega) | (simp [w64] at *; omega), by simp only [List.length_append, List.length_cons, List.length_nil]; first | omega | (simp only [w64] at *; omega) | (simp [w64] at *; omega), by simp only [List.length_append, List.length_cons, List.length_nil]; first | omega | (simp only [w64] at *; omega) | (simp [w64] at *; omega), okPtsR_snoc hi1.2.2.2 (by omega) ⟨⟨by first | exact okGs_nil | exact okGs_one (by assumption), by first | exact okNm_nil | exact okNm_auth _⟩, rPts_ok _ (List.getElem_mem _)⟩⟩
          case mu1 =>
            try dsimp only
            first | omega | (simp only [w64] at *; omega) | (simp [w64] at *; omega)
        · skip
          refine AwOps.v hT rfl ?_
          refine AwOps.cl (F10 _ _ (by first | omega | (simp only [w64] at *; omega) | (simp [w64] at *; omega)) (by first | omega | (simp only [w64] at *; omega) | (simp [w64] at *; omega))) [1000] rfl ⟨⟨1000, rfl, rfl⟩, ⟨rfl, rfl⟩, trivial⟩ ⟨rfl, trivial⟩ rfl ?_   -- certpathmade.Deck).Next
          rintro _ _ ⟨v9, d9, rfl, rfl, hv9, hw9⟩
          refine AwOps.v hT rfl ?_
          refine AwOps.v hT rfl ?_
          refine AwOps.nil ?_
          refine Aw.tst rfl (fun hb35 => ?_) (fun hb35 => ?_)
          · skip
            refine Aw.region ?_
            refine AwOps.v hT rfl ?_
            refine AwOps.cl (F10 _ _ (by first | omega | (simp only [w64] at *; omega) | (simp [w64] at *; omega)) (by first | omega | (simp only [w64] at *; omega) | (simp [w64] at *; omega))) [1000] rfl ⟨⟨1000, rfl, rfl⟩, ⟨rfl, rfl⟩, trivial⟩ ⟨rfl, trivial⟩ rfl ?_   -- certpathmade.Deck).Next
            rintro _ _ ⟨v10, d10, rfl, rfl, hv10, hw10⟩
            refine AwOps.cl (F33 _ (by first | omega | (simp only [w64] at *; omega) | (simp [w64] at *; omega))) [] rfl ⟨⟨rfl, rfl⟩, trivial⟩ trivial rfl ?_   -- certpathmade2.Named
            rintro _ _ ⟨v11, hv11, rfl⟩
            have hw11 := namedL_nn _ hv11
            refine AwOps.cl (F25 _ (by first | omega | (simp only [w64] at *; omega) | (simp [w64] at *; omega))) [] rfl ⟨⟨rfl, rfl⟩, trivial⟩ trivial rfl ?_   -- certpathmade.Authority
            rintro _ _ rfl
            refine AwOps.v hT rfl ?_
            refine AwOps.eff hT rfl ?_
            refine AwOps.v hT rfl ?_
            refine AwOps.eff hT rfl ?_
            refine AwOps.nil (Aw.region ?_)
            refine AwOps.v hT rfl ?_
            refine AwOps.v hT rfl ?_
            refine AwOps.lit hT rfl ?_
            refine AwOps.turn (Tn.fz 44 rfl rfl (by first | rfl | (simp; done)) rfl) ?_
            refine AwOps.turn (Less.say (t := 44) (B := .one (.p (.sl (List.map ePoint [⟨_, _, _, _⟩])))) rfl rfl) ?_
            refine AwOps.appm  hT rfl rfl rfl (by first | rfl | (simp; done)) (by first | rfl | (simp; done)) (fun _ => rfl) (by simp only [List.length_cons, List.length_nil]; omega) ?_
            refine AwOps.v hT rfl ?_
            refine AwOps.nil (Aw.region ?_)
            refine AwOps.v hT rfl ?_
            refine AwOps.v hT rfl ?_
            first | refine AwOps.nm 12 rfl (by omega) (by omega) ?_ | skip
            refine AwOps.v hT rfl ?_
            refine AwOps.nil ?_
            refine ⟨(_, _, _), ?nx1, ?mu1, Tn.trans (Less.tn (τ := ⟨47, [(3, _), (4, _), (0, _)], [(45, _), (1000, _)]⟩) ⟨rfl, ⟨rfl, rfl, rfl, trivial⟩, ⟨rfl, rfl, trivial⟩⟩) (Tn.trans (Tn.ren 45 903 rfl rfl rfl) (Less.tn ⟨rfl, ⟨rfl, rfl, rfl, trivial⟩, ⟨rfl, rfl, trivial⟩⟩))⟩
            case nx1 =>
              try dsimp only
              exact ⟨by first | omega | (simp only [w64] at *; omega) | (simp [w64] at *; omega), by simp only [List.length_append, List.length_cons, List.length_nil]; first | omega | (simp only [w64] at *; omega) | (simp [w64] at *; omega), by simp only [List.length_append, List.length_cons, List.length_nil]; first | omega | (simp only [w64] at *; omega) | (simp [w64] at *; omega), okPtsR_snoc hi1.2.2.2 (by omega) ⟨⟨by first | exact okGs_nil | exact okGs_one (by assumption), by first | exact okNm_nil | exact okNm_auth _⟩, rPts_ok _ (List.getElem_mem _)⟩⟩
            case mu1 =>
              try dsimp only
              first | omega | (simp only [w64] at *; omega) | (simp [w64] at *; omega)
          · skip
            refine Aw.skip (Aw.region ?_)
            refine AwOps.v hT rfl ?_
            refine AwOps.v hT rfl ?_
            refine AwOps.lit hT rfl ?_
            refine AwOps.turn (Tn.fz 44 rfl rfl (by first | rfl | (simp; done)) rfl) ?_
            refine AwOps.turn (Less.say (t := 44) (B := .one (.p (.sl (List.map ePoint [⟨_, _, _, _⟩])))) rfl rfl) ?_
            refine AwOps.appm  hT rfl rfl rfl (by first | rfl | (simp; done)) (by first | rfl | (simp; done)) (fun _ => rfl) (by simp only [List.length_cons, List.length_nil]; omega) ?_
            refine AwOps.v hT rfl ?_
            refine AwOps.nil (Aw.region ?_)
            refine AwOps.v hT rfl ?_
            refine AwOps.v hT rfl ?_
            first | refine AwOps.nm 12 rfl (by omega) (by omega) ?_ | skip
            refine AwOps.v hT rfl ?_
            refine AwOps.nil ?_
            refine ⟨(_, _, _), ?nx1, ?mu1, Tn.trans (Less.tn (τ := ⟨47, [(3, _), (4, _), (0, _)], [(45, _), (1000, _)]⟩) ⟨rfl, ⟨rfl, rfl, rfl, trivial⟩, ⟨rfl, rfl, trivial⟩⟩) (Tn.trans (Tn.ren 45 903 rfl rfl rfl) (Less.tn ⟨rfl, ⟨rfl, rfl, rfl, trivial⟩, ⟨rfl, rfl, trivial⟩⟩))⟩
            case nx1 =>
              try dsimp only
              exact ⟨by first | omega | (simp only [w64] at *; omega) | (simp [w64] at *; omega), by simp only [List.length_append, List.length_cons, List.length_nil]; first | omega | (simp only [w64] at *; omega) | (simp [w64] at *; omega), by simp only [List.length_append, List.length_cons, List.length_nil]; first | omega | (simp only [w64] at *; omega) | (simp [w64] at *; omega), okPtsR_snoc hi1.2.2.2 (by omega) ⟨⟨by first | exact okGs_nil | exact okGs_one (by assumption), by first | exact okNm_nil | exact okNm_auth _⟩, rPts_ok _ (List.getElem_mem _)⟩⟩
            case mu1 =>
              try dsimp only
              first | omega | (simp only [w64] at *; omega) | (simp [w64] at *; omega)
      · skip
        refine Aw.skip (Aw.seq (Aw.seq (Aw.region ?_)))
        iterate 5 refine AwOps.v hT rfl ?_
        refine AwOps.split (t := 31) rfl (fun hb31 => ?_) (fun hb31 => ?_)
        · skip
          iterate 4 refine AwOps.v hT rfl ?_
          refine AwOps.nil (Aw.condT rfl (Aw.region ?_))
          refine AwOps.v hT rfl ?_
          refine AwOps.cl (F10 _ _ (by first | omega | (simp only [w64] at *; omega) | (simp [w64] at *; omega)) (by first | omega | (simp only [w64] at *; omega) | (simp [w64] at *; omega))) [1000] rfl ⟨⟨1000, rfl, rfl⟩, ⟨rfl, rfl⟩, trivial⟩ ⟨rfl, trivial⟩ rfl ?_   -- certpathmade.Deck).Next
          rintro _ _ ⟨v13, d13, rfl, rfl, hv13, hw13⟩
          refine AwOps.cl (F33 _ (by first | omega | (simp only [w64] at *; omega) | (simp [w64] at *; omega))) [] rfl ⟨⟨rfl, rfl⟩, trivial⟩ trivial rfl ?_   -- certpathmade2.Named
          rintro _ _ ⟨v14, hv14, rfl⟩
          have hw14 := namedL_nn _ hv14
          refine AwOps.cl (F25 _ (by first | omega | (simp only [w64] at *; omega) | (simp [w64] at *; omega))) [] rfl ⟨⟨rfl, rfl⟩, trivial⟩ trivial rfl ?_   -- certpathmade.Authority
          rintro _ _ rfl
          refine AwOps.v hT rfl ?_
          refine AwOps.eff hT rfl ?_
          refine AwOps.v hT rfl ?_
          refine AwOps.eff hT rfl ?_
          refine AwOps.nil (Aw.region ?_)
          refine AwOps.v hT rfl ?_
          refine AwOps.v hT rfl ?_
          refine AwOps.lit hT rfl ?_
          refine AwOps.turn (Tn.fz 44 rfl rfl (by first | rfl | (simp; done)) rfl) ?_
          refine AwOps.turn (Less.say (t := 44) (B := .one (.p (.sl (List.map ePoint [⟨_, _, _, _⟩])))) rfl rfl) ?_
          refine AwOps.appm  hT rfl rfl rfl (by first | rfl | (simp; done)) (by first | rfl | (simp; done)) (fun _ => rfl) (by simp only [List.length_cons, List.length_nil]; omega) ?_
          refine AwOps.v hT rfl ?_
          refine AwOps.nil (Aw.region ?_)
          refine AwOps.v hT rfl ?_
          refine AwOps.v hT rfl ?_
          first | refine AwOps.nm 12 rfl (by omega) (by omega) ?_ | skip
          refine AwOps.v hT rfl ?_
          refine AwOps.nil ?_
          refine ⟨(_, _, _), ?nx1, ?mu1, Tn.trans (Less.tn (τ := ⟨47, [(3, _), (4, _), (0, _)], [(45, _), (1000, _)]⟩) ⟨rfl, ⟨rfl, rfl, rfl, trivial⟩, ⟨rfl, rfl, trivial⟩⟩) (Tn.trans (Tn.ren 45 903 rfl rfl rfl) (Less.tn ⟨rfl, ⟨rfl, rfl, rfl, trivial⟩, ⟨rfl, rfl, trivial⟩⟩))⟩
          case nx1 =>
            try dsimp only
            exact ⟨by first | omega | (simp only [w64] at *; omega) | (simp [w64] at *; omega), by simp only [List.length_append, List.length_cons, List.length_nil]; first | omega | (simp only [w64] at *; omega) | (simp [w64] at *; omega), by simp only [List.length_append, List.length_cons, List.length_nil]; first | omega | (simp only [w64] at *; omega) | (simp [w64] at *; omega), okPtsR_snoc hi1.2.2.2 (by omega) ⟨⟨by first | exact okGs_nil | exact okGs_one (by assumption), by first | exact okNm_nil | exact okNm_auth _⟩, rPts_ok _ (List.getElem_mem _)⟩⟩
          case mu1 =>
            try dsimp only
            first | omega | (simp only [w64] at *; omega) | (simp [w64] at *; omega)
        · skip
          refine AwOps.v hT rfl ?_
          refine AwOps.cl (F10 _ _ (by first | omega | (simp only [w64] at *; omega) | (simp [w64] at *; omega)) (by first | omega | (simp only [w64] at *; omega) | (simp [w64] at *; omega))) [1000] rfl ⟨⟨1000, rfl, rfl⟩, ⟨rfl, rfl⟩, trivial⟩ ⟨rfl, trivial⟩ rfl ?_   -- certpathmade.Deck).Next
          rintro _ _ ⟨v16, d16, rfl, rfl, hv16, hw16⟩
          refine AwOps.v hT rfl ?_
          refine AwOps.v hT rfl ?_
          refine AwOps.nil ?_
          refine Aw.tst rfl (fun hb35 => ?_) (fun hb35 => ?_)
          · skip
            refine Aw.region ?_
            refine AwOps.v hT rfl ?_
            refine AwOps.cl (F10 _ _ (by first | omega | (simp only [w64] at *; omega) | (simp [w64] at *; omega)) (by first | omega | (simp only [w64] at *; omega) | (simp [w64] at *; omega))) [1000] rfl ⟨⟨1000, rfl, rfl⟩, ⟨rfl, rfl⟩, trivial⟩ ⟨rfl, trivial⟩ rfl ?_   -- certpathmade.Deck).Next
            rintro _ _ ⟨v17, d17, rfl, rfl, hv17, hw17⟩
            refine AwOps.cl (F33 _ (by first | omega | (simp only [w64] at *; omega) | (simp [w64] at *; omega))) [] rfl ⟨⟨rfl, rfl⟩, trivial⟩ trivial rfl ?_   -- certpathmade2.Named
            rintro _ _ ⟨v18, hv18, rfl⟩
            have hw18 := namedL_nn _ hv18
            refine AwOps.cl (F25 _ (by first | omega | (simp only [w64] at *; omega) | (simp [w64] at *; omega))) [] rfl ⟨⟨rfl, rfl⟩, trivial⟩ trivial rfl ?_   -- certpathmade.Authority
            rintro _ _ rfl
            refine AwOps.v hT rfl ?_
            refine AwOps.eff hT rfl ?_
            refine AwOps.v hT rfl ?_
            refine AwOps.eff hT rfl ?_
            refine AwOps.nil (Aw.region ?_)
            refine AwOps.v hT rfl ?_
            refine AwOps.v hT rfl ?_
            refine AwOps.lit hT rfl ?_
            refine AwOps.turn (Tn.fz 44 rfl rfl (by first | rfl | (simp; done)) rfl) ?_
            refine AwOps.turn (Less.say (t := 44) (B := .one (.p (.sl (List.map ePoint [⟨_, _, _, _⟩])))) rfl rfl) ?_
            refine AwOps.appm  hT rfl rfl rfl (by first | rfl | (simp; done)) (by first | rfl | (simp; done)) (fun _ => rfl) (by simp only [List.length_cons, List.length_nil]; omega) ?_
            refine AwOps.v hT rfl ?_
            refine AwOps.nil (Aw.region ?_)
            refine AwOps.v hT rfl ?_
            refine AwOps.v hT rfl ?_
            first | refine AwOps.nm 12 rfl (by omega) (by omega) ?_ | skip
            refine AwOps.v hT rfl ?_
            refine AwOps.nil ?_
            refine ⟨(_, _, _), ?nx1, ?mu1, Tn.trans (Less.tn (τ := ⟨47, [(3, _), (4, _), (0, _)], [(45, _), (1000, _)]⟩) ⟨rfl, ⟨rfl, rfl, rfl, trivial⟩, ⟨rfl, rfl, trivial⟩⟩) (Tn.trans (Tn.ren 45 903 rfl rfl rfl) (Less.tn ⟨rfl, ⟨rfl, rfl, rfl, trivial⟩, ⟨rfl, rfl, trivial⟩⟩))⟩
            case nx1 =>
              try dsimp only
              exact ⟨by first | omega | (simp only [w64] at *; omega) | (simp [w64] at *; omega), by simp only [List.length_append, List.length_cons, List.length_nil]; first | omega | (simp only [w64] at *; omega) | (simp [w64] at *; omega), by simp only [List.length_append, List.length_cons, List.length_nil]; first | omega | (simp only [w64] at *; omega) | (simp [w64] at *; omega), okPtsR_snoc hi1.2.2.2 (by omega) ⟨⟨by first | exact okGs_nil | exact okGs_one (by assumption), by first | exact okNm_nil | exact okNm_auth _⟩, rPts_ok _ (List.getElem_mem _)⟩⟩
            case mu1 =>
              try dsimp only
              first | omega | (simp only [w64] at *; omega) | (simp [w64] at *; omega)
          · skip
            refine Aw.skip (Aw.region ?_)
            refine AwOps.v hT rfl ?_
            refine AwOps.v hT rfl ?_
            refine AwOps.lit hT rfl ?_
            refine AwOps.turn (Tn.fz 44 rfl rfl (by first | rfl | (simp; done)) rfl) ?_
            refine AwOps.turn (Less.say (t := 44) (B := .one (.p (.sl (List.map ePoint [⟨_, _, _, _⟩])))) rfl rfl) ?_
            refine AwOps.appm  hT rfl rfl rfl (by first | rfl | (simp; done)) (by first | rfl | (simp; done)) (fun _ => rfl) (by simp only [List.length_cons, List.length_nil]; omega) ?_
            refine AwOps.v hT rfl ?_
            refine AwOps.nil (Aw.region ?_)
            refine AwOps.v hT rfl ?_
            refine AwOps.v hT rfl ?_
            first | refine AwOps.nm 12 rfl (by omega) (by omega) ?_ | skip
            refine AwOps.v hT rfl ?_
            refine AwOps.nil ?_
            refine ⟨(_, _, _), ?nx1, ?mu1, Tn.trans (Less.tn (τ := ⟨47, [(3, _), (4, _), (0, _)], [(45, _), (1000, _)]⟩) ⟨rfl, ⟨rfl, rfl, rfl, trivial⟩, ⟨rfl, rfl, trivial⟩⟩) (Tn.trans (Tn.ren 45 903 rfl rfl rfl) (Less.tn ⟨rfl, ⟨rfl, rfl, rfl, trivial⟩, ⟨rfl, rfl, trivial⟩⟩))⟩
            case nx1 =>
              try dsimp only
              exact ⟨by first | omega | (simp only [w64] at *; omega) | (simp [w64] at *; omega), by simp only [List.length_append, List.length_cons, List.length_nil]; first | omega | (simp only [w64] at *; omega) | (simp [w64] at *; omega), by simp only [List.length_append, List.length_cons, List.length_nil]; first | omega | (simp only [w64] at *; omega) | (simp [w64] at *; omega), okPtsR_snoc hi1.2.2.2 (by omega) ⟨⟨by first | exact okGs_nil | exact okGs_one (by assumption), by first | exact okNm_nil | exact okNm_auth _⟩, rPts_ok _ (List.getElem_mem _)⟩⟩
            case mu1 =>
              try dsimp only
              first | omega | (simp only [w64] at *; omega) | (simp [w64] at *; omega)
    · skip
      have hk : k4 ≤ 0 := by simpa using hb10
      refine Aw.exit (Aw.seq (Aw.region ?_))
      refine AwOps.v hT rfl ?_
      refine AwOps.v hT rfl ?_
      refine AwOps.nil ?_
      refine Aw.turn (Tn.fz 2 rfl rfl (by first | rfl | (simp; done)) rfl) ?_
      refine Aw.ret ?_
      refine ⟨_, [_], rfl, ⟨rfl, trivial⟩, ?_⟩
      exact ⟨_, _, rfl, rfl, hi1.2.2.2, by omega, by omega⟩
-- f165 certpath/certpathlaw27.list
theorem F165 (d : Dk) : Fn Tryd.prog 20 [.ptr 0 0] [(68, eDk d)] (fun r H' => ∃ (l : CList) (d' : Dk), r = .agg (eCL l) ∧ H' = [eDk d'] ∧ okCL l ∧ goodR l.scope.reasons) := by
  refine Fn.intro (rs := [.cell 2 43]) hT Tryd.func20 (by kernel_rfl) rfl rfl rfl rfl fun C => ?_
  refine Aw.seq (Aw.region ?_)
  refine AwOps.eff hT rfl ?_
  refine AwOps.nil (Aw.seq (Aw.region ?_))
  refine AwOps.lit hT rfl ?_
  refine AwOps.turn (Tn.fz 6 rfl rfl (by first | rfl | (simp; done)) rfl) ?_
  refine AwOps.turn (Less.say (t := 6) (B := .one (.p (.sl (List.map eI [_, _, _, _])))) rfl rfl) ?_
  refine AwOps.v hT rfl ?_
  refine AwOps.cl (F10 _ _ (by first | omega | (simp only [w64] at *; omega) | (simp [w64] at *; omega)) (by first | omega | (simp only [w64] at *; omega) | (simp [w64] at *; omega))) [1000] rfl ⟨⟨1000, rfl, rfl⟩, ⟨rfl, rfl⟩, trivial⟩ ⟨rfl, trivial⟩ rfl ?_   -- certpathmade.Deck).Next
  rintro _ _ ⟨v1, d1, rfl, rfl, hv1, hw1⟩
  refine AwOps.imI hT rfl (by first | omega | (simp only [w64] at *; omega) | (simp [w64] at *; omega)) (by first | omega | (simp only [List.length_cons, List.length_nil, List.length_map]; omega) | (simp only [List.length_cons, List.length_nil, List.length_map, w64] at *; omega) | (simp [w64] at *; omega)) rfl ?_
  refine AwOps.v hT rfl ?_
  refine AwOps.cl (F25 _ (lL_nn _ (List.getElem_mem _))) [] rfl ⟨⟨rfl, rfl⟩, trivial⟩ trivial rfl ?_   -- certpathmade.Authority
  rintro _ _ rfl
  refine AwOps.v hT rfl ?_
  refine AwOps.cl (F10 _ _ (by first | omega | (simp only [w64] at *; omega) | (simp [w64] at *; omega)) (by first | omega | (simp only [w64] at *; omega) | (simp [w64] at *; omega))) [1000] rfl ⟨⟨1000, rfl, rfl⟩, ⟨rfl, rfl⟩, trivial⟩ ⟨rfl, trivial⟩ rfl ?_   -- certpathmade.Deck).Next
  rintro _ _ ⟨v3, d3, rfl, rfl, hv3, hw3⟩
  refine AwOps.lit hT rfl ?_
  refine AwOps.turn (Tn.fz 14 rfl rfl (by first | rfl | (simp; done)) rfl) ?_
  refine AwOps.turn (Less.say (t := 14) (B := .one (.p (.sl (List.map eStr [_, _, _])))) rfl rfl) ?_
  refine AwOps.v hT rfl ?_
  refine AwOps.cl (F10 _ _ (by first | omega | (simp only [w64] at *; omega) | (simp [w64] at *; omega)) (by first | omega | (simp only [w64] at *; omega) | (simp [w64] at *; omega))) [1000] rfl ⟨⟨1000, rfl, rfl⟩, ⟨rfl, rfl⟩, trivial⟩ ⟨rfl, trivial⟩ rfl ?_   -- certpathmade.Deck).Next
  rintro _ _ ⟨v4, d4, rfl, rfl, hv4, hw4⟩
  refine AwOps.imI hT rfl (by first | omega | (simp only [w64] at *; omega) | (simp [w64] at *; omega)) (by first | omega | (simp only [List.length_cons, List.length_nil, List.length_map]; omega) | (simp only [List.length_cons, List.length_nil, List.length_map, w64] at *; omega) | (simp [w64] at *; omega)) rfl ?_
  refine AwOps.v hT rfl ?_
  refine AwOps.build hT rfl ?_
  refine AwOps.turn (Less.say (t := 19) (B := .agg [.v (.string ⟨#[]⟩), .v (.string ⟨#[]⟩), _, .v (.int .i64 0), .v (.int .i64 0), _, _, _, .v (.bool false), .sl (List.map eGn []), .v (.bool false), .v (.bool false), .v (.int .i64 0), .v (.bool false), .sl (List.map ePoint []), .sl (List.map eEnt []), .v (.string ⟨#[]⟩)]) rfl rfl) ?_
  refine AwOps.eff hT rfl ?_
  refine AwOps.eff hT rfl ?_
  refine AwOps.nil (Aw.seq (Aw.seq (Aw.region ?_)))
  refine AwOps.v hT rfl ?_
  refine AwOps.cl (F10 _ _ (by first | omega | (simp only [w64] at *; omega) | (simp [w64] at *; omega)) (by first | omega | (simp only [w64] at *; omega) | (simp [w64] at *; omega))) [1000] rfl ⟨⟨1000, rfl, rfl⟩, ⟨rfl, rfl⟩, trivial⟩ ⟨rfl, trivial⟩ rfl ?_   -- certpathmade.Deck).Next
  rintro _ _ ⟨v5, d5, rfl, rfl, hv5, hw5⟩
  refine AwOps.v hT rfl ?_
  refine AwOps.nil ?_
  refine Aw.tst rfl (fun hb22 => ?_) (fun hb22 => ?_)
  · skip
    refine Aw.region ?_
    refine AwOps.v hT rfl ?_
    refine AwOps.cl (F10 _ _ (by first | omega | (simp only [w64] at *; omega) | (simp [w64] at *; omega)) (by first | omega | (simp only [w64] at *; omega) | (simp [w64] at *; omega))) [1000] rfl ⟨⟨1000, rfl, rfl⟩, ⟨rfl, rfl⟩, trivial⟩ ⟨rfl, trivial⟩ rfl ?_   -- certpathmade.Deck).Next
    rintro _ _ ⟨v6, d6, rfl, rfl, hv6, hw6⟩
    refine AwOps.v hT rfl ?_
    refine AwOps.eff hT rfl ?_
    refine AwOps.nil (Aw.seq (Aw.seq (Aw.region ?_)))
    refine AwOps.v hT rfl ?_
    refine AwOps.cl (F10 _ _ (by first | omega | (simp only [w64] at *; omega) | (simp [w64] at *; omega)) (by first | omega | (simp only [w64] at *; omega) | (simp [w64] at *; omega))) [1000] rfl ⟨⟨1000, rfl, rfl⟩, ⟨rfl, rfl⟩, trivial⟩ ⟨rfl, trivial⟩ rfl ?_   -- certpathmade.Deck).Next
    rintro _ _ ⟨v7, d7, rfl, rfl, hv7, hw7⟩
    refine AwOps.v hT rfl ?_
    refine AwOps.nil ?_
    refine Aw.tst rfl (fun hb28 => ?_) (fun hb28 => ?_)
    · skip
      refine Aw.seq (Aw.region ?_)
      refine AwOps.v hT rfl ?_
      refine AwOps.eff hT rfl ?_
      refine AwOps.nil (Aw.seq (Aw.region ?_))
      refine AwOps.v hT rfl ?_
      refine AwOps.v hT rfl ?_
      refine AwOps.nil (Aw.seq (Aw.region ?_))
      iterate 4 refine AwOps.v hT rfl ?_
      refine AwOps.cl (F10 _ _ (by first | omega | (simp only [w64] at *; omega) | (simp [w64] at *; omega)) (by first | omega | (simp only [w64] at *; omega) | (simp [w64] at *; omega))) [1000] rfl ⟨⟨1000, rfl, rfl⟩, ⟨rfl, rfl⟩, trivial⟩ ⟨rfl, trivial⟩ rfl ?_   -- certpathmade.Deck).Next
      rintro _ _ ⟨v8, d8, rfl, rfl, hv8, hw8⟩
      refine AwOps.v hT rfl ?_
      refine AwOps.v hT rfl ?_
      refine AwOps.cl (F10 _ _ (by first | omega | (simp only [w64] at *; omega) | (simp [w64] at *; omega)) (by first | omega | (simp only [w64] at *; omega) | (simp [w64] at *; omega))) [1000] rfl ⟨⟨1000, rfl, rfl⟩, ⟨rfl, rfl⟩, trivial⟩ ⟨rfl, trivial⟩ rfl ?_   -- certpathmade.Deck).Next
      rintro _ _ ⟨v9, d9, rfl, rfl, hv9, hw9⟩
      refine AwOps.v hT rfl ?_
      refine AwOps.v hT rfl ?_
      refine AwOps.cl (F10 _ _ (by first | omega | (simp only [w64] at *; omega) | (simp [w64] at *; omega)) (by first | omega | (simp only [w64] at *; omega) | (simp [w64] at *; omega))) [1000] rfl ⟨⟨1000, rfl, rfl⟩, ⟨rfl, rfl⟩, trivial⟩ ⟨rfl, trivial⟩ rfl ?_   -- certpathmade.Deck).Next
      rintro _ _ ⟨v10, d10, rfl, rfl, hv10, hw10⟩
      iterate 3 refine AwOps.v hT rfl ?_
      refine AwOps.eff hT rfl ?_
      refine AwOps.v hT rfl ?_
      refine AwOps.v hT rfl ?_
      refine AwOps.eff hT rfl ?_
      refine AwOps.v hT rfl ?_
      refine AwOps.v hT rfl ?_
      refine AwOps.eff hT rfl ?_
      refine AwOps.nil (Aw.seq (Aw.region ?_))
      refine AwOps.v hT rfl ?_
      refine AwOps.lit hT rfl ?_
      refine AwOps.turn (Tn.fz 50 rfl rfl (by first | rfl | (simp; done)) rfl) ?_
      refine AwOps.turn (Less.say (t := 50) (B := .one (.p (.sl (List.map eI [_, _, _, _, _, _])))) rfl rfl) ?_
      refine AwOps.v hT rfl ?_
      refine AwOps.cl (F10 _ _ (by first | omega | (simp only [w64] at *; omega) | (simp [w64] at *; omega)) (by first | omega | (simp only [w64] at *; omega) | (simp [w64] at *; omega))) [1000] rfl ⟨⟨1000, rfl, rfl⟩, ⟨rfl, rfl⟩, trivial⟩ ⟨rfl, trivial⟩ rfl ?_   -- certpathmade.Deck).Next
      rintro _ _ ⟨v11, d11, rfl, rfl, hv11, hw11⟩
      refine AwOps.imI hT rfl (by first | omega | (simp only [w64] at *; omega) | (simp [w64] at *; omega)) (by first | omega | (simp only [List.length_cons, List.length_nil, List.length_map]; omega) | (simp only [List.length_cons, List.length_nil, List.length_map, w64] at *; omega) | (simp [w64] at *; omega)) rfl ?_
      iterate 3 refine AwOps.v hT rfl ?_
      refine AwOps.eff hT rfl ?_
      refine AwOps.nil (Aw.seq (Aw.region ?_))
      refine AwOps.v hT rfl ?_
      refine AwOps.cl (F71m _) [1000] rfl ⟨⟨1000, rfl, rfl⟩, trivial⟩ ⟨rfl, trivial⟩ rfl ?_   -- certpathmade2.Points
      rintro _ _ ⟨l12, d12, rfl, rfl, hl12⟩
      have hp12 := hl12.1
      refine AwOps.v hT rfl ?_
      refine AwOps.nil (Aw.seq (Aw.seq (Aw.region ?_)))
      refine AwOps.v hT rfl ?_
      refine AwOps.cl (F10 _ _ (by first | omega | (simp only [w64] at *; omega) | (simp [w64] at *; omega)) (by first | omega | (simp only [w64] at *; omega) | (simp [w64] at *; omega))) [1000] rfl ⟨⟨1000, rfl, rfl⟩, ⟨rfl, rfl⟩, trivial⟩ ⟨rfl, trivial⟩ rfl ?_   -- certpathmade.Deck).Next
      rintro _ _ ⟨v13, d13, rfl, rfl, hv13, hw13⟩
      refine AwOps.v hT rfl ?_
      refine AwOps.nil ?_
      refine Aw.tst rfl (fun hb61 => ?_) (fun hb61 => ?_)
      · skip
        refine Aw.region ?_
        refine AwOps.v hT rfl ?_
        refine AwOps.v hT rfl ?_
        refine AwOps.imI hT rfl (by first | omega | (simp only [w64] at *; omega) | (simp [w64] at *; omega)) (by first | omega | (simp only [List.length_cons, List.length_nil, List.length_map]; omega) | (simp only [List.length_cons, List.length_nil, List.length_map, w64] at *; omega) | (simp [w64] at *; omega)) rfl ?_
        iterate 4 refine AwOps.v hT rfl ?_
        refine AwOps.eff hT rfl ?_
        refine AwOps.nil (Aw.seq (Aw.region ?_))
        refine AwOps.v hT rfl ?_
        refine AwOps.cl (F10 _ _ (by first | omega | (simp only [w64] at *; omega) | (simp [w64] at *; omega)) (by first | omega | (simp only [w64] at *; omega) | (simp [w64] at *; omega))) [1000] rfl ⟨⟨1000, rfl, rfl⟩, ⟨rfl, rfl⟩, trivial⟩ ⟨rfl, trivial⟩ rfl ?_   -- certpathmade.Deck).Next
        rintro _ _ ⟨v14, d14, rfl, rfl, hv14, hw14⟩
        refine AwOps.v hT rfl ?_
        refine AwOps.nil ?_
        refine Aw.tst rfl (fun hb71 => ?_) (fun hb71 => ?_)
        · skip
          refine Aw.region ?_
          refine AwOps.v hT rfl ?_
          refine AwOps.v hT rfl ?_
          refine AwOps.cl (F10 _ _ (by first | omega | (simp only [w64] at *; omega) | (simp [w64] at *; omega)) (by first | omega | (simp only [w64] at *; omega) | (simp [w64] at *; omega))) [1000] rfl ⟨⟨1000, rfl, rfl⟩, ⟨rfl, rfl⟩, trivial⟩ ⟨rfl, trivial⟩ rfl ?_   -- certpathmade.Deck).Next
          rintro _ _ ⟨v15, d15, rfl, rfl, hv15, hw15⟩
          refine AwOps.cl (F33 _ (by first | omega | (simp only [w64] at *; omega) | (simp [w64] at *; omega))) [] rfl ⟨⟨rfl, rfl⟩, trivial⟩ trivial rfl ?_   -- certpathmade2.Named
          rintro _ _ ⟨v16, hv16, rfl⟩
          have hw16 := namedL_nn _ hv16
          refine AwOps.cl (F25 _ (by first | omega | (simp only [w64] at *; omega) | (simp [w64] at *; omega))) [] rfl ⟨⟨rfl, rfl⟩, trivial⟩ trivial rfl ?_   -- certpathmade.Authority
          rintro _ _ rfl
          refine AwOps.build hT rfl ?_
          refine AwOps.turn (Less.say (t := 77) (B := .agg [_, .v (.string ⟨#[]⟩), _]) rfl rfl) ?_
          refine AwOps.lit hT rfl ?_
          refine AwOps.turn (Tn.fz 78 rfl rfl (by first | rfl | (simp; done)) rfl) ?_
          refine AwOps.turn (Less.say (t := 78) (B := .one (.p (.sl (List.map eGn [⟨_, _, _⟩])))) rfl rfl) ?_
          refine AwOps.v hT rfl ?_
          refine AwOps.v hT rfl ?_
          refine AwOps.eff hT rfl ?_
          refine AwOps.nil (Aw.seq (Aw.region ?_))
          refine AwOps.v hT rfl ?_
          refine AwOps.eff hT rfl ?_
          refine AwOps.nil ?_
          refine Aw.ret ?_
          refine ⟨_, [_], rfl, ⟨rfl, trivial⟩, ?_⟩
          refine ⟨⟨_, _, _, _, _, _, _, _, _, ⟨_, _, _, _, _⟩, _, _, _⟩, _, rfl, rfl, ⟨okNm_auth _, ?_⟩, ?_⟩
          · first | exact okGs_nil | exact okGs_one ⟨by show (0 : Nat) ≤ _; exact Nat.zero_le _, okNm_auth _⟩ | exact ((by assumption : okPtsR _).2 _ (List.getElem_mem _)).1.1
          · first | exact rScp_ok _ (List.getElem_mem _) | exact (by decide : goodR 0)
        · skip
          refine Aw.skip (Aw.seq (Aw.region ?_))
          refine AwOps.v hT rfl ?_
          refine AwOps.eff hT rfl ?_
          refine AwOps.nil ?_
          refine Aw.ret ?_
          refine ⟨_, [_], rfl, ⟨rfl, trivial⟩, ?_⟩
          refine ⟨⟨_, _, _, _, _, _, _, _, _, ⟨_, _, _, _, _⟩, _, _, _⟩, _, rfl, rfl, ⟨okNm_auth _, ?_⟩, ?_⟩
          · first | exact okGs_nil | exact okGs_one ⟨by show (0 : Nat) ≤ _; exact Nat.zero_le _, okNm_auth _⟩ | exact ((by assumption : okPtsR _).2 _ (List.getElem_mem _)).1.1
          · first | exact rScp_ok _ (List.getElem_mem _) | exact (by decide : goodR 0)
      · skip
        refine Aw.skip (Aw.seq (Aw.region ?_))
        refine AwOps.v hT rfl ?_
        refine AwOps.cl (F10 _ _ (by first | omega | (simp only [w64] at *; omega) | (simp [w64] at *; omega)) (by first | omega | (simp only [w64] at *; omega) | (simp [w64] at *; omega))) [1000] rfl ⟨⟨1000, rfl, rfl⟩, ⟨rfl, rfl⟩, trivial⟩ ⟨rfl, trivial⟩ rfl ?_   -- certpathmade.Deck).Next
        rintro _ _ ⟨v18, d18, rfl, rfl, hv18, hw18⟩
        refine AwOps.v hT rfl ?_
        refine AwOps.nil ?_
        refine Aw.tst rfl (fun hb71 => ?_) (fun hb71 => ?_)
        · skip
          refine Aw.region ?_
          refine AwOps.v hT rfl ?_
          refine AwOps.v hT rfl ?_
          refine AwOps.cl (F10 _ _ (by first | omega | (simp only [w64] at *; omega) | (simp [w64] at *; omega)) (by first | omega | (simp only [w64] at *; omega) | (simp [w64] at *; omega))) [1000] rfl ⟨⟨1000, rfl, rfl⟩, ⟨rfl, rfl⟩, trivial⟩ ⟨rfl, trivial⟩ rfl ?_   -- certpathmade.Deck).Next
          rintro _ _ ⟨v19, d19, rfl, rfl, hv19, hw19⟩
          refine AwOps.cl (F33 _ (by first | omega | (simp only [w64] at *; omega) | (simp [w64] at *; omega))) [] rfl ⟨⟨rfl, rfl⟩, trivial⟩ trivial rfl ?_   -- certpathmade2.Named
          rintro _ _ ⟨v20, hv20, rfl⟩
          have hw20 := namedL_nn _ hv20
          refine AwOps.cl (F25 _ (by first | omega | (simp only [w64] at *; omega) | (simp [w64] at *; omega))) [] rfl ⟨⟨rfl, rfl⟩, trivial⟩ trivial rfl ?_   -- certpathmade.Authority
          rintro _ _ rfl
          refine AwOps.build hT rfl ?_
          refine AwOps.turn (Less.say (t := 77) (B := .agg [_, .v (.string ⟨#[]⟩), _]) rfl rfl) ?_
          refine AwOps.lit hT rfl ?_
          refine AwOps.turn (Tn.fz 78 rfl rfl (by first | rfl | (simp; done)) rfl) ?_
          refine AwOps.turn (Less.say (t := 78) (B := .one (.p (.sl (List.map eGn [⟨_, _, _⟩])))) rfl rfl) ?_
          refine AwOps.v hT rfl ?_
          refine AwOps.v hT rfl ?_
          refine AwOps.eff hT rfl ?_
          refine AwOps.nil (Aw.seq (Aw.region ?_))
          refine AwOps.v hT rfl ?_
          refine AwOps.eff hT rfl ?_
          refine AwOps.nil ?_
          refine Aw.ret ?_
          refine ⟨_, [_], rfl, ⟨rfl, trivial⟩, ?_⟩
          refine ⟨⟨_, _, _, _, _, _, _, _, _, ⟨_, _, _, _, _⟩, _, _, _⟩, _, rfl, rfl, ⟨okNm_auth _, ?_⟩, ?_⟩
          · first | exact okGs_nil | exact okGs_one ⟨by show (0 : Nat) ≤ _; exact Nat.zero_le _, okNm_auth _⟩ | exact ((by assumption : okPtsR _).2 _ (List.getElem_mem _)).1.1
          · first | exact rScp_ok _ (List.getElem_mem _) | exact (by decide : goodR 0)
        · skip
          refine Aw.skip (Aw.seq (Aw.region ?_))
          refine AwOps.v hT rfl ?_
          refine AwOps.eff hT rfl ?_
          refine AwOps.nil ?_
          refine Aw.ret ?_
          refine ⟨_, [_], rfl, ⟨rfl, trivial⟩, ?_⟩
          refine ⟨⟨_, _, _, _, _, _, _, _, _, ⟨_, _, _, _, _⟩, _, _, _⟩, _, rfl, rfl, ⟨okNm_auth _, ?_⟩, ?_⟩
          · first | exact okGs_nil | exact okGs_one ⟨by show (0 : Nat) ≤ _; exact Nat.zero_le _, okNm_auth _⟩ | exact ((by assumption : okPtsR _).2 _ (List.getElem_mem _)).1.1
          · first | exact rScp_ok _ (List.getElem_mem _) | exact (by decide : goodR 0)
    · skip
      refine Aw.skip (Aw.seq (Aw.region ?_))
      refine AwOps.v hT rfl ?_
      refine AwOps.eff hT rfl ?_
      refine AwOps.nil ?_
      refine Aw.ret ?_
      refine ⟨_, [_], rfl, ⟨rfl, trivial⟩, ?_⟩
      refine ⟨⟨_, _, _, _, _, _, _, _, _, ⟨_, _, _, _, _⟩, _, _, _⟩, _, rfl, rfl, ⟨okNm_auth _, ?_⟩, ?_⟩
      · first | exact okGs_nil | exact okGs_one ⟨by show (0 : Nat) ≤ _; exact Nat.zero_le _, okNm_auth _⟩ | exact ((by assumption : okPtsR _).2 _ (List.getElem_mem _)).1.1
      · first | exact rScp_ok _ (List.getElem_mem _) | exact (by decide : goodR 0)
  · skip
    refine Aw.skip (Aw.seq (Aw.seq (Aw.region ?_)))
    refine AwOps.v hT rfl ?_
    refine AwOps.cl (F10 _ _ (by first | omega | (simp only [w64] at *; omega) | (simp [w64] at *; omega)) (by first | omega | (simp only [w64] at *; omega) | (simp [w64] at *; omega))) [1000] rfl ⟨⟨1000, rfl, rfl⟩, ⟨rfl, rfl⟩, trivial⟩ ⟨rfl, trivial⟩ rfl ?_   -- certpathmade.Deck).Next
    rintro _ _ ⟨v22, d22, rfl, rfl, hv22, hw22⟩
    refine AwOps.v hT rfl ?_
    refine AwOps.nil ?_
    refine Aw.tst rfl (fun hb28 => ?_) (fun hb28 => ?_)
    · skip
      refine Aw.seq (Aw.region ?_)
      refine AwOps.v hT rfl ?_
      refine AwOps.eff hT rfl ?_
      refine AwOps.nil (Aw.seq (Aw.region ?_))
      refine AwOps.v hT rfl ?_
      refine AwOps.v hT rfl ?_
      refine AwOps.nil (Aw.seq (Aw.region ?_))
      iterate 4 refine AwOps.v hT rfl ?_
      refine AwOps.cl (F10 _ _ (by first | omega | (simp only [w64] at *; omega) | (simp [w64] at *; omega)) (by first | omega | (simp only [w64] at *; omega) | (simp [w64] at *; omega))) [1000] rfl ⟨⟨1000, rfl, rfl⟩, ⟨rfl, rfl⟩, trivial⟩ ⟨rfl, trivial⟩ rfl ?_   -- certpathmade.Deck).Next
      rintro _ _ ⟨v23, d23, rfl, rfl, hv23, hw23⟩
      refine AwOps.v hT rfl ?_
      refine AwOps.v hT rfl ?_
      refine AwOps.cl (F10 _ _ (by first | omega | (simp only [w64] at *; omega) | (simp [w64] at *; omega)) (by first | omega | (simp only [w64] at *; omega) | (simp [w64] at *; omega))) [1000] rfl ⟨⟨1000, rfl, rfl⟩, ⟨rfl, rfl⟩, trivial⟩ ⟨rfl, trivial⟩ rfl ?_   -- certpathmade.Deck).Next
      rintro _ _ ⟨v24, d24, rfl, rfl, hv24, hw24⟩
      refine AwOps.v hT rfl ?_
      refine AwOps.v hT rfl ?_
      refine AwOps.cl (F10 _ _ (by first | omega | (simp only [w64] at *; omega) | (simp [w64] at *; omega)) (by first | omega | (simp only [w64] at *; omega) | (simp [w64] at *; omega))) [1000] rfl ⟨⟨1000, rfl, rfl⟩, ⟨rfl, rfl⟩, trivial⟩ ⟨rfl, trivial⟩ rfl ?_   -- certpathmade.Deck).Next
      rintro _ _ ⟨v25, d25, rfl, rfl, hv25, hw25⟩
      iterate 3 refine AwOps.v hT rfl ?_
      refine AwOps.eff hT rfl ?_
      refine AwOps.v hT rfl ?_
      refine AwOps.v hT rfl ?_
      refine AwOps.eff hT rfl ?_
      refine AwOps.v hT rfl ?_
      refine AwOps.v hT rfl ?_
      refine AwOps.eff hT rfl ?_
      refine AwOps.nil (Aw.seq (Aw.region ?_))
      refine AwOps.v hT rfl ?_
      refine AwOps.lit hT rfl ?_
      refine AwOps.turn (Tn.fz 50 rfl rfl (by first | rfl | (simp; done)) rfl) ?_
      refine AwOps.turn (Less.say (t := 50) (B := .one (.p (.sl (List.map eI [_, _, _, _, _, _])))) rfl rfl) ?_
      refine AwOps.v hT rfl ?_
      refine AwOps.cl (F10 _ _ (by first | omega | (simp only [w64] at *; omega) | (simp [w64] at *; omega)) (by first | omega | (simp only [w64] at *; omega) | (simp [w64] at *; omega))) [1000] rfl ⟨⟨1000, rfl, rfl⟩, ⟨rfl, rfl⟩, trivial⟩ ⟨rfl, trivial⟩ rfl ?_   -- certpathmade.Deck).Next
      rintro _ _ ⟨v26, d26, rfl, rfl, hv26, hw26⟩
      refine AwOps.imI hT rfl (by first | omega | (simp only [w64] at *; omega) | (simp [w64] at *; omega)) (by first | omega | (simp only [List.length_cons, List.length_nil, List.length_map]; omega) | (simp only [List.length_cons, List.length_nil, List.length_map, w64] at *; omega) | (simp [w64] at *; omega)) rfl ?_
      iterate 3 refine AwOps.v hT rfl ?_
      refine AwOps.eff hT rfl ?_
      refine AwOps.nil (Aw.seq (Aw.region ?_))
      refine AwOps.v hT rfl ?_
      refine AwOps.cl (F71m _) [1000] rfl ⟨⟨1000, rfl, rfl⟩, trivial⟩ ⟨rfl, trivial⟩ rfl ?_   -- certpathmade2.Points
      rintro _ _ ⟨l27, d27, rfl, rfl, hl27⟩
      have hp27 := hl27.1
      refine AwOps.v hT rfl ?_
      refine AwOps.nil (Aw.seq (Aw.seq (Aw.region ?_)))
      refine AwOps.v hT rfl ?_
      refine AwOps.cl (F10 _ _ (by first | omega | (simp only [w64] at *; omega) | (simp [w64] at *; omega)) (by first | omega | (simp only [w64] at *; omega) | (simp [w64] at *; omega))) [1000] rfl ⟨⟨1000, rfl, rfl⟩, ⟨rfl, rfl⟩, trivial⟩ ⟨rfl, trivial⟩ rfl ?_   -- certpathmade.Deck).Next
      rintro _ _ ⟨v28, d28, rfl, rfl, hv28, hw28⟩
      refine AwOps.v hT rfl ?_
      refine AwOps.nil ?_
      refine Aw.tst rfl (fun hb61 => ?_) (fun hb61 => ?_)
      · skip
        refine Aw.region ?_
        refine AwOps.v hT rfl ?_
        refine AwOps.v hT rfl ?_
        refine AwOps.imI hT rfl (by first | omega | (simp only [w64] at *; omega) | (simp [w64] at *; omega)) (by first | omega | (simp only [List.length_cons, List.length_nil, List.length_map]; omega) | (simp only [List.length_cons, List.length_nil, List.length_map, w64] at *; omega) | (simp [w64] at *; omega)) rfl ?_
        iterate 4 refine AwOps.v hT rfl ?_
        refine AwOps.eff hT rfl ?_
        refine AwOps.nil (Aw.seq (Aw.region ?_))
        refine AwOps.v hT rfl ?_
        refine AwOps.cl (F10 _ _ (by first | omega | (simp only [w64] at *; omega) | (simp [w64] at *; omega)) (by first | omega | (simp only [w64] at *; omega) | (simp [w64] at *; omega))) [1000] rfl ⟨⟨1000, rfl, rfl⟩, ⟨rfl, rfl⟩, trivial⟩ ⟨rfl, trivial⟩ rfl ?_   -- certpathmade.Deck).Next
        rintro _ _ ⟨v29, d29, rfl, rfl, hv29, hw29⟩
        refine AwOps.v hT rfl ?_
        refine AwOps.nil ?_
        refine Aw.tst rfl (fun hb71 => ?_) (fun hb71 => ?_)
        · skip
          refine Aw.region ?_
          refine AwOps.v hT rfl ?_
          refine AwOps.v hT rfl ?_
          refine AwOps.cl (F10 _ _ (by first | omega | (simp only [w64] at *; omega) | (simp [w64] at *; omega)) (by first | omega | (simp only [w64] at *; omega) | (simp [w64] at *; omega))) [1000] rfl ⟨⟨1000, rfl, rfl⟩, ⟨rfl, rfl⟩, trivial⟩ ⟨rfl, trivial⟩ rfl ?_   -- certpathmade.Deck).Next
          rintro _ _ ⟨v30, d30, rfl, rfl, hv30, hw30⟩
          refine AwOps.cl (F33 _ (by first | omega | (simp only [w64] at *; omega) | (simp [w64] at *; omega))) [] rfl ⟨⟨rfl, rfl⟩, trivial⟩ trivial rfl ?_   -- certpathmade2.Named
          rintro _ _ ⟨v31, hv31, rfl⟩
          have hw31 := namedL_nn _ hv31
          refine AwOps.cl (F25 _ (by first | omega | (simp only [w64] at *; omega) | (simp [w64] at *; omega))) [] rfl ⟨⟨rfl, rfl⟩, trivial⟩ trivial rfl ?_   -- certpathmade.Authority
          rintro _ _ rfl
          refine AwOps.build hT rfl ?_
          refine AwOps.turn (Less.say (t := 77) (B := .agg [_, .v (.string ⟨#[]⟩), _]) rfl rfl) ?_
          refine AwOps.lit hT rfl ?_
          refine AwOps.turn (Tn.fz 78 rfl rfl (by first | rfl | (simp; done)) rfl) ?_
          refine AwOps.turn (Less.say (t := 78) (B := .one (.p (.sl (List.map eGn [⟨_, _, _⟩])))) rfl rfl) ?_
          refine AwOps.v hT rfl ?_
          refine AwOps.v hT rfl ?_
          refine AwOps.eff hT rfl ?_
          refine AwOps.nil (Aw.seq (Aw.region ?_))
          refine AwOps.v hT rfl ?_
          refine AwOps.eff hT rfl ?_
          refine AwOps.nil ?_
          refine Aw.ret ?_
          refine ⟨_, [_], rfl, ⟨rfl, trivial⟩, ?_⟩
          refine ⟨⟨_, _, _, _, _, _, _, _, _, ⟨_, _, _, _, _⟩, _, _, _⟩, _, rfl, rfl, ⟨okNm_auth _, ?_⟩, ?_⟩
          · first | exact okGs_nil | exact okGs_one ⟨by show (0 : Nat) ≤ _; exact Nat.zero_le _, okNm_auth _⟩ | exact ((by assumption : okPtsR _).2 _ (List.getElem_mem _)).1.1
          · first | exact rScp_ok _ (List.getElem_mem _) | exact (by decide : goodR 0)
        · skip
          refine Aw.skip (Aw.seq (Aw.region ?_))
          refine AwOps.v hT rfl ?_
          refine AwOps.eff hT rfl ?_
          refine AwOps.nil ?_
          refine Aw.ret ?_
          refine ⟨_, [_], rfl, ⟨rfl, trivial⟩, ?_⟩
          refine ⟨⟨_, _, _, _, _, _, _, _, _, ⟨_, _, _, _, _⟩, _, _, _⟩, _, rfl, rfl, ⟨okNm_auth _, ?_⟩, ?_⟩
          · first | exact okGs_nil | exact okGs_one ⟨by show (0 : Nat) ≤ _; exact Nat.zero_le _, okNm_auth _⟩ | exact ((by assumption : okPtsR _).2 _ (List.getElem_mem _)).1.1
          · first | exact rScp_ok _ (List.getElem_mem _) | exact (by decide : goodR 0)
      · skip
        refine Aw.skip (Aw.seq (Aw.region ?_))
        refine AwOps.v hT rfl ?_
        refine AwOps.cl (F10 _ _ (by first | omega | (simp only [w64] at *; omega) | (simp [w64] at *; omega)) (by first | omega | (simp only [w64] at *; omega) | (simp [w64] at *; omega))) [1000] rfl ⟨⟨1000, rfl, rfl⟩, ⟨rfl, rfl⟩, trivial⟩ ⟨rfl, trivial⟩ rfl ?_   -- certpathmade.Deck).Next
        rintro _ _ ⟨v33, d33, rfl, rfl, hv33, hw33⟩
        refine AwOps.v hT rfl ?_
        refine AwOps.nil ?_
        refine Aw.tst rfl (fun hb71 => ?_) (fun hb71 => ?_)
        · skip
          refine Aw.region ?_
          refine AwOps.v hT rfl ?_
          refine AwOps.v hT rfl ?_
          refine AwOps.cl (F10 _ _ (by first | omega | (simp only [w64] at *; omega) | (simp [w64] at *; omega)) (by first | omega | (simp only [w64] at *; omega) | (simp [w64] at *; omega))) [1000] rfl ⟨⟨1000, rfl, rfl⟩, ⟨rfl, rfl⟩, trivial⟩ ⟨rfl, trivial⟩ rfl ?_   -- certpathmade.Deck).Next
          rintro _ _ ⟨v34, d34, rfl, rfl, hv34, hw34⟩
          refine AwOps.cl (F33 _ (by first | omega | (simp only [w64] at *; omega) | (simp [w64] at *; omega))) [] rfl ⟨⟨rfl, rfl⟩, trivial⟩ trivial rfl ?_   -- certpathmade2.Named
          rintro _ _ ⟨v35, hv35, rfl⟩
          have hw35 := namedL_nn _ hv35
          refine AwOps.cl (F25 _ (by first | omega | (simp only [w64] at *; omega) | (simp [w64] at *; omega))) [] rfl ⟨⟨rfl, rfl⟩, trivial⟩ trivial rfl ?_   -- certpathmade.Authority
          rintro _ _ rfl
          refine AwOps.build hT rfl ?_
          refine AwOps.turn (Less.say (t := 77) (B := .agg [_, .v (.string ⟨#[]⟩), _]) rfl rfl) ?_
          refine AwOps.lit hT rfl ?_
          refine AwOps.turn (Tn.fz 78 rfl rfl (by first | rfl | (simp; done)) rfl) ?_
          refine AwOps.turn (Less.say (t := 78) (B := .one (.p (.sl (List.map eGn [⟨_, _, _⟩])))) rfl rfl) ?_
          refine AwOps.v hT rfl ?_
          refine AwOps.v hT rfl ?_
          refine AwOps.eff hT rfl ?_
          refine AwOps.nil (Aw.seq (Aw.region ?_))
          refine AwOps.v hT rfl ?_
          refine AwOps.eff hT rfl ?_
          refine AwOps.nil ?_
          refine Aw.ret ?_
          refine ⟨_, [_], rfl, ⟨rfl, trivial⟩, ?_⟩
          refine ⟨⟨_, _, _, _, _, _, _, _, _, ⟨_, _, _, _, _⟩, _, _, _⟩, _, rfl, rfl, ⟨okNm_auth _, ?_⟩, ?_⟩
          · first | exact okGs_nil | exact okGs_one ⟨by show (0 : Nat) ≤ _; exact Nat.zero_le _, okNm_auth _⟩ | exact ((by assumption : okPtsR _).2 _ (List.getElem_mem _)).1.1
          · first | exact rScp_ok _ (List.getElem_mem _) | exact (by decide : goodR 0)
        · skip
          refine Aw.skip (Aw.seq (Aw.region ?_))
          refine AwOps.v hT rfl ?_
          refine AwOps.eff hT rfl ?_
          refine AwOps.nil ?_
          refine Aw.ret ?_
          refine ⟨_, [_], rfl, ⟨rfl, trivial⟩, ?_⟩
          refine ⟨⟨_, _, _, _, _, _, _, _, _, ⟨_, _, _, _, _⟩, _, _, _⟩, _, rfl, rfl, ⟨okNm_auth _, ?_⟩, ?_⟩
          · first | exact okGs_nil | exact okGs_one ⟨by show (0 : Nat) ≤ _; exact Nat.zero_le _, okNm_auth _⟩ | exact ((by assumption : okPtsR _).2 _ (List.getElem_mem _)).1.1
          · first | exact rScp_ok _ (List.getElem_mem _) | exact (by decide : goodR 0)
    · skip
      refine Aw.skip (Aw.seq (Aw.region ?_))
      refine AwOps.v hT rfl ?_
      refine AwOps.eff hT rfl ?_
      refine AwOps.nil ?_
      refine Aw.ret ?_
      refine ⟨_, [_], rfl, ⟨rfl, trivial⟩, ?_⟩
      refine ⟨⟨_, _, _, _, _, _, _, _, _, ⟨_, _, _, _, _⟩, _, _, _⟩, _, rfl, rfl, ⟨okNm_auth _, ?_⟩, ?_⟩
      · first | exact okGs_nil | exact okGs_one ⟨by show (0 : Nat) ≤ _; exact Nat.zero_le _, okNm_auth _⟩ | exact ((by assumption : okPtsR _).2 _ (List.getElem_mem _)).1.1
      · first | exact rScp_ok _ (List.getElem_mem _) | exact (by decide : goodR 0)
-- f157 certpath/certpathlaw27.some
theorem F157 (d : Dk) : Fn Tryd.prog 8 [.ptr 0 0] [(68, eDk d)] (fun r H' => ∃ (c : Cert) (l : CList) (d' : Dk), r = .tup [.agg (eCert c), .agg (eCL l)] ∧ H' = [eDk d'] ∧ okNm c.issuer ∧ okPtsR c.info.points ∧ okCL l ∧ goodR l.scope.reasons) := by
  refine Fn.intro (rs := [.cell 2 38, .cell 3 43]) hT Tryd.func8 (by kernel_rfl) rfl rfl rfl rfl fun C => ?_
  refine Aw.seq (Aw.region ?_)
  refine AwOps.eff hT rfl ?_
  refine AwOps.eff hT rfl ?_
  refine AwOps.nil (Aw.seq (Aw.region ?_))
  refine AwOps.v hT rfl ?_
  refine AwOps.cl (F10 _ _ (by first | omega | (simp only [w64] at *; omega) | (simp [w64] at *; omega)) (by first | omega | (simp only [w64] at *; omega) | (simp [w64] at *; omega))) [1000] rfl ⟨⟨1000, rfl, rfl⟩, ⟨rfl, rfl⟩, trivial⟩ ⟨rfl, trivial⟩ rfl ?_   -- certpathmade.Deck).Next
  rintro _ _ ⟨v1, d1, rfl, rfl, hv1, hw1⟩
  refine AwOps.v hT rfl ?_
  first | refine AwOps.nm 7 rfl (by omega) (by omega) ?_ | skip
  refine AwOps.v hT rfl ?_
  refine AwOps.cl (F10 _ _ (by first | omega | (simp only [w64] at *; omega) | (simp [w64] at *; omega)) (by first | omega | (simp only [w64] at *; omega) | (simp [w64] at *; omega))) [1000] rfl ⟨⟨1000, rfl, rfl⟩, ⟨rfl, rfl⟩, trivial⟩ ⟨rfl, trivial⟩ rfl ?_   -- certpathmade.Deck).Next
  rintro _ _ ⟨v2, d2, rfl, rfl, hv2, hw2⟩
  refine AwOps.v hT rfl ?_
  first | refine AwOps.nmq 10 rfl (by omega) (by omega) (by omega) ?_ | skip
  refine AwOps.v hT rfl ?_
  first | refine AwOps.nm 11 rfl (by omega) (by omega) ?_ | skip
  refine AwOps.cl (F25 _ (by first | omega | (simp only [w64] at *; omega) | (simp [w64] at *; omega))) [] rfl ⟨⟨rfl, rfl⟩, trivial⟩ trivial rfl ?_   -- certpathmade.Authority
  rintro _ _ rfl
  refine AwOps.build hT rfl ?_
  refine AwOps.turn (Less.say (t := 13) (B := .agg [.v (.string ⟨#[]⟩), .v (.string ⟨#[]⟩), _, _, .sl (List.map eRdn []), .v (.int .i64 0), .v (.int .i64 0), .v (.int .i64 0), .v (.string ⟨#[]⟩), .v (.string ⟨#[]⟩), .v (.bool false), .v (.bool false), .v (.int .i64 0), .v (.int .i64 0), .sl (List.map eStr []), .sl (List.map eStr []), .sl (List.map eMapp []), .v (.int .i64 0), .v (.int .i64 0), .v (.int .i64 0), .sl (List.map eGn []), .v (.bool false), .sl (List.map eGn []), .sl (List.map eGn []), .v (.string ⟨#[]⟩), .v (.string ⟨#[]⟩), .sl (List.map ePoint []), .sl (List.map ePoint []), .sl (List.map eExt []), .v (.string ⟨#[]⟩)]) rfl rfl) ?_
  refine AwOps.eff hT rfl ?_
  refine AwOps.eff hT rfl ?_
  refine AwOps.nil (Aw.seq (Aw.region ?_))
  refine AwOps.v hT rfl ?_
  refine AwOps.cl (F10 _ _ (by first | omega | (simp only [w64] at *; omega) | (simp [w64] at *; omega)) (by first | omega | (simp only [w64] at *; omega) | (simp [w64] at *; omega))) [1000] rfl ⟨⟨1000, rfl, rfl⟩, ⟨rfl, rfl⟩, trivial⟩ ⟨rfl, trivial⟩ rfl ?_   -- certpathmade.Deck).Next
  rintro _ _ ⟨v4, d4, rfl, rfl, hv4, hw4⟩
  iterate 3 refine AwOps.v hT rfl ?_
  refine AwOps.eff hT rfl ?_
  refine AwOps.nil (Aw.seq (Aw.seq (Aw.region ?_)))
  refine AwOps.v hT rfl ?_
  refine AwOps.cl (F10 _ _ (by first | omega | (simp only [w64] at *; omega) | (simp [w64] at *; omega)) (by first | omega | (simp only [w64] at *; omega) | (simp [w64] at *; omega))) [1000] rfl ⟨⟨1000, rfl, rfl⟩, ⟨rfl, rfl⟩, trivial⟩ ⟨rfl, trivial⟩ rfl ?_   -- certpathmade.Deck).Next
  rintro _ _ ⟨v5, d5, rfl, rfl, hv5, hw5⟩
  refine AwOps.v hT rfl ?_
  refine AwOps.nil ?_
  refine Aw.tst rfl (fun hb21 => ?_) (fun hb21 => ?_)
  · skip
    refine Aw.region ?_
    refine AwOps.v hT rfl ?_
    refine AwOps.cl (F71m _) [1000] rfl ⟨⟨1000, rfl, rfl⟩, trivial⟩ ⟨rfl, trivial⟩ rfl ?_   -- certpathmade2.Points
    rintro _ _ ⟨l6, d6, rfl, rfl, hl6⟩
    have hp6 := hl6.1
    refine AwOps.v hT rfl ?_
    refine AwOps.v hT rfl ?_
    refine AwOps.eff hT rfl ?_
    refine AwOps.nil (Aw.seq ?_)
    refine Aw.regionS [2, 3, 1000] [(true, 0), (true, 1), (false, 2), (false, 3), (false, 4)] (by kernel_rfl) (by kernel_rfl) ?_
    refine AwSch.take (Yd.val hT rfl rfl) ?_
    refine AwSch.take (Yd.val hT rfl rfl) ?_
    refine AwSch.one ?_
    refine Ed.cl (F165 _) [1000] rfl ⟨⟨1000, rfl, rfl⟩, trivial⟩ ⟨rfl, trivial⟩ rfl rfl ?_   -- certpathlaw27.list
    rintro _ _ ⟨l7, d7, rfl, rfl, ho7, hr7⟩
    refine AwSch.one ?_
    refine Ed.eff hT rfl (fun b hb => by injection hb with hb; subst hb; decide) ?_
    refine AwSch.one ?_
    refine Ed.eff hT rfl (fun b hb => by injection hb with hb; subst hb; decide) ?_
    refine AwSch.nil ?_
    refine Aw.ret ?_
    refine ⟨_, [_], rfl, ⟨rfl, trivial⟩, ?_⟩
    refine ⟨⟨_, _, _, _, _, _, _, ⟨_, _, _⟩, ⟨_, _, _, _, _, _, _, _, _, _, _, _, ⟨_, _⟩, _, _, _, _, _⟩, _⟩, _, _, rfl, rfl, okNm_auth _, ?_, by assumption, by assumption⟩
    first | exact okPtsR_nil | assumption
  · skip
    refine Aw.skip (Aw.seq ?_)
    refine Aw.regionS [2, 3, 1000] [(true, 0), (true, 1), (false, 2), (false, 3), (false, 4)] (by kernel_rfl) (by kernel_rfl) ?_
    refine AwSch.take (Yd.val hT rfl rfl) ?_
    refine AwSch.take (Yd.val hT rfl rfl) ?_
    refine AwSch.one ?_
    refine Ed.cl (F165 _) [1000] rfl ⟨⟨1000, rfl, rfl⟩, trivial⟩ ⟨rfl, trivial⟩ rfl rfl ?_   -- certpathlaw27.list
    rintro _ _ ⟨l8, d8, rfl, rfl, ho8, hr8⟩
    refine AwSch.one ?_
    refine Ed.eff hT rfl (fun b hb => by injection hb with hb; subst hb; decide) ?_
    refine AwSch.one ?_
    refine Ed.eff hT rfl (fun b hb => by injection hb with hb; subst hb; decide) ?_
    refine AwSch.nil ?_
    refine Aw.ret ?_
    refine ⟨_, [_], rfl, ⟨rfl, trivial⟩, ?_⟩
    refine ⟨⟨_, _, _, _, _, _, _, ⟨_, _, _⟩, ⟨_, _, _, _, _, _, _, _, _, _, _, _, ⟨_, _⟩, _, _, _, _, _⟩, _⟩, _, _, rfl, rfl, okNm_auth _, ?_, by assumption, by assumption⟩
    first | exact okPtsR_nil | assumption
end Go.Proofs.YtbdgmondalkhlaaDoor.Aw
