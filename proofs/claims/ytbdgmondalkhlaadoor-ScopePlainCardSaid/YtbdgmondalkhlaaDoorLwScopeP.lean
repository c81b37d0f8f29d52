
/- The walk of the law on plain scopes.
   Conditions: none. -/
import Derived.Test.YtbdgmondalkhlaaDoorLwScope
namespace Go.Proofs.YtbdgmondalkhlaaDoor.Aw
open Go
set_option maxRecDepth 100000
set_option maxHeartbeats 4000000
set_option linter.unusedSimpArgs false
set_option linter.unusedVariables false

theorem nm16 : (List.range 16).all (fun k => nmatch (authS (k : Int)) (authS (k : Int))) = true := by kernel_rfl
theorem nm_self {v : Int} (h0 : 0 ≤ v) (h1 : v < 16) : nmatch (authS v) (authS v) = true := by
  have h := List.all_eq_true.1 nm16 v.toNat (List.mem_range.2 (by omega))
  simp only [Int.toNat_of_nonneg h0] at h
  exact h
def cP (v : Int) (ca : Bool) (l : List Point) : Cert := { cI v with info := { (cI v).info with ca := ca, points := l } }
theorem cov_plain {v : Int} {ca : Bool} {l : List Point} {ns : List Gn} (h0 : 0 ≤ v) (h1 : v < 16) : (covS (cP v ca l) ⟨ns, 0, false, []⟩ (lI v)).1 = 510 := by
  have h : nmatch (lI v).issuer (cP v ca l).issuer = true := nm_self h0 h1
  unfold covS
  rw [h]
  rfl
theorem mask_plain {v : Int} {ca : Bool} {l : List Point} (h0 : 0 ≤ v) (h1 : v < 16) (hl : l = [] ∨ ∃ g, okG g ∧ l = [⟨[g], 0, false, []⟩]) : maskS (cP v ca l) (lI v) = 510 := by
  rcases hl with rfl | ⟨g, _, rfl⟩
  · show bor 0 (covS (cP v ca []) zPt (lI v)).1 = _
    rw [zPt, cov_plain h0 h1]
    kernel_rfl
  · show bor 0 (covS (cP v ca _) _ (lI v)).1 = _
    rw [cov_plain h0 h1]
    kernel_rfl
theorem F163p (v : Int) (ca : Bool) (l : List Point) (h0 : 0 ≤ v) (h1 : v < 16) (hl : l = [] ∨ ∃ g, okG g ∧ l = [⟨[g], 0, false, []⟩]) : Fn Tryd.prog 15 [.pv (.agg (eCert (cP v ca l))), .pv (.agg (eCL (lI v)))] [] (fun z _ => z = sc (.int .i64 510)) := by
  have hp : okPts (cP v ca l).info.points := by
    rcases hl with rfl | ⟨g, hg, rfl⟩
    · exact okPts_nil
    · exact ⟨by show 1 ≤ 1000; decide, fun p hp => by rw [List.mem_singleton.1 hp]; exact ⟨⟨by show 1 ≤ 1000; decide, fun x hx => by rw [List.mem_singleton.1 hx]; exact hg⟩, okNm_nil⟩⟩
  have := F163 (cP v ca l) (lI v) (okNm_auth _) hp (okCL_lI _)
  rw [mask_plain h0 h1 hl] at this
  exact this
-- f154 certpath/certpathlaw27.ScopePlain
theorem F154 (l : List Int) (b : Bool) : Fn Tryd.prog 5 [.pv (.one (.p (.sl (l.map eI)))), .pv (sc (.bool b))] [] (fun r _ => r = sc (.bool (true))) := by
  refine Fn.intro (rs := [.tmp 4]) hT Tryd.func5 (by kernel_rfl) rfl rfl rfl rfl fun C => ?_
  refine Aw.seq (Aw.region ?_)
  refine AwOps.v hT rfl ?_
  refine AwOps.nil (Aw.seq (Aw.region ?_))
  refine AwOps.v hT rfl ?_
  refine AwOps.ed (N := []) (Ed.callO (F8 _) rfl rfl rfl rfl ?_)
  rintro _ rfl
  refine AwOps.v hT rfl ?_
  refine AwOps.nil (Aw.seq (Aw.region ?_))
  refine AwOps.v hT rfl ?_
  refine AwOps.cl (F10 _ _ (by first | omega | (simp only [w64] at *; omega) | (simp [w64] at *; omega)) (by first | omega | (simp only [w64] at *; omega) | (simp [w64] at *; omega))) [9] rfl ⟨⟨9, rfl, rfl⟩, ⟨rfl, rfl⟩, trivial⟩ ⟨rfl, trivial⟩ rfl ?_   -- certpathmade.Deck).Next
  rintro _ _ ⟨v1, d1, rfl, rfl, hv1, hw1⟩
  refine AwOps.cl (F25 _ (by first | omega | (simp only [w64] at *; omega) | (simp [w64] at *; omega))) [] rfl ⟨⟨rfl, rfl⟩, trivial⟩ trivial rfl ?_   -- certpathmade.Authority
  rintro _ _ rfl
  refine AwOps.eff hT rfl ?_
  refine AwOps.eff hT rfl ?_
  refine AwOps.nil (Aw.seq ?_)
  refine Aw.regionAny [7, 9] (by kernel_rfl) ?_
  refine AwAny.tk (i := 0) (Yd.val hT rfl rfl) (by kernel_rfl) ?_
  refine AwAny.tk (i := 1) (Yd.val hT rfl rfl) (by kernel_rfl) ?_
  refine AwAny.two (i := 2) (j := 6) (by kernel_rfl) ?_ ?_
  · skip
    refine Ed.cl (F10 _ _ (by first | omega | (simp only [w64] at *; omega) | (simp [w64] at *; omega)) (by first | omega | (simp only [w64] at *; omega) | (simp [w64] at *; omega))) [9] rfl ⟨⟨9, rfl, rfl⟩, ⟨rfl, rfl⟩, trivial⟩ ⟨rfl, trivial⟩ rfl rfl ?_   -- certpathmade.Deck).Next
    rintro _ _ ⟨v4, d4, rfl, rfl, hv4, hw4⟩
    refine AwAny.tk (i := 3) (Yd.val hT rfl rfl) (by kernel_rfl) ?_
    refine AwAny.tk (i := 4) (Yd.build hT rfl) (by kernel_rfl) ?_
    refine AwAny.say (t := 17) (B := .agg [.v (.bool false), _, .v (.int .i64 0), .v (.int .i64 0), .sl (List.map eStr []), .sl (List.map eStr []), .sl (List.map eMapp []), .v (.int .i64 0), .v (.int .i64 0), .v (.int .i64 0), .sl (List.map eGn []), .v (.bool false), .sl (List.map eGn []), .sl (List.map eGn []), .v (.string ⟨#[]⟩), .v (.string ⟨#[]⟩), .sl (List.map ePoint []), .sl (List.map ePoint []), .sl (List.map eExt [])]) rfl rfl ?_
    refine AwAny.tk (i := 5) (Yd.build hT rfl) (by kernel_rfl) ?_
    refine AwAny.say (t := 18) (B := .agg [.v (.string ⟨#[]⟩), .v (.string ⟨#[]⟩), .v (.int .i64 0), _, .sl (List.map eRdn []), .v (.int .i64 0), .v (.int .i64 0), .v (.int .i64 0), .v (.string ⟨#[]⟩), .v (.string ⟨#[]⟩), _, _, _, _, _, _, _, _, _, _, _, _, _, _, _, _, _, _, _, .v (.string ⟨#[]⟩)]) rfl rfl ?_
    refine AwAny.one (i := 6) (by kernel_rfl) ?_
    refine Ed.eff hT rfl (fun b hb => by cases hb) ?_
    refine AwAny.one (i := 7) (by kernel_rfl) ?_
    refine Ed.eff hT rfl (fun b hb => by injection hb with hb; subst hb; decide) ?_
    refine AwAny.done (by kernel_rfl) ?_
    refine Aw.seq (Aw.seq (Aw.region ?_))
    refine AwOps.v hT rfl ?_
    refine AwOps.nil ?_
    refine Aw.tst rfl (fun hb19 => ?_) (fun hb19 => ?_)
    · skip
      refine Aw.region ?_
      refine AwOps.v hT rfl ?_
      refine AwOps.cl (F37 _) [9] rfl ⟨⟨9, rfl, rfl⟩, trivial⟩ ⟨rfl, trivial⟩ rfl ?_   -- certpathmade.General
      rintro _ _ ⟨g5, d5, rfl, rfl, hg5⟩
      refine AwOps.lit hT rfl ?_
      refine AwOps.turn (Tn.fz 22 rfl rfl (by first | rfl | (simp; done)) rfl) ?_
      refine AwOps.turn (Less.say (t := 22) (B := .one (.p (.sl (List.map eGn [⟨_, _, _⟩])))) rfl rfl) ?_
      refine AwOps.build hT rfl ?_
      refine AwOps.turn (Less.say (t := 23) (B := .agg [_, .v (.int .i64 0), .v (.bool false), .sl (List.map eRdn [])]) rfl rfl) ?_
      refine AwOps.lit hT rfl ?_
      refine AwOps.turn (Tn.fz 24 rfl rfl (by first | rfl | (simp; done)) rfl) ?_
      refine AwOps.turn (Less.say (t := 24) (B := .one (.p (.sl (List.map ePoint [⟨_, _, _, _⟩])))) rfl rfl) ?_
      refine AwOps.v hT rfl ?_
      refine AwOps.v hT rfl ?_
      refine AwOps.eff hT rfl ?_
      refine AwOps.nil (Aw.seq (Aw.region ?_))
      refine AwOps.v hT rfl ?_
      refine AwOps.v hT rfl ?_
      refine AwOps.build hT rfl ?_
      refine AwOps.turn (Less.say (t := 29) (B := .agg [.v (.string ⟨#[]⟩), .v (.string ⟨#[]⟩), _, .v (.int .i64 0), .v (.int .i64 0), .v (.int .i64 0), .v (.int .i64 0), .v (.string ⟨#[]⟩), .v (.bool false), .sl (List.map eGn []), .v (.bool false), .v (.bool false), .v (.int .i64 0), .v (.bool false), .sl (List.map ePoint []), .sl (List.map eEnt []), .v (.string ⟨#[]⟩)]) rfl rfl) ?_
      refine AwOps.cl (F163p v1 _ _ hv1 hw1 (by first | exact .inl rfl | exact .inr ⟨_, by assumption, rfl⟩)) [] rfl ⟨⟨rfl, rfl⟩, ⟨rfl, rfl⟩, trivial⟩ trivial rfl ?_   -- scope.Mask
      rintro _ _ rfl
      refine AwOps.v hT rfl ?_
      refine AwOps.v hT rfl ?_
      refine AwOps.cl (F162) [] rfl trivial trivial rfl ?_   -- certpathlaw27.awake
      rintro _ _ rfl
      refine AwOps.v hT rfl ?_
      refine AwOps.v hT rfl ?_
      refine AwOps.nil ?_
      refine Aw.ret ?_
      refine ⟨_, [], rfl, trivial, ?_⟩
      exact rfl
    · skip
      refine Aw.skip (Aw.seq (Aw.region ?_))
      refine AwOps.v hT rfl ?_
      refine AwOps.v hT rfl ?_
      refine AwOps.build hT rfl ?_
      refine AwOps.turn (Less.say (t := 29) (B := .agg [.v (.string ⟨#[]⟩), .v (.string ⟨#[]⟩), _, .v (.int .i64 0), .v (.int .i64 0), .v (.int .i64 0), .v (.int .i64 0), .v (.string ⟨#[]⟩), .v (.bool false), .sl (List.map eGn []), .v (.bool false), .v (.bool false), .v (.int .i64 0), .v (.bool false), .sl (List.map ePoint []), .sl (List.map eEnt []), .v (.string ⟨#[]⟩)]) rfl rfl) ?_
      refine AwOps.cl (F163p v1 _ _ hv1 hw1 (by first | exact .inl rfl | exact .inr ⟨_, by assumption, rfl⟩)) [] rfl ⟨⟨rfl, rfl⟩, ⟨rfl, rfl⟩, trivial⟩ trivial rfl ?_   -- scope.Mask
      rintro _ _ rfl
      refine AwOps.v hT rfl ?_
      refine AwOps.v hT rfl ?_
      refine AwOps.cl (F162) [] rfl trivial trivial rfl ?_   -- certpathlaw27.awake
      rintro _ _ rfl
      refine AwOps.v hT rfl ?_
      refine AwOps.v hT rfl ?_
      refine AwOps.nil ?_
      refine Aw.ret ?_
      refine ⟨_, [], rfl, trivial, ?_⟩
      exact rfl
  · skip
    refine Ed.eff hT rfl (fun b hb => by cases hb) ?_
    refine AwAny.one (i := 2) (by kernel_rfl) ?_
    refine Ed.cl (F10 _ _ (by first | omega | (simp only [w64] at *; omega) | (simp [w64] at *; omega)) (by first | omega | (simp only [w64] at *; omega) | (simp [w64] at *; omega))) [9] rfl ⟨⟨9, rfl, rfl⟩, ⟨rfl, rfl⟩, trivial⟩ ⟨rfl, trivial⟩ rfl rfl ?_   -- certpathmade.Deck).Next
    rintro _ _ ⟨v10, d10, rfl, rfl, hv10, hw10⟩
    refine AwAny.tk (i := 3) (Yd.val hT rfl rfl) (by kernel_rfl) ?_
    refine AwAny.tk (i := 4) (Yd.build hT rfl) (by kernel_rfl) ?_
    refine AwAny.say (t := 17) (B := .agg [.v (.bool false), _, .v (.int .i64 0), .v (.int .i64 0), .sl (List.map eStr []), .sl (List.map eStr []), .sl (List.map eMapp []), .v (.int .i64 0), .v (.int .i64 0), .v (.int .i64 0), .sl (List.map eGn []), .v (.bool false), .sl (List.map eGn []), .sl (List.map eGn []), .v (.string ⟨#[]⟩), .v (.string ⟨#[]⟩), .sl (List.map ePoint []), .sl (List.map ePoint []), .sl (List.map eExt [])]) rfl rfl ?_
    refine AwAny.tk (i := 5) (Yd.build hT rfl) (by kernel_rfl) ?_
    refine AwAny.say (t := 18) (B := .agg [.v (.string ⟨#[]⟩), .v (.string ⟨#[]⟩), .v (.int .i64 0), _, .sl (List.map eRdn []), .v (.int .i64 0), .v (.int .i64 0), .v (.int .i64 0), .v (.string ⟨#[]⟩), .v (.string ⟨#[]⟩), _, _, _, _, _, _, _, _, _, _, _, _, _, _, _, _, _, _, _, .v (.string ⟨#[]⟩)]) rfl rfl ?_
    refine AwAny.one (i := 7) (by kernel_rfl) ?_
    refine Ed.eff hT rfl (fun b hb => by injection hb with hb; subst hb; decide) ?_
    refine AwAny.done (by kernel_rfl) ?_
    refine Aw.seq (Aw.seq (Aw.region ?_))
    refine AwOps.v hT rfl ?_
    refine AwOps.nil ?_
    refine Aw.tst rfl (fun hb19 => ?_) (fun hb19 => ?_)
    · skip
      refine Aw.region ?_
      refine AwOps.v hT rfl ?_
      refine AwOps.cl (F37 _) [9] rfl ⟨⟨9, rfl, rfl⟩, trivial⟩ ⟨rfl, trivial⟩ rfl ?_   -- certpathmade.General
      rintro _ _ ⟨g11, d11, rfl, rfl, hg11⟩
      refine AwOps.lit hT rfl ?_
      refine AwOps.turn (Tn.fz 22 rfl rfl (by first | rfl | (simp; done)) rfl) ?_
      refine AwOps.turn (Less.say (t := 22) (B := .one (.p (.sl (List.map eGn [⟨_, _, _⟩])))) rfl rfl) ?_
      refine AwOps.build hT rfl ?_
      refine AwOps.turn (Less.say (t := 23) (B := .agg [_, .v (.int .i64 0), .v (.bool false), .sl (List.map eRdn [])]) rfl rfl) ?_
      refine AwOps.lit hT rfl ?_
      refine AwOps.turn (Tn.fz 24 rfl rfl (by first | rfl | (simp; done)) rfl) ?_
      refine AwOps.turn (Less.say (t := 24) (B := .one (.p (.sl (List.map ePoint [⟨_, _, _, _⟩])))) rfl rfl) ?_
      refine AwOps.v hT rfl ?_
      refine AwOps.v hT rfl ?_
      refine AwOps.eff hT rfl ?_
      refine AwOps.nil (Aw.seq (Aw.region ?_))
      refine AwOps.v hT rfl ?_
      refine AwOps.v hT rfl ?_
      refine AwOps.build hT rfl ?_
      refine AwOps.turn (Less.say (t := 29) (B := .agg [.v (.string ⟨#[]⟩), .v (.string ⟨#[]⟩), _, .v (.int .i64 0), .v (.int .i64 0), .v (.int .i64 0), .v (.int .i64 0), .v (.string ⟨#[]⟩), .v (.bool false), .sl (List.map eGn []), .v (.bool false), .v (.bool false), .v (.int .i64 0), .v (.bool false), .sl (List.map ePoint []), .sl (List.map eEnt []), .v (.string ⟨#[]⟩)]) rfl rfl) ?_
      refine AwOps.cl (F163p v1 _ _ hv1 hw1 (by first | exact .inl rfl | exact .inr ⟨_, by assumption, rfl⟩)) [] rfl ⟨⟨rfl, rfl⟩, ⟨rfl, rfl⟩, trivial⟩ trivial rfl ?_   -- scope.Mask
      rintro _ _ rfl
      refine AwOps.v hT rfl ?_
      refine AwOps.v hT rfl ?_
      refine AwOps.cl (F162) [] rfl trivial trivial rfl ?_   -- certpathlaw27.awake
      rintro _ _ rfl
      refine AwOps.v hT rfl ?_
      refine AwOps.v hT rfl ?_
      refine AwOps.nil ?_
      refine Aw.ret ?_
      refine ⟨_, [], rfl, trivial, ?_⟩
      exact rfl
    · skip
      refine Aw.skip (Aw.seq (Aw.region ?_))
      refine AwOps.v hT rfl ?_
      refine AwOps.v hT rfl ?_
      refine AwOps.build hT rfl ?_
      refine AwOps.turn (Less.say (t := 29) (B := .agg [.v (.string ⟨#[]⟩), .v (.string ⟨#[]⟩), _, .v (.int .i64 0), .v (.int .i64 0), .v (.int .i64 0), .v (.int .i64 0), .v (.string ⟨#[]⟩), .v (.bool false), .sl (List.map eGn []), .v (.bool false), .v (.bool false), .v (.int .i64 0), .v (.bool false), .sl (List.map ePoint []), .sl (List.map eEnt []), .v (.string ⟨#[]⟩)]) rfl rfl) ?_
      refine AwOps.cl (F163p v1 _ _ hv1 hw1 (by first | exact .inl rfl | exact .inr ⟨_, by assumption, rfl⟩)) [] rfl ⟨⟨rfl, rfl⟩, ⟨rfl, rfl⟩, trivial⟩ trivial rfl ?_   -- scope.Mask
      rintro _ _ rfl
      refine AwOps.v hT rfl ?_
      refine AwOps.v hT rfl ?_
      refine AwOps.cl (F162) [] rfl trivial trivial rfl ?_   -- certpathlaw27.awake
      rintro _ _ rfl
      refine AwOps.v hT rfl ?_
      refine AwOps.v hT rfl ?_
      refine AwOps.nil ?_
      refine Aw.ret ?_
      refine ⟨_, [], rfl, trivial, ?_⟩
      exact rfl
end Go.Proofs.YtbdgmondalkhlaaDoor.Aw
