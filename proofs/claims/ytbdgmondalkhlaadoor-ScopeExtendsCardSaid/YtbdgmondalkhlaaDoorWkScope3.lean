
/- The walks of scope: Points and Mask; program and reference.
   Conditions: none. -/
import Derived.Test.YtbdgmondalkhlaaDoorWkScope2
namespace Go.Proofs.YtbdgmondalkhlaaDoor.Aw
open Go
set_option maxRecDepth 100000
set_option maxHeartbeats 4000000
set_option linter.unusedSimpArgs false
set_option linter.unusedVariables false

-- f186 slices.Clone[[]certpath/api.Point,certpath/api.Point]
theorem F186 (l : List Point) (hl : l.length ≤ 1000000) : FnO Tryd.prog 51 [.one (.p (.sl (l.map ePoint)))] (fun o => o = .row 53 4 (l.map ePoint)) := by
  refine FnO.intro Tryd.func51 (by kernel_rfl) rfl rfl rfl rfl fun C => ?_
  refine Aw.seq (Aw.region ?_)
  refine AwOps.v hT rfl ?_
  refine AwOps.nil (Aw.seq (Aw.seq (Aw.region ?_)))
  refine AwOps.v hT rfl ?_
  refine AwOps.eqn hT rfl ?_
  intro bn4 hn4
  refine AwOps.nil ?_
  refine Aw.tst rfl (fun hb4 => ?_) (fun hb4 => ?_)
  · skip
    have hnil := nil_of_map (hn4 hb4)
    refine Aw.seq (Aw.region ?_)
    refine AwOps.v hT rfl ?_
    refine AwOps.nil ?_
    refine Aw.turn (Tn.own 2 902 53 4 rfl (by decide) (by decide) rfl) ?_
    refine Aw.ret ?_
    exact ⟨902, by decide, .inl ⟨_, _, _, _, rfl, rfl, rfl, by rw [hnil]; rfl⟩⟩
  · skip
    refine Aw.skip (Aw.seq (Aw.region ?_))
    refine AwOps.lit hT rfl ?_
    refine AwOps.v hT rfl ?_
    refine AwOps.appm (xs := []) hT rfl rfl rfl (by first | rfl | (simp; done)) (by first | rfl | (simp; done)) (fun _ => rfl) (by simp only [List.length_nil]; omega) ?_
    refine AwOps.v hT rfl ?_
    refine AwOps.nil ?_
    refine Aw.ret ?_
    exact ⟨7, by decide, .inl ⟨_, _, _, _, rfl, rfl, by simp, rfl⟩⟩
-- f178 certpath/copies.each[certpath/api.Point]
theorem F178 (f : Nat) (l : List Point) (hl : l.length ≤ 1000000) (hf : ∀ x ∈ l, Fn Tryd.prog f [.pv (.agg (ePoint x))] [] (fun r _ => r = .agg (ePoint x))) : Fn Tryd.prog 40 [.pv (.one (.p (.sl (l.map ePoint)))), .pv (sc (.func (.func f) #[] #[]))] [] (fun r _ => r = .one (.p (.sl (l.map ePoint)))) := by
  refine Fn.intro (rs := [.tmp 4]) hT Tryd.func40 (by kernel_rfl) rfl rfl rfl rfl fun C => ?_
  refine Aw.seq (Aw.region ?_)
  refine AwOps.v hT rfl ?_
  refine AwOps.nil (Aw.seq (Aw.region ?_))
  refine AwOps.v hT rfl ?_
  refine AwOps.ed (N := []) (Ed.callO (F186 _ (by omega)) rfl rfl rfl rfl ?_)
  rintro _ rfl
  refine AwOps.v hT rfl ?_
  refine AwOps.nil (Aw.seq (Aw.seq (Aw.region ?_)))
  iterate 3 refine AwOps.v hT rfl ?_
  refine AwOps.nil (Aw.block ?_)
  have hB1 : l.length ≤ maxLen := by unfold maxLen; omega
  refine Aw.lp (ι := Nat) (n := 24) [(0, _), (1, _), (9, _), (10, _)] [] (fun gq => [(11, sc (.int .i64 gq))]) (fun gq => [(8, .row 53 4 true (List.map ePoint l))]) (fun gq => gq ≤ l.length ∧ (True)) (fun gq => l.length - gq) (0) ?ok1 (Less.tn ⟨rfl, ⟨rfl, rfl, rfl, rfl, rfl, trivial⟩, ⟨rfl, trivial⟩⟩) ?bd1
  case ok1 =>
    try dsimp only
    exact ⟨Nat.zero_le _, trivial⟩
  case bd1 =>
    intro i1 hi1
    try dsimp only at hi1
    show Aw _ _ _ ⟨24, [(11, sc (.int .i64 i1))] ++ [(0, _), (1, _), (9, _), (10, _)], [(8, .row 53 4 true (List.map ePoint l))] ++ []⟩ _
    refine Aw.seq (Aw.region ?_)
    refine AwOps.v hT rfl ?_
    refine AwOps.nil (Aw.seq ?_)
    refine Aw.tst rfl (fun hb12 => ?_) (fun hb12 => ?_)
    · skip
      have hlt1 : i1 < l.length := by simpa using hb12
      refine Aw.skip (Aw.seq (Aw.block (Aw.seq (Aw.region ?_))))
      refine AwOps.v hT rfl ?_
      refine AwOps.idxo hT rfl rfl (by first | omega | (simp only [w64] at *; omega) | (simp [w64] at *; omega)) (by first | omega | (simp only [List.length_cons, List.length_nil, List.length_map]; omega) | (simp only [List.length_cons, List.length_nil, List.length_map, w64] at *; omega) | (simp [w64] at *; omega)) ?_
      refine AwOps.ldo hT rfl rfl (ePoint l[i1]) (ldm hlt1) rfl ?_
      refine AwOps.eff hT rfl ?_
      refine AwOps.v hT rfl ?_
      refine AwOps.eff hT rfl ?_
      refine AwOps.nil (Aw.region ?_)
      iterate 4 refine AwOps.v hT rfl ?_
      refine AwOps.cl (hf _ (List.getElem_mem hlt1)) [] rfl ⟨⟨rfl, rfl⟩, trivial⟩ trivial rfl ?_   -- fv
      rintro _ _ rfl
      refine AwOps.idxo hT rfl rfl (by first | omega | (simp only [w64] at *; omega) | (simp [w64] at *; omega)) (by first | omega | (simp only [List.length_cons, List.length_nil, List.length_map]; omega) | (simp only [List.length_cons, List.length_nil, List.length_map, w64] at *; omega) | (simp [w64] at *; omega)) ?_
      refine AwOps.sto hT rfl rfl _ (ldm hlt1) (Nat.le_refl _) ?_
      refine AwOps.turn (Tn.sayH (b := 8) rfl (rowset (f := ePoint))) ?_
      refine AwOps.nil (Aw.region ?_)
      refine AwOps.v hT rfl ?_
      refine AwOps.v hT rfl ?_
      refine AwOps.nil ?_
      refine ⟨(i1 + 1), ?nx1, ?mu1, Less.tn ⟨rfl, ⟨incS hlt1 hB1, rfl, rfl, rfl, rfl, trivial⟩, ⟨(rowself hlt1), trivial⟩⟩⟩
      case nx1 =>
        try dsimp only
        first | exact ⟨hlt1, trivial⟩ | trivial
      case mu1 =>
        try dsimp only
        first | omega | (simp only [w64] at *; omega) | (simp [w64] at *; omega)
    · skip
      refine Aw.exit (Aw.seq (Aw.region ?_))
      refine AwOps.v hT rfl ?_
      refine AwOps.v hT rfl ?_
      refine AwOps.nil ?_
      refine Aw.turn (Tn.fz 4 rfl rfl (by first | rfl | (simp; done)) rfl) ?_
      refine Aw.ret ?_
      refine ⟨_, [], rfl, trivial, ?_⟩
      exact rfl
-- f179 certpath/copies.Point
theorem F179 (p : Point) (h : okPt p) : Fn Tryd.prog 41 [.pv (.agg (ePoint p))] [] (fun r _ => r = .agg (ePoint p)) := by
  refine Fn.intro (rs := [.cell 2 53]) hT Tryd.func41 (by kernel_rfl) rfl rfl rfl rfl fun C => ?_
  refine Aw.seq (Aw.region ?_)
  refine AwOps.eff hT rfl ?_
  refine AwOps.eff hT rfl ?_
  refine AwOps.nil (Aw.seq ?_)
  refine Aw.regionAny [1] (by kernel_rfl) ?_
  refine AwAny.tk (i := 0) (Yd.val hT rfl rfl) (by kernel_rfl) ?_
  refine AwAny.tk (i := 3) (Yd.val hT rfl rfl) (by kernel_rfl) ?_
  refine AwAny.two (i := 1) (j := 4) (by kernel_rfl) ?_ ?_
  · skip
    refine Yd.ed (Yd.val hT rfl rfl) ?_
    refine AwAny.two (i := 2) (j := 4) (by kernel_rfl) ?_ ?_
    · skip
      refine Ed.cl (F87 p.names (Nat.le_trans h.1.1 (by decide)) (fun x hx => (h.1.2 x hx).2)) [] rfl ⟨⟨rfl, rfl⟩, trivial⟩ trivial rfl rfl ?_   -- copies.GeneralNames
      rintro _ _ rfl
      refine AwAny.one (i := 4) (by kernel_rfl) ?_
      refine Yd.ed (Yd.val hT rfl rfl) ?_
      refine AwAny.tk (i := 6) (Yd.val hT rfl rfl) (by kernel_rfl) ?_
      refine AwAny.one (i := 5) (by kernel_rfl) ?_
      refine Ed.cl (F39 p.issuer h.2) [] rfl ⟨⟨rfl, rfl⟩, trivial⟩ trivial rfl rfl ?_   -- copies.Name
      rintro _ _ rfl
      refine AwAny.one (i := 7) (by kernel_rfl) ?_
      refine Ed.eff hT rfl (fun b hb => by injection hb with hb; subst hb; decide) ?_
      refine AwAny.tk (i := 8) (Yd.val hT rfl rfl) (by kernel_rfl) ?_
      refine AwAny.one (i := 9) (by kernel_rfl) ?_
      refine Ed.eff hT rfl (fun b hb => by injection hb with hb; subst hb; decide) ?_
      refine AwAny.done (by kernel_rfl) ?_
      refine Aw.seq (Aw.region ?_)
      refine AwOps.v hT rfl ?_
      refine AwOps.eff hT rfl ?_
      refine AwOps.nil ?_
      refine Aw.ret ?_
      refine ⟨_, [], rfl, trivial, ?_⟩
      exact rfl
    · skip
      refine Yd.ed (Yd.val hT rfl rfl) ?_
      refine AwAny.one (i := 2) (by kernel_rfl) ?_
      refine Ed.cl (F87 p.names (Nat.le_trans h.1.1 (by decide)) (fun x hx => (h.1.2 x hx).2)) [] rfl ⟨⟨rfl, rfl⟩, trivial⟩ trivial rfl rfl ?_   -- copies.GeneralNames
      rintro _ _ rfl
      refine AwAny.tk (i := 6) (Yd.val hT rfl rfl) (by kernel_rfl) ?_
      refine AwAny.one (i := 5) (by kernel_rfl) ?_
      refine Ed.cl (F39 p.issuer h.2) [] rfl ⟨⟨rfl, rfl⟩, trivial⟩ trivial rfl rfl ?_   -- copies.Name
      rintro _ _ rfl
      refine AwAny.one (i := 7) (by kernel_rfl) ?_
      refine Ed.eff hT rfl (fun b hb => by injection hb with hb; subst hb; decide) ?_
      refine AwAny.tk (i := 8) (Yd.val hT rfl rfl) (by kernel_rfl) ?_
      refine AwAny.one (i := 9) (by kernel_rfl) ?_
      refine Ed.eff hT rfl (fun b hb => by injection hb with hb; subst hb; decide) ?_
      refine AwAny.done (by kernel_rfl) ?_
      refine Aw.seq (Aw.region ?_)
      refine AwOps.v hT rfl ?_
      refine AwOps.eff hT rfl ?_
      refine AwOps.nil ?_
      refine Aw.ret ?_
      refine ⟨_, [], rfl, trivial, ?_⟩
      exact rfl
  · skip
    refine Yd.ed (Yd.val hT rfl rfl) ?_
    refine AwAny.one (i := 1) (by kernel_rfl) ?_
    refine Yd.ed (Yd.val hT rfl rfl) ?_
    refine AwAny.one (i := 2) (by kernel_rfl) ?_
    refine Ed.cl (F87 p.names (Nat.le_trans h.1.1 (by decide)) (fun x hx => (h.1.2 x hx).2)) [] rfl ⟨⟨rfl, rfl⟩, trivial⟩ trivial rfl rfl ?_   -- copies.GeneralNames
    rintro _ _ rfl
    refine AwAny.tk (i := 6) (Yd.val hT rfl rfl) (by kernel_rfl) ?_
    refine AwAny.one (i := 5) (by kernel_rfl) ?_
    refine Ed.cl (F39 p.issuer h.2) [] rfl ⟨⟨rfl, rfl⟩, trivial⟩ trivial rfl rfl ?_   -- copies.Name
    rintro _ _ rfl
    refine AwAny.one (i := 7) (by kernel_rfl) ?_
    refine Ed.eff hT rfl (fun b hb => by injection hb with hb; subst hb; decide) ?_
    refine AwAny.tk (i := 8) (Yd.val hT rfl rfl) (by kernel_rfl) ?_
    refine AwAny.one (i := 9) (by kernel_rfl) ?_
    refine Ed.eff hT rfl (fun b hb => by injection hb with hb; subst hb; decide) ?_
    refine AwAny.done (by kernel_rfl) ?_
    refine Aw.seq (Aw.region ?_)
    refine AwOps.v hT rfl ?_
    refine AwOps.eff hT rfl ?_
    refine AwOps.nil ?_
    refine Aw.ret ?_
    refine ⟨_, [], rfl, trivial, ?_⟩
    exact rfl
-- f168 certpath/copies.Points
theorem F168 (l : List Point) (hl : l.length ≤ 1000000) (hk : ∀ x ∈ l, okPt x) : Fn Tryd.prog 24 [.pv (.one (.p (.sl (l.map ePoint))))] [] (fun r _ => r = .one (.p (.sl (l.map ePoint)))) := by
  refine Fn.intro (rs := [.tmp 2]) hT Tryd.func24 (by kernel_rfl) rfl rfl rfl rfl fun C => ?_
  refine Aw.seq (Aw.region ?_)
  refine AwOps.v hT rfl ?_
  refine AwOps.nil (Aw.seq (Aw.region ?_))
  refine AwOps.v hT rfl ?_
  refine AwOps.cl (F178 41 l (by omega) (fun x hx => F179 x (hk x hx))) [] rfl ⟨⟨rfl, rfl⟩, ⟨rfl, rfl⟩, trivial⟩ trivial rfl ?_   -- api.Point]
  rintro _ _ rfl
  refine AwOps.v hT rfl ?_
  refine AwOps.nil ?_
  refine Aw.ret ?_
  refine ⟨_, [], rfl, trivial, ?_⟩
  exact rfl
def zPt : Point := ⟨[], 0, false, []⟩
def ptsS (c : Cert) : List Point := if c.info.points.length == 0 then [zPt] else c.info.points
theorem okPt_z : okPt zPt := ⟨okGs_nil, okNm_nil⟩
theorem pts_ok {c : Cert} (h : okPts c.info.points) : okPts (ptsS c) := by
  unfold ptsS
  split
  · exact ⟨by simp, fun p hp => by rw [List.mem_singleton.1 hp]; exact okPt_z⟩
  · exact h
theorem pts_nil {c : Cert} (h : (c.info.points.length == 0) = true) : AV.one (.p (.sl (List.map ePoint [zPt]))) = AV.one (.p (.sl ((ptsS c).map ePoint))) := by simp only [ptsS, h, if_true]
theorem pts_all {c : Cert} (h : (c.info.points.length == 0) = false) : AV.one (.p (.sl (List.map ePoint c.info.points))) = AV.one (.p (.sl ((ptsS c).map ePoint))) := by simp only [ptsS, h, Bool.false_eq_true, if_false]
def maskS (c : Cert) (l : CList) : Int := (ptsS c).foldl (fun m p => bor m (covS c p l).1) 0
theorem fold_take {α : Type} {f : Int → α → Int} {l : List α} {i : Nat} (h : i < l.length) {z x : Int} (hx : x = (l.take i).foldl f z) : f x l[i] = (l.take (i + 1)).foldl f z := by rw [List.take_succ_eq_append_getElem h, List.foldl_append, ← hx]; rfl
theorem fold_full {α : Type} {f : Int → α → Int} {l : List α} {i : Nat} {z x : Int} (hx : x = (l.take i).foldl f z) (hi : ¬ ((i : Int) < (l.length : Nat))) : x = l.foldl f z := by rw [List.take_of_length_le (by omega)] at hx; exact hx
-- f158 certpath/scope.Points
theorem F158 (c : Cert) (hc : okPts c.info.points) : Fn Tryd.prog 10 [.pv (.agg (eCert c))] [] (fun r _ => r = .one (.p (.sl ((ptsS c).map ePoint)))) := by
  refine Fn.intro (rs := [.tmp 2]) hT Tryd.func10 (by kernel_rfl) rfl rfl rfl rfl fun C => ?_
  refine Aw.seq (Aw.region ?_)
  refine AwOps.eff hT rfl ?_
  refine AwOps.v hT rfl ?_
  refine AwOps.nil (Aw.seq (Aw.seq (Aw.region ?_)))
  iterate 5 refine AwOps.v hT rfl ?_
  refine AwOps.nil ?_
  refine Aw.tst rfl (fun hb7 => ?_) (fun hb7 => ?_)
  · skip
    refine Aw.seq (Aw.region ?_)
    refine AwOps.mk1 hT rfl (by decide) ?_
    refine AwOps.turn (Tn.sayH (b := 8) (B := .row 53 4 true (List.map ePoint [⟨[], 0, false, []⟩])) rfl rfl) ?_
    refine AwOps.v hT rfl ?_
    refine AwOps.nil ?_
    refine Aw.turn (Tn.fz 2 rfl rfl (by first | rfl | (simp; done)) rfl) ?_
    refine Aw.ret ?_
    refine ⟨_, [], rfl, trivial, ?_⟩
    exact pts_nil (by simpa using hb7)
  · skip
    refine Aw.skip (Aw.seq (Aw.region ?_))
    iterate 3 refine AwOps.v hT rfl ?_
    refine AwOps.cl (F168 c.info.points (Nat.le_trans hc.1 (by decide)) hc.2) [] rfl ⟨⟨rfl, rfl⟩, trivial⟩ trivial rfl ?_   -- copies.Points
    rintro _ _ rfl
    refine AwOps.v hT rfl ?_
    refine AwOps.nil ?_
    refine Aw.ret ?_
    refine ⟨_, [], rfl, trivial, ?_⟩
    exact pts_all (by simp at hb7; simpa using hb7)
-- f159 certpath/certpathref26.Points
theorem F159 (c : Cert) (hc : okPts c.info.points) : Fn Tryd.prog 11 [.pv (.agg (eCert c))] [] (fun r _ => r = .one (.p (.sl ((ptsS c).map ePoint)))) := by
  refine Fn.intro (rs := [.tmp 2]) hT Tryd.func11 (by kernel_rfl) rfl rfl rfl rfl fun C => ?_
  refine Aw.seq (Aw.region ?_)
  refine AwOps.eff hT rfl ?_
  refine AwOps.v hT rfl ?_
  refine AwOps.nil (Aw.seq (Aw.seq (Aw.region ?_)))
  iterate 5 refine AwOps.v hT rfl ?_
  refine AwOps.nil ?_
  refine Aw.tst rfl (fun hb7 => ?_) (fun hb7 => ?_)
  · skip
    refine Aw.seq (Aw.region ?_)
    refine AwOps.build hT rfl ?_
    refine AwOps.turn (Less.say (t := 8) (B := .agg [.sl (List.map eGn []), .v (.int .i64 0), .v (.bool false), .sl (List.map eRdn [])]) rfl rfl) ?_
    refine AwOps.lit hT rfl ?_
    refine AwOps.turn (Tn.fz 9 rfl rfl (by first | rfl | (simp; done)) rfl) ?_
    refine AwOps.turn (Less.say (t := 9) (B := .one (.p (.sl (List.map ePoint [⟨_, _, _, _⟩])))) rfl rfl) ?_
    refine AwOps.v hT rfl ?_
    refine AwOps.nil ?_
    refine Aw.ret ?_
    refine ⟨_, [], rfl, trivial, ?_⟩
    exact pts_nil (by simpa using hb7)
  · skip
    refine Aw.skip (Aw.seq (Aw.region ?_))
    iterate 4 refine AwOps.v hT rfl ?_
    refine AwOps.nil ?_
    refine Aw.ret ?_
    refine ⟨_, [], rfl, trivial, ?_⟩
    exact pts_all (by simp at hb7; simpa using hb7)
-- f163 certpath/scope.Mask
theorem F163 (c : Cert) (l : CList) (hc : okNm c.issuer) (hp : okPts c.info.points) (hl : okCL l) : Fn Tryd.prog 15 [.pv (.agg (eCert c)), .pv (.agg (eCL l))] [] (fun r _ => r = sc (.int .i64 (maskS c l))) := by
  refine Fn.intro (rs := [.tmp 4]) hT Tryd.func15 (by kernel_rfl) rfl rfl rfl rfl fun C => ?_
  have hps := pts_ok hp
  refine Aw.seq (Aw.region ?_)
  refine AwOps.eff hT rfl ?_
  refine AwOps.eff hT rfl ?_
  refine AwOps.v hT rfl ?_
  refine AwOps.nil (Aw.seq (Aw.region ?_))
  refine AwOps.v hT rfl ?_
  refine AwOps.nil (Aw.seq (Aw.seq (Aw.region ?_)))
  refine AwOps.v hT rfl ?_
  refine AwOps.cl (F158 _ (by assumption)) [] rfl ⟨⟨rfl, rfl⟩, trivial⟩ trivial rfl ?_   -- scope.Points
  rintro _ _ rfl
  refine AwOps.v hT rfl ?_
  refine AwOps.v hT rfl ?_
  refine AwOps.nil (Aw.block ?_)
  have hB1 : (ptsS c).length ≤ maxLen := by have := hps.1; unfold maxLen; omega
  refine Aw.lp (ι := Int × Nat) (n := 29) [(2, _), (3, _), (11, _), (12, _)] [(2, _), (3, _)] (fun gq => [(5, sc (.int .i64 gq.1)), (13, sc (.int .i64 gq.2))]) (fun gq => []) (fun gq => gq.2 ≤ (ptsS c).length ∧ (gq.1 = ((ptsS c).take gq.2).foldl (fun m p => bor m (covS c p l).1) 0)) (fun gq => (ptsS c).length - gq.2) (_, 0) ?ok1 (Less.tn ⟨rfl, ⟨rfl, rfl, rfl, rfl, rfl, rfl, trivial⟩, ⟨rfl, rfl, trivial⟩⟩) ?bd1
  case ok1 =>
    try dsimp only
    exact ⟨Nat.zero_le _, rfl⟩
  case bd1 =>
    rintro ⟨k5, i1⟩ hi1
    try dsimp only at hi1
    show Aw _ _ _ ⟨29, [(5, sc (.int .i64 k5)), (13, sc (.int .i64 i1))] ++ [(2, _), (3, _), (11, _), (12, _)], [] ++ [(2, _), (3, _)]⟩ _
    refine Aw.seq (Aw.region ?_)
    refine AwOps.v hT rfl ?_
    refine AwOps.nil (Aw.seq ?_)
    refine Aw.tst rfl (fun hb14 => ?_) (fun hb14 => ?_)
    · skip
      have hlt1 : i1 < (ptsS c).length := by simpa using hb14
      refine Aw.skip (Aw.seq (Aw.block (Aw.seq (Aw.region ?_))))
      refine AwOps.im hT rfl hlt1 rfl ?_
      refine AwOps.v hT rfl ?_
      refine AwOps.eff hT rfl ?_
      refine AwOps.eff hT rfl ?_
      refine AwOps.nil (Aw.seq (Aw.region ?_))
      iterate 3 refine AwOps.v hT rfl ?_
      refine AwOps.cl (F160 c (ptsS c)[i1] l hc (hps.2 _ (List.getElem_mem hlt1)) hl) [] rfl ⟨⟨rfl, rfl⟩, ⟨rfl, rfl⟩, ⟨rfl, rfl⟩, trivial⟩ trivial rfl ?_   -- scope.Covers
      rintro _ _ rfl
      iterate 5 refine AwOps.v hT rfl ?_
      refine AwOps.nil (Aw.region ?_)
      refine AwOps.v hT rfl ?_
      refine AwOps.v hT rfl ?_
      refine AwOps.bin rfl _ rfl bor_run ?_
      refine AwOps.v hT rfl ?_
      refine AwOps.nil (Aw.region ?_)
      refine AwOps.v hT rfl ?_
      refine AwOps.v hT rfl ?_
      refine AwOps.nil ?_
      refine ⟨(_, i1 + 1), ?nx1, ?mu1, Less.tn ⟨rfl, ⟨rfl, incS hlt1 hB1, rfl, rfl, rfl, rfl, trivial⟩, ⟨rfl, rfl, trivial⟩⟩⟩
      case nx1 =>
        try dsimp only
        exact ⟨hlt1, fold_take hlt1 hi1.2⟩
      case mu1 =>
        try dsimp only
        first | omega | (simp only [w64] at *; omega) | (simp [w64] at *; omega)
    · skip
      refine Aw.exit (Aw.seq (Aw.region ?_))
      refine AwOps.v hT rfl ?_
      refine AwOps.v hT rfl ?_
      refine AwOps.nil ?_
      refine Aw.ret ?_
      refine ⟨_, [], rfl, trivial, ?_⟩
      exact congrArg (fun x => sc (.int .i64 x)) (fold_full hi1.2 (by simpa using hb14))
-- f164 certpath/certpathref26.Mask
theorem F164 (c : Cert) (l : CList) (hc : okNm c.issuer) (hp : okPts c.info.points) (hl : okCL l) : Fn Tryd.prog 16 [.pv (.agg (eCert c)), .pv (.agg (eCL l))] [] (fun r _ => r = sc (.int .i64 (maskS c l))) := by
  refine Fn.intro (rs := [.tmp 4]) hT Tryd.func16 (by kernel_rfl) rfl rfl rfl rfl fun C => ?_
  have hps := pts_ok hp
  refine Aw.seq (Aw.region ?_)
  refine AwOps.eff hT rfl ?_
  refine AwOps.eff hT rfl ?_
  refine AwOps.v hT rfl ?_
  refine AwOps.nil (Aw.seq (Aw.region ?_))
  refine AwOps.v hT rfl ?_
  refine AwOps.cl (F159 _ (by assumption)) [] rfl ⟨⟨rfl, rfl⟩, trivial⟩ trivial rfl ?_   -- certpathref26.Points
  rintro _ _ rfl
  refine AwOps.v hT rfl ?_
  refine AwOps.nil (Aw.seq (Aw.region ?_))
  refine AwOps.v hT rfl ?_
  refine AwOps.nil (Aw.seq (Aw.seq (Aw.region ?_)))
  refine AwOps.v hT rfl ?_
  refine AwOps.nil (Aw.block ?_)
  have hB1 : (ptsS c).length ≤ maxLen := by have := hps.1; unfold maxLen; omega
  refine Aw.lp (ι := Int × Nat) (n := 32) [(2, _), (3, _), (5, _)] [(2, _), (3, _)] (fun gq => [(6, sc (.int .i64 gq.1)), (7, sc (.int .i64 gq.2))]) (fun gq => []) (fun gq => gq.2 ≤ (ptsS c).length ∧ (gq.1 = ((ptsS c).take gq.2).foldl (fun m p => bor m (covS c p l).1) 0)) (fun gq => (ptsS c).length - gq.2) (_, 0) ?ok1 (Less.tn ⟨rfl, ⟨rfl, rfl, rfl, rfl, rfl, trivial⟩, ⟨rfl, rfl, trivial⟩⟩) ?bd1
  case ok1 =>
    try dsimp only
    exact ⟨Nat.zero_le _, rfl⟩
  case bd1 =>
    rintro ⟨k6, i1⟩ hi1
    try dsimp only at hi1
    show Aw _ _ _ ⟨32, [(6, sc (.int .i64 k6)), (7, sc (.int .i64 i1))] ++ [(2, _), (3, _), (5, _)], [] ++ [(2, _), (3, _)]⟩ _
    refine Aw.seq (Aw.seq (Aw.region ?_))
    iterate 4 refine AwOps.v hT rfl ?_
    refine AwOps.nil ?_
    refine Aw.tst rfl (fun hb15 => ?_) (fun hb15 => ?_)
    · skip
      have hlt1 : i1 < (ptsS c).length := by simpa using hb15
      refine Aw.skip (Aw.seq (Aw.block (Aw.seq ?_)))
      refine Aw.regionS [] [(true, 0), (true, 1), (true, 2), (true, 3), (true, 4), (true, 5), (false, 6), (true, 7), (true, 8), (true, 9), (true, 10), (true, 11)] (by kernel_rfl) (by kernel_rfl) ?_
      iterate 3 refine AwSch.take (Yd.val hT rfl rfl) ?_
      refine AwSch.take (Yd.im hT rfl hlt1 rfl) ?_
      refine AwSch.take (Yd.val hT rfl rfl) ?_
      refine AwSch.take (Yd.val hT rfl rfl) ?_
      refine AwSch.one ?_
      refine Ed.cl (F161 c (ptsS c)[i1] l hc (hps.2 _ (List.getElem_mem hlt1)) hl) [] rfl ⟨⟨rfl, rfl⟩, ⟨rfl, rfl⟩, ⟨rfl, rfl⟩, trivial⟩ trivial rfl rfl ?_   -- certpathref26.Covers
      rintro _ _ rfl
      iterate 5 refine AwSch.take (Yd.val hT rfl rfl) ?_
      refine AwSch.nil (Aw.region ?_)
      refine AwOps.v hT rfl ?_
      refine AwOps.v hT rfl ?_
      refine AwOps.bin rfl _ rfl bor_run ?_
      refine AwOps.v hT rfl ?_
      refine AwOps.nil (Aw.region ?_)
      iterate 3 refine AwOps.v hT rfl ?_
      refine AwOps.nil ?_
      refine ⟨(_, i1 + 1), ?nx1, ?mu1, Less.tn ⟨rfl, ⟨rfl, incS hlt1 hB1, rfl, rfl, rfl, trivial⟩, ⟨rfl, rfl, trivial⟩⟩⟩
      case nx1 =>
        try dsimp only
        exact ⟨hlt1, fold_take hlt1 hi1.2⟩
      case mu1 =>
        try dsimp only
        first | omega | (simp only [w64] at *; omega) | (simp [w64] at *; omega)
    · skip
      refine Aw.exit (Aw.seq (Aw.region ?_))
      refine AwOps.v hT rfl ?_
      refine AwOps.v hT rfl ?_
      refine AwOps.nil ?_
      refine Aw.ret ?_
      refine ⟨_, [], rfl, trivial, ?_⟩
      exact congrArg (fun x => sc (.int .i64 x)) (fold_full hi1.2 (by simpa using hb15))
end Go.Proofs.YtbdgmondalkhlaaDoor.Aw
