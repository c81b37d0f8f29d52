
/- The walks of the laws on scopes: what stays awake, and the reasons that meet.
   Conditions: none. -/
import Derived.Test.YtbdgmondalkhlaaDoorWkScope3
namespace Go.Proofs.YtbdgmondalkhlaaDoor.Aw
open Go
set_option maxRecDepth 100000
set_option maxHeartbeats 4000000
set_option linter.unusedSimpArgs false
set_option linter.unusedVariables false

def cI (i : Int) : Cert := { (⟨⟨#[]⟩, ⟨#[]⟩, 0, [], [], 0, 0, ⟨0, ⟨#[]⟩, ⟨#[]⟩⟩, ⟨false, false, 0, 0, [], [], [], 0, 0, 0, [], false, ⟨[], []⟩, ⟨#[]⟩, ⟨#[]⟩, [], [], []⟩, ⟨#[]⟩⟩ : Cert) with issuer := authS i }
def cC (i : Int) : Cert := { (⟨⟨#[]⟩, ⟨#[]⟩, 0, [], [], 0, 0, ⟨0, ⟨#[]⟩, ⟨#[]⟩⟩, ⟨false, false, 0, 0, [], [], [], 0, 0, 0, [], false, ⟨[], []⟩, ⟨#[]⟩, ⟨#[]⟩, [], [], []⟩, ⟨#[]⟩⟩ : Cert) with issuer := authS i, info := { (⟨false, false, 0, 0, [], [], [], 0, 0, 0, [], false, ⟨[], []⟩, ⟨#[]⟩, ⟨#[]⟩, [], [], []⟩ : Info) with ca := true } }
def zScp : Scp := ⟨[], false, false, 0, false⟩
def lI (i : Int) : CList := { (⟨⟨#[]⟩, ⟨#[]⟩, [], 0, 0, 0, 0, ⟨#[]⟩, false, ⟨[], false, false, 0, false⟩, [], [], ⟨#[]⟩⟩ : CList) with issuer := authS i }
def lS (i : Int) (s : Scp) : CList := { (⟨⟨#[]⟩, ⟨#[]⟩, [], 0, 0, 0, 0, ⟨#[]⟩, false, ⟨[], false, false, 0, false⟩, [], [], ⟨#[]⟩⟩ : CList) with issuer := authS i, hasScope := true, scope := s }
theorem okCL_lI (i : Int) : okCL (lI i) := ⟨okNm_auth i, okGs_nil⟩
theorem okCL_lS {i : Int} {s : Scp} (h : okGs s.names) : okCL (lS i s) := ⟨okNm_auth i, h⟩
theorem okPt_a (i : Int) : okPt ⟨[], 0, true, authS i⟩ := ⟨okGs_nil, okNm_auth i⟩
theorem F160k (c : Cert) (p : Point) (l : CList) (a b : Int) (h : covS c p l = (a, b)) (hc : okNm c.issuer) (hp : okPt p) (hl : okCL l) : Fn Tryd.prog 12 [.pv (.agg (eCert c)), .pv (.agg (ePoint p)), .pv (.agg (eCL l))] [] (fun r _ => r = .tup [.one (.p (.v (.int .i64 a))), .one (.p (.v (.int .i64 b)))]) := by
  have := F160 c p l hc hp hl
  rw [h] at this
  exact this
def lW : CList := { (⟨⟨#[]⟩, ⟨#[]⟩, [], 0, 0, 0, 0, ⟨#[]⟩, false, ⟨[], false, false, 0, false⟩, [], [], ⟨#[]⟩⟩ : CList) with since := 3, until' := 4 }
-- f175 certpath/scope.Current
theorem F175 (l : CList) (n : Int) : Fn Tryd.prog 33 [.pv (.agg (eCL l)), .pv (sc (.int .i64 n))] [] (fun r _ => r = sc (.bool (decide (l.since ≤ n) && decide (n ≤ l.until')))) := by
  refine Fn.intro (rs := [.tmp 4]) hT Tryd.func33 (by kernel_rfl) rfl rfl rfl rfl fun C => ?_
  refine Aw.seq (Aw.region ?_)
  refine AwOps.eff hT rfl ?_
  refine AwOps.v hT rfl ?_
  refine AwOps.nil (Aw.seq (Aw.region ?_))
  iterate 5 refine AwOps.v hT rfl ?_
  refine AwOps.split (t := 9) rfl (fun hb9 => ?_) (fun hb9 => ?_)
  · skip
    iterate 6 refine AwOps.v hT rfl ?_
    refine AwOps.nil ?_
    refine Aw.ret ?_
    refine ⟨_, [], rfl, trivial, ?_⟩
    exact scb (by simp only [show (decide (l.since ≤ n)) = true from hb9, Bool.true_and, Bool.false_and, Bool.true_or, Bool.false_or, Bool.or_true, Bool.and_true, Bool.or_false, Bool.and_false, Bool.not_true, Bool.not_false] <;> first | done | rfl | (simp; done))
  · skip
    iterate 6 refine AwOps.v hT rfl ?_
    refine AwOps.nil ?_
    refine Aw.ret ?_
    refine ⟨_, [], rfl, trivial, ?_⟩
    exact scb (by simp only [show (decide (l.since ≤ n)) = false from hb9, Bool.true_and, Bool.false_and, Bool.true_or, Bool.false_or, Bool.or_true, Bool.and_true, Bool.or_false, Bool.and_false, Bool.not_true, Bool.not_false] <;> first | done | rfl | (simp; done))
-- f162 certpath/certpathlaw27.awake
theorem F162 : Fn Tryd.prog 14 [] [] (fun r _ => r = sc (.bool (true))) := by
  refine Fn.intro (rs := [.tmp 0]) hT Tryd.func14 (by kernel_rfl) rfl rfl rfl rfl fun C => ?_
  refine Aw.seq (Aw.region ?_)
  refine AwOps.v hT rfl ?_
  refine AwOps.nil (Aw.seq (Aw.region ?_))
  refine AwOps.cl (F25 _ (by first | omega | (simp only [w64] at *; omega) | (simp [w64] at *; omega))) [] rfl ⟨⟨rfl, rfl⟩, trivial⟩ trivial rfl ?_   -- certpathmade.Authority
  rintro _ _ rfl
  refine AwOps.cl (F25 _ (by first | omega | (simp only [w64] at *; omega) | (simp [w64] at *; omega))) [] rfl ⟨⟨rfl, rfl⟩, trivial⟩ trivial rfl ?_   -- certpathmade.Authority
  rintro _ _ rfl
  iterate 4 refine AwOps.eff hT rfl ?_
  refine AwOps.nil (Aw.seq (Aw.region ?_))
  refine AwOps.v hT rfl ?_
  refine AwOps.build hT rfl ?_
  refine AwOps.turn (Less.say (t := 13) (B := .agg [.v (.bool false), _, .v (.int .i64 0), .v (.int .i64 0), .sl (List.map eStr []), .sl (List.map eStr []), .sl (List.map eMapp []), .v (.int .i64 0), .v (.int .i64 0), .v (.int .i64 0), .sl (List.map eGn []), .v (.bool false), .sl (List.map eGn []), .sl (List.map eGn []), .v (.string ⟨#[]⟩), .v (.string ⟨#[]⟩), .sl (List.map ePoint []), .sl (List.map ePoint []), .sl (List.map eExt [])]) rfl rfl) ?_
  refine AwOps.build hT rfl ?_
  refine AwOps.turn (Less.say (t := 14) (B := .agg [.v (.string ⟨#[]⟩), .v (.string ⟨#[]⟩), .v (.int .i64 0), _, .sl (List.map eRdn []), .v (.int .i64 0), .v (.int .i64 0), .v (.int .i64 0), .v (.string ⟨#[]⟩), .v (.string ⟨#[]⟩), _, _, _, _, _, _, _, _, _, _, _, _, _, _, _, _, _, _, _, .v (.string ⟨#[]⟩)]) rfl rfl) ?_
  refine AwOps.eff hT rfl ?_
  refine AwOps.eff hT rfl ?_
  refine AwOps.nil (Aw.seq ?_)
  refine Aw.regionS [] [(true, 0), (true, 1), (false, 2), (true, 3), (false, 4), (true, 5), (true, 6), (true, 7), (true, 8), (true, 9)] (by kernel_rfl) (by kernel_rfl) ?_
  refine AwSch.take (Yd.val hT rfl rfl) ?_
  refine AwSch.take (Yd.build hT rfl) ?_
  refine AwSch.say (t := 17) (B := .agg [.sl (List.map eGn []), .v (.int .i64 0), .v (.bool false), .sl (List.map eRdn [])]) rfl rfl ?_
  refine AwSch.one ?_
  refine Ed.cl (F25 _ (by first | omega | (simp only [w64] at *; omega) | (simp [w64] at *; omega))) [] rfl ⟨⟨rfl, rfl⟩, trivial⟩ trivial rfl rfl ?_   -- certpathmade.Authority
  rintro _ _ rfl
  refine AwSch.take (Yd.build hT rfl) ?_
  refine AwSch.say (t := 19) (B := .agg [.v (.string ⟨#[]⟩), .v (.string ⟨#[]⟩), _, .v (.int .i64 0), .v (.int .i64 0), .v (.int .i64 0), .v (.int .i64 0), .v (.string ⟨#[]⟩), .v (.bool false), .sl (List.map eGn []), .v (.bool false), .v (.bool false), .v (.int .i64 0), .v (.bool false), .sl (List.map ePoint []), .sl (List.map eEnt []), .v (.string ⟨#[]⟩)]) rfl rfl ?_
  refine AwSch.one ?_
  refine Ed.cl (F160k (cC 0) zPt (lI 8) 510 0 (by kernel_rfl) (okNm_auth _) okPt_z (okCL_lI _)) [] rfl ⟨⟨rfl, rfl⟩, ⟨rfl, rfl⟩, ⟨rfl, rfl⟩, trivial⟩ trivial rfl rfl ?_   -- scope.Covers
  rintro _ _ rfl
  iterate 5 refine AwSch.take (Yd.val hT rfl rfl) ?_
  refine AwSch.nil (Aw.seq (Aw.region ?_))
  refine AwOps.v hT rfl ?_
  refine AwOps.build hT rfl ?_
  refine AwOps.turn (Less.say (t := 25) (B := .agg [.sl (List.map eGn []), .v (.int .i64 0), .v (.bool false), .sl (List.map eRdn [])]) rfl rfl) ?_
  refine AwOps.v hT rfl ?_
  refine AwOps.build hT rfl ?_
  refine AwOps.turn (Less.say (t := 27) (B := .agg [.sl (List.map eGn []), _, .v (.bool false), .v (.int .i64 0), .v (.bool false)]) rfl rfl) ?_
  refine AwOps.build hT rfl ?_
  refine AwOps.turn (Less.say (t := 28) (B := .agg [.v (.string ⟨#[]⟩), .v (.string ⟨#[]⟩), _, .v (.int .i64 0), .v (.int .i64 0), .v (.int .i64 0), .v (.int .i64 0), .v (.string ⟨#[]⟩), _, _, _, _, _, _, .sl (List.map ePoint []), .sl (List.map eEnt []), .v (.string ⟨#[]⟩)]) rfl rfl) ?_
  refine AwOps.cl (F160k (cC 0) zPt (lS 0 { zScp with onlyUser := true }) 0 29 (by kernel_rfl) (okNm_auth _) okPt_z (okCL_lS okGs_nil)) [] rfl ⟨⟨rfl, rfl⟩, ⟨rfl, rfl⟩, ⟨rfl, rfl⟩, trivial⟩ trivial rfl ?_   -- scope.Covers
  rintro _ _ rfl
  iterate 5 refine AwOps.v hT rfl ?_
  refine AwOps.nil (Aw.seq (Aw.region ?_))
  refine AwOps.v hT rfl ?_
  refine AwOps.v hT rfl ?_
  refine AwOps.build hT rfl ?_
  refine AwOps.turn (Less.say (t := 35) (B := .agg [.sl (List.map eGn []), .v (.int .i64 0), _, _]) rfl rfl) ?_
  refine AwOps.v hT rfl ?_
  refine AwOps.build hT rfl ?_
  refine AwOps.turn (Less.say (t := 37) (B := .agg [.v (.string ⟨#[]⟩), .v (.string ⟨#[]⟩), _, .v (.int .i64 0), .v (.int .i64 0), .v (.int .i64 0), .v (.int .i64 0), .v (.string ⟨#[]⟩), .v (.bool false), .sl (List.map eGn []), .v (.bool false), .v (.bool false), .v (.int .i64 0), .v (.bool false), .sl (List.map ePoint []), .sl (List.map eEnt []), .v (.string ⟨#[]⟩)]) rfl rfl) ?_
  refine AwOps.cl (F160k (cC 0) ⟨[], 0, true, authS 2⟩ (lI 2) 0 29 (by kernel_rfl) (okNm_auth _) (okPt_a _) (okCL_lI _)) [] rfl ⟨⟨rfl, rfl⟩, ⟨rfl, rfl⟩, ⟨rfl, rfl⟩, trivial⟩ trivial rfl ?_   -- scope.Covers
  rintro _ _ rfl
  iterate 5 refine AwOps.v hT rfl ?_
  refine AwOps.nil (Aw.seq (Aw.region ?_))
  iterate 16 refine AwOps.v hT rfl ?_
  refine AwOps.cl (F158 (cC 0) okPts_nil) [] rfl ⟨⟨rfl, rfl⟩, trivial⟩ trivial rfl ?_   -- scope.Points
  rintro _ _ rfl
  iterate 4 refine AwOps.v hT rfl ?_
  refine AwOps.build hT rfl ?_
  refine AwOps.turn (Less.say (t := 62) (B := .agg [.v (.string ⟨#[]⟩), .v (.string ⟨#[]⟩), .sl (List.map eRdn []), _, _, .v (.int .i64 0), .v (.int .i64 0), .v (.string ⟨#[]⟩), .v (.bool false), .sl (List.map eGn []), .v (.bool false), .v (.bool false), .v (.int .i64 0), .v (.bool false), .sl (List.map ePoint []), .sl (List.map eEnt []), .v (.string ⟨#[]⟩)]) rfl rfl) ?_
  refine AwOps.cl (F175 lW 4) [] rfl ⟨⟨rfl, rfl⟩, ⟨rfl, rfl⟩, trivial⟩ trivial rfl ?_   -- scope.Current
  rintro _ _ rfl
  refine AwOps.v hT rfl ?_
  refine AwOps.v hT rfl ?_
  refine AwOps.nil ?_
  refine Aw.ret ?_
  refine ⟨_, [], rfl, trivial, ?_⟩
  exact rfl
def mR (r : Int) : Int := if covM zPt (lS 0 { zScp with reasons := r }) == 0 then 0 else covM zPt (lS 0 { zScp with reasons := r })
theorem maskR (r : Int) : maskS (cI 0) (lS 0 { zScp with reasons := r }) = bor 0 (mR r) := by
  have h1 : nmatch (lS 0 { zScp with reasons := r }).issuer (cI 0).issuer = true := by
    show nmatch (authS 0) (authS 0) = true
    kernel_rfl
  show bor 0 (covS (cI 0) zPt (lS 0 { zScp with reasons := r })).1 = _
  have h2 : covN (cI 0) zPt (lS 0 { zScp with reasons := r }) = false := rfl
  unfold covS mR
  rw [h1, h2]
  cases h : covM zPt (lS 0 { zScp with reasons := r }) == 0 <;> rfl
theorem meetL : (List.range 256).all (fun k => let r : Int := (k : Int) * 2; let a := bor 0 (mR r); let b := bor 0 (mR (bdiff 510 r)); if r == 0 || r == 510 then (a == 510) && (b == 510) else (a == r) && ((bor a b == 510) && (band a b == 0))) = true := by kernel_rfl
theorem meet {v : Int} (h0 : 0 ≤ v) (h1 : v < 256) (hv : v * 2 = v * 2) : ((v * 2 == 0) = true ∨ (v * 2 == 510) = true → (bor 0 (mR (v * 2)) == 510) = true ∧ (bor 0 (mR (bdiff 510 (v * 2))) == 510) = true) ∧
    ((v * 2 == 0) = false → (v * 2 == 510) = false → (bor 0 (mR (v * 2)) == v * 2) = true ∧ (bor (bor 0 (mR (v * 2))) (bor 0 (mR (bdiff 510 (v * 2)))) == 510) = true ∧ (band (bor 0 (mR (v * 2))) (bor 0 (mR (bdiff 510 (v * 2)))) == 0) = true) := by
  have h := List.all_eq_true.1 meetL v.toNat (List.mem_range.2 (by omega))
  simp only [Int.toNat_of_nonneg h0] at h
  refine ⟨fun h' => ?_, fun h2 h3 => ?_⟩
  · rcases h' with h' | h' <;> simp only [h', Bool.true_or, Bool.or_true, if_true, Bool.and_eq_true] at h <;> exact h
  · simp only [h2, h3, Bool.or_false, Bool.false_eq_true, if_false, Bool.and_eq_true] at h
    exact h
theorem F163r (r m : Int) (h : maskS (cI 0) (lS 0 { zScp with reasons := r }) = m) : Fn Tryd.prog 15 [.pv (.agg (eCert (cI 0))), .pv (.agg (eCL (lS 0 { zScp with reasons := r })))] [] (fun z _ => z = sc (.int .i64 m)) := by
  have := F163 (cI 0) (lS 0 { zScp with reasons := r }) (okNm_auth _) okPts_nil (okCL_lS okGs_nil)
  rw [h] at this
  exact this
-- f155 certpath/certpathlaw27.ScopeReasonsMeet
theorem F155 (x : Int) : Fn Tryd.prog 6 [.pv (sc (.int .i64 x))] [] (fun r _ => r = sc (.bool (true))) := by
  refine Fn.intro (rs := [.tmp 2]) hT Tryd.func6 (by kernel_rfl) rfl rfl rfl rfl fun C => ?_
  refine Aw.seq (Aw.region ?_)
  refine AwOps.v hT rfl ?_
  refine AwOps.nil (Aw.seq (Aw.region ?_))
  refine AwOps.v hT rfl ?_
  refine AwOps.lit hT rfl ?_
  refine AwOps.turn (Tn.fz 9 rfl rfl (by first | rfl | (simp; done)) rfl) ?_
  refine AwOps.turn (Less.say (t := 9) (B := .one (.p (.sl (List.map eI [_])))) rfl rfl) ?_
  refine AwOps.ed (N := []) (Ed.callO (F8 _) rfl rfl rfl rfl ?_)
  rintro _ rfl
  refine AwOps.cl (F10 _ _ (by first | omega | (simp only [w64] at *; omega) | (simp [w64] at *; omega)) (by first | omega | (simp only [w64] at *; omega) | (simp [w64] at *; omega))) [10] rfl ⟨⟨10, rfl, rfl⟩, ⟨rfl, rfl⟩, trivial⟩ ⟨rfl, trivial⟩ rfl ?_   -- certpathmade.Deck).Next
  rintro _ _ ⟨v1, d1, rfl, rfl, hv1, hw1⟩
  have hm := meet hv1 hw1 rfl
  refine AwOps.v hT rfl ?_
  first | refine AwOps.nm 12 rfl (by omega) (by omega) ?_ | skip
  refine AwOps.v hT rfl ?_
  refine AwOps.nil (Aw.seq (Aw.region ?_))
  refine AwOps.cl (F25 _ (by first | omega | (simp only [w64] at *; omega) | (simp [w64] at *; omega))) [] rfl ⟨⟨rfl, rfl⟩, trivial⟩ trivial rfl ?_   -- certpathmade.Authority
  rintro _ _ rfl
  refine AwOps.eff hT rfl ?_
  refine AwOps.eff hT rfl ?_
  refine AwOps.nil (Aw.seq (Aw.region ?_))
  refine AwOps.v hT rfl ?_
  refine AwOps.build hT rfl ?_
  refine AwOps.turn (Less.say (t := 15) (B := .agg [.v (.string ⟨#[]⟩), .v (.string ⟨#[]⟩), .v (.int .i64 0), _, .sl (List.map eRdn []), .v (.int .i64 0), .v (.int .i64 0), .v (.int .i64 0), .v (.string ⟨#[]⟩), .v (.string ⟨#[]⟩), .v (.bool false), .v (.bool false), .v (.int .i64 0), .v (.int .i64 0), .sl (List.map eStr []), .sl (List.map eStr []), .sl (List.map eMapp []), .v (.int .i64 0), .v (.int .i64 0), .v (.int .i64 0), .sl (List.map eGn []), .v (.bool false), .sl (List.map eGn []), .sl (List.map eGn []), .v (.string ⟨#[]⟩), .v (.string ⟨#[]⟩), .sl (List.map ePoint []), .sl (List.map ePoint []), .sl (List.map eExt []), .v (.string ⟨#[]⟩)]) rfl rfl) ?_
  refine AwOps.eff hT rfl ?_
  refine AwOps.eff hT rfl ?_
  refine AwOps.nil (Aw.seq (Aw.region ?_))
  iterate 3 refine AwOps.v hT rfl ?_
  refine AwOps.build hT rfl ?_
  refine AwOps.turn (Less.say (t := 19) (B := .agg [.sl (List.map eGn []), .v (.bool false), .v (.bool false), _, .v (.bool false)]) rfl rfl) ?_
  refine AwOps.build hT rfl ?_
  refine AwOps.turn (Less.say (t := 20) (B := .agg [.v (.string ⟨#[]⟩), .v (.string ⟨#[]⟩), _, .v (.int .i64 0), .v (.int .i64 0), .v (.int .i64 0), .v (.int .i64 0), .v (.string ⟨#[]⟩), _, _, _, _, _, _, .sl (List.map ePoint []), .sl (List.map eEnt []), .v (.string ⟨#[]⟩)]) rfl rfl) ?_
  refine AwOps.cl (F163r (v1 * 2) _ (maskR _)) [] rfl ⟨⟨rfl, rfl⟩, ⟨rfl, rfl⟩, trivial⟩ trivial rfl ?_   -- scope.Mask
  rintro _ _ rfl
  refine AwOps.v hT rfl ?_
  refine AwOps.nil (Aw.seq (Aw.region ?_))
  iterate 3 refine AwOps.v hT rfl ?_
  refine AwOps.bin rfl _ rfl bdiff_run ?_
  refine AwOps.build hT rfl ?_
  refine AwOps.turn (Less.say (t := 26) (B := .agg [.sl (List.map eGn []), .v (.bool false), .v (.bool false), _, .v (.bool false)]) rfl rfl) ?_
  refine AwOps.build hT rfl ?_
  refine AwOps.turn (Less.say (t := 27) (B := .agg [.v (.string ⟨#[]⟩), .v (.string ⟨#[]⟩), _, .v (.int .i64 0), .v (.int .i64 0), .v (.int .i64 0), .v (.int .i64 0), .v (.string ⟨#[]⟩), _, _, _, _, _, _, .sl (List.map ePoint []), .sl (List.map eEnt []), .v (.string ⟨#[]⟩)]) rfl rfl) ?_
  refine AwOps.cl (F163r (bdiff 510 (v1 * 2)) _ (maskR _)) [] rfl ⟨⟨rfl, rfl⟩, ⟨rfl, rfl⟩, trivial⟩ trivial rfl ?_   -- scope.Mask
  rintro _ _ rfl
  refine AwOps.v hT rfl ?_
  refine AwOps.nil (Aw.seq (Aw.seq (Aw.region ?_)))
  iterate 3 refine AwOps.v hT rfl ?_
  refine AwOps.split (t := 31) rfl (fun hb31 => ?_) (fun hb31 => ?_)
  · skip
    iterate 3 refine AwOps.v hT rfl ?_
    refine AwOps.nil (Aw.condT rfl (Aw.seq (Aw.region ?_)))
    iterate 3 refine AwOps.v hT rfl ?_
    refine AwOps.split (t := 37) rfl (fun hb37 => ?_) (fun hb37 => ?_)
    · skip
      iterate 4 refine AwOps.v hT rfl ?_
      refine AwOps.split (t := 41) rfl (fun hb41 => ?_) (fun hb41 => ?_)
      · skip
        refine AwOps.cl (F162) [] rfl trivial trivial rfl ?_   -- certpathlaw27.awake
        rintro _ _ rfl
        refine AwOps.v hT rfl ?_
        refine AwOps.v hT rfl ?_
        refine AwOps.nil ?_
        refine Aw.ret ?_
        refine ⟨_, [], rfl, trivial, ?_⟩
        exact rfl
      · skip
        rw [(hm.1 (by first | exact .inl hb31 | exact .inr hb34)).2] at hb41; cases hb41
    · skip
      rw [(hm.1 (by first | exact .inl hb31 | exact .inr hb34)).1] at hb37; cases hb37
  · skip
    iterate 3 refine AwOps.v hT rfl ?_
    refine AwOps.nil ?_
    refine Aw.tst rfl (fun hb34 => ?_) (fun hb34 => ?_)
    · skip
      refine Aw.seq (Aw.region ?_)
      iterate 3 refine AwOps.v hT rfl ?_
      refine AwOps.split (t := 37) rfl (fun hb37 => ?_) (fun hb37 => ?_)
      · skip
        iterate 4 refine AwOps.v hT rfl ?_
        refine AwOps.split (t := 41) rfl (fun hb41 => ?_) (fun hb41 => ?_)
        · skip
          refine AwOps.cl (F162) [] rfl trivial trivial rfl ?_   -- certpathlaw27.awake
          rintro _ _ rfl
          refine AwOps.v hT rfl ?_
          refine AwOps.v hT rfl ?_
          refine AwOps.nil ?_
          refine Aw.ret ?_
          refine ⟨_, [], rfl, trivial, ?_⟩
          exact rfl
        · skip
          rw [(hm.1 (by first | exact .inl hb31 | exact .inr hb34)).2] at hb41; cases hb41
      · skip
        rw [(hm.1 (by first | exact .inl hb31 | exact .inr hb34)).1] at hb37; cases hb37
    · skip
      refine Aw.skip (Aw.seq (Aw.region ?_))
      iterate 4 refine AwOps.v hT rfl ?_
      refine AwOps.split (t := 47) rfl (fun hb47 => ?_) (fun hb47 => ?_)
      · skip
        refine AwOps.v hT rfl ?_
        refine AwOps.v hT rfl ?_
        refine AwOps.bin rfl _ rfl bor_run ?_
        iterate 3 refine AwOps.v hT rfl ?_
        refine AwOps.split (t := 53) rfl (fun hb53 => ?_) (fun hb53 => ?_)
        · skip
          refine AwOps.v hT rfl ?_
          refine AwOps.v hT rfl ?_
          refine AwOps.bin rfl _ rfl band_run ?_
          iterate 3 refine AwOps.v hT rfl ?_
          refine AwOps.split (t := 59) rfl (fun hb59 => ?_) (fun hb59 => ?_)
          · skip
            refine AwOps.cl (F162) [] rfl trivial trivial rfl ?_   -- certpathlaw27.awake
            rintro _ _ rfl
            refine AwOps.v hT rfl ?_
            refine AwOps.v hT rfl ?_
            refine AwOps.nil ?_
            refine Aw.ret ?_
            refine ⟨_, [], rfl, trivial, ?_⟩
            exact rfl
          · skip
            rw [(hm.2 hb31 hb34).2.2] at hb59; cases hb59
        · skip
          rw [(hm.2 hb31 hb34).2.1] at hb53; cases hb53
      · skip
        rw [(hm.2 hb31 hb34).1] at hb47; cases hb47
end Go.Proofs.YtbdgmondalkhlaaDoor.Aw
