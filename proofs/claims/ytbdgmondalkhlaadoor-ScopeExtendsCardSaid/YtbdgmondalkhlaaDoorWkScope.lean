
/- The walks of scope: which lists cover a certificate; program and reference.
   Conditions: none. -/
import Derived.Test.YtbdgmondalkhlaaDoorWkDat3
namespace Go.Proofs.YtbdgmondalkhlaaDoor.Aw
open Go
set_option maxRecDepth 100000
set_option maxHeartbeats 4000000
set_option linter.unusedSimpArgs false
set_option linter.unusedVariables false

def allR (m : Int) : Int := if m == 0 then 510 else m
def issG (p : Point) : Gn := ⟨4, ⟨#[]⟩, p.issuer⟩
def fitsB (g : Gn) (p : Point) : Bool := if p.names.length == 0 && p.hasIssuer then sameG g (issG p) else p.names.any fun n => sameG g n
def covM (p : Point) (l : CList) : Int := if l.hasScope then band (allR p.reasons) (allR l.scope.reasons) else allR p.reasons
def covN (c : Cert) (p : Point) (l : CList) : Bool := l.hasScope && ((decide ((l.scope.names.length : Int) > 0) && !(l.scope.names.any fun g => fitsB g p)) || ((l.scope.onlyUser && c.info.ca) || (l.scope.onlyCA && !c.info.ca)))
/-- What Covers answers. -/
def covS (c : Cert) (p : Point) (l : CList) : Int × Int :=
  if (p.hasIssuer && !nmatch l.issuer p.issuer) || (!p.hasIssuer && !nmatch l.issuer c.issuer) then (0, 31)
  else if !nmatch l.issuer c.issuer && !(l.hasScope && l.scope.indirect) then (0, 29)
  else if covN c p l then (0, 29) else if covM p l == 0 then (0, 29) else (covM p l, 0)
theorem cov_of {c : Cert} {p : Point} {l : CList} {a b : Int} (h : covS c p l = (a, b)) : AV.tup [.one (.p (.v (.int .i64 a))), .one (.p (.v (.int .i64 b)))] = AV.tup [.one (.p (.v (.int .i64 (covS c p l).1))), .one (.p (.v (.int .i64 (covS c p l).2)))] := by rw [h]
theorem okG_iss {p : Point} (h : okPt p) : okG (issG p) := ⟨Nat.zero_le _, h.2⟩
theorem fits_ref (g : Gn) (p : Point) : fitsB g p = ((p.names.any fun n => sameG g n) || ((((p.names.length : Int) == 0) && p.hasIssuer) && sameG g (issG p))) := by
  unfold fitsB
  cases hl : p.names with
  | nil => cases p.hasIssuer <;> simp
  | cons a l =>
    have h1 : (((a :: l).length : Nat) == 0) = false := by simp
    have h2 : ((((a :: l).length : Nat) : Int) == 0) = false := by simp; omega
    rw [h1, h2]
    simp
theorem fits_no {gs : List Gn} {p : Point} {i : Nat} (h : i < gs.length) (h1 : (p.names.any fun n => sameG gs[i] n) = false) (h2 : (((((p.names.length : Nat) : Int) == 0) && p.hasIssuer) && sameG gs[i] (issG p)) = false) : fitsB gs[i] p = false := by rw [fits_ref, h1, h2]; rfl
theorem fits_yes {gs : List Gn} {p : Point} {i j : Nat} (h : i < gs.length) (hj : j < p.names.length) (h1 : sameG gs[i] p.names[j] = true) : fitsB gs[i] p = true := by rw [fits_ref, any_hit hj h1]; rfl
-- f169 certpath/scope.all
theorem F169 (m : Int) : Fn Tryd.prog 26 [.pv (sc (.int .i64 m))] [] (fun r _ => r = sc (.int .i64 (allR m))) := by
  refine Fn.intro (rs := [.tmp 2]) hT Tryd.func26 (by kernel_rfl) rfl rfl rfl rfl fun C => ?_
  refine Aw.seq (Aw.region ?_)
  refine AwOps.v hT rfl ?_
  refine AwOps.nil (Aw.seq (Aw.seq (Aw.region ?_)))
  refine AwOps.v hT rfl ?_
  refine AwOps.v hT rfl ?_
  refine AwOps.nil ?_
  refine Aw.tst rfl (fun hb4 => ?_) (fun hb4 => ?_)
  · skip
    refine Aw.seq (Aw.region ?_)
    refine AwOps.v hT rfl ?_
    refine AwOps.nil ?_
    refine Aw.ret ?_
    refine ⟨_, [], rfl, trivial, ?_⟩
    exact sci' (by simp only [allR, *, if_true, if_false, Bool.false_eq_true])
  · skip
    refine Aw.skip (Aw.seq (Aw.region ?_))
    refine AwOps.v hT rfl ?_
    refine AwOps.v hT rfl ?_
    refine AwOps.nil ?_
    refine Aw.ret ?_
    refine ⟨_, [], rfl, trivial, ?_⟩
    exact sci' (by simp only [allR, *, if_true, if_false, Bool.false_eq_true])
-- f173 certpath/certpathref26.all
theorem F173 (m : Int) : Fn Tryd.prog 31 [.pv (sc (.int .i64 m))] [] (fun r _ => r = sc (.int .i64 (allR m))) := by
  refine Fn.intro (rs := [.tmp 2]) hT Tryd.func31 (by kernel_rfl) rfl rfl rfl rfl fun C => ?_
  refine Aw.seq (Aw.region ?_)
  refine AwOps.v hT rfl ?_
  refine AwOps.nil (Aw.seq (Aw.seq (Aw.region ?_)))
  refine AwOps.v hT rfl ?_
  refine AwOps.v hT rfl ?_
  refine AwOps.nil ?_
  refine Aw.tst rfl (fun hb4 => ?_) (fun hb4 => ?_)
  · skip
    refine Aw.seq (Aw.region ?_)
    refine AwOps.v hT rfl ?_
    refine AwOps.nil ?_
    refine Aw.ret ?_
    refine ⟨_, [], rfl, trivial, ?_⟩
    exact sci' (by simp only [allR, *, if_true, if_false, Bool.false_eq_true])
  · skip
    refine Aw.skip (Aw.seq (Aw.region ?_))
    refine AwOps.v hT rfl ?_
    refine AwOps.v hT rfl ?_
    refine AwOps.nil ?_
    refine Aw.ret ?_
    refine ⟨_, [], rfl, trivial, ?_⟩
    exact sci' (by simp only [allR, *, if_true, if_false, Bool.false_eq_true])
-- f180 slices.IndexFunc[[]certpath/api.GeneralName,certpath/api.GeneralName]
theorem F180c (f : Nat) (T : Nat) (ps : List PL) (p : Gn → Bool) (l : List Gn) (hf : ∀ g ∈ l, Fn Tryd.prog f [.pv (.agg (eGn g)), .ptr 0 0] [(T, ps)] (fun r H' => r = sc (.bool (p g)) ∧ H' = [ps])) : Fn Tryd.prog 43 [.pv (.one (.p (.sl (l.map eGn)))), .clo (.func f) [(0, 0)]] [(T, ps)] (fun r H' => (∃ k : Int, r = sc (.int .i64 k) ∧ decide (k ≥ 0) = l.any p) ∧ H' = [ps]) := by
  refine Fn.intro (rs := [.tmp 4]) hT Tryd.func43 (by kernel_rfl) rfl rfl rfl rfl fun C => ?_
  refine Aw.seq (Aw.region ?_)
  refine AwOps.v hT rfl ?_
  refine AwOps.nil (Aw.seq (Aw.seq (Aw.region ?_)))
  iterate 3 refine AwOps.v hT rfl ?_
  refine AwOps.nil (Aw.block ?_)
  refine Aw.bnd 6 rfl fun hB1 => ?_
  replace hB1 : l.length ≤ maxLen := by simpa using hB1
  refine Aw.lp (ι := Nat) (n := 19) [(0, _), (1, _), (7, _)] [(1000, _)] (fun gq => [(8, sc (.int .i64 gq))]) (fun gq => []) (fun gq => gq ≤ l.length ∧ ((l.take gq).any p = false)) (fun gq => l.length - gq) (0) ?ok1 (Less.tn ⟨rfl, ⟨rfl, rfl, rfl, rfl, trivial⟩, ⟨rfl, trivial⟩⟩) ?bd1
  case ok1 =>
    try dsimp only
    exact ⟨Nat.zero_le _, rfl⟩
  case bd1 =>
    intro i1 hi1
    try dsimp only at hi1
    show Aw _ _ _ ⟨19, [(8, sc (.int .i64 i1))] ++ [(0, _), (1, _), (7, _)], [] ++ [(1000, _)]⟩ _
    refine Aw.seq (Aw.region ?_)
    refine AwOps.v hT rfl ?_
    refine AwOps.nil (Aw.seq ?_)
    refine Aw.tst rfl (fun hb9 => ?_) (fun hb9 => ?_)
    · skip
      have hlt1 : i1 < l.length := by simpa using hb9
      refine Aw.skip (Aw.seq (Aw.block (Aw.seq (Aw.region ?_))))
      refine AwOps.v hT rfl ?_
      refine AwOps.v hT rfl ?_
      refine AwOps.nil (Aw.seq (Aw.region ?_))
      iterate 3 refine AwOps.v hT rfl ?_
      refine AwOps.im hT rfl hlt1 rfl ?_
      refine AwOps.v hT rfl ?_
      refine AwOps.cl (hf _ (List.getElem_mem hlt1)) [1000] rfl ⟨⟨rfl, rfl⟩, ⟨1000, rfl, rfl⟩, trivial⟩ ⟨rfl, trivial⟩ rfl ?_   -- fv
      rintro _ _ ⟨rfl, rfl⟩
      refine AwOps.nil ?_
      refine Aw.tst rfl (fun hb16 => ?_) (fun hb16 => ?_)
      · skip
        refine Aw.seq (Aw.region ?_)
        refine AwOps.v hT rfl ?_
        refine AwOps.v hT rfl ?_
        refine AwOps.nil ?_
        refine Aw.ret ?_
        refine ⟨_, [_], rfl, ⟨rfl, trivial⟩, ?_⟩
        exact ⟨⟨(i1 : Int), rfl, by rw [any_hit hlt1 hb16]; simp⟩, rfl⟩
      · skip
        refine Aw.skip (Aw.region ?_)
        refine AwOps.v hT rfl ?_
        refine AwOps.v hT rfl ?_
        refine AwOps.nil ?_
        refine ⟨(i1 + 1), ?nx1, ?mu1, Less.tn ⟨rfl, ⟨incS hlt1 hB1, rfl, rfl, rfl, trivial⟩, ⟨rfl, trivial⟩⟩⟩
        case nx1 =>
          try dsimp only
          exact ⟨hlt1, any_take hlt1 hi1.2 hb16⟩
        case mu1 =>
          try dsimp only
          first | omega | (simp only [w64] at *; omega) | (simp [w64] at *; omega)
    · skip
      refine Aw.exit (Aw.seq (Aw.region ?_))
      refine AwOps.v hT rfl ?_
      refine AwOps.nil ?_
      refine Aw.ret ?_
      refine ⟨_, [_], rfl, ⟨rfl, trivial⟩, ?_⟩
      exact ⟨⟨-1, rfl, by rw [any_full hi1.2 (by simpa using hb9)]; rfl⟩, rfl⟩
-- f170 slices.ContainsFunc[[]certpath/api.GeneralName,certpath/api.GeneralName]
theorem F170c (f : Nat) (T : Nat) (ps : List PL) (p : Gn → Bool) (l : List Gn) (hf : ∀ g ∈ l, Fn Tryd.prog f [.pv (.agg (eGn g)), .ptr 0 0] [(T, ps)] (fun r H' => r = sc (.bool (p g)) ∧ H' = [ps])) : Fn Tryd.prog 27 [.pv (.one (.p (.sl (l.map eGn)))), .clo (.func f) [(0, 0)]] [(T, ps)] (fun r H' => r = sc (.bool (l.any p)) ∧ H' = [ps]) := by
  refine Fn.intro (rs := [.tmp 4]) hT Tryd.func27 (by kernel_rfl) rfl rfl rfl rfl fun C => ?_
  refine Aw.seq (Aw.region ?_)
  refine AwOps.v hT rfl ?_
  refine AwOps.nil (Aw.seq (Aw.region ?_))
  refine AwOps.v hT rfl ?_
  refine AwOps.v hT rfl ?_
  refine AwOps.cl (F180c f T ps p l hf) [1000] rfl ⟨⟨rfl, rfl⟩, ⟨_, rfl, ⟨⟨rfl, rfl⟩, trivial⟩⟩, trivial⟩ ⟨rfl, trivial⟩ rfl ?_   -- api.GeneralName]
  rintro _ _ ⟨⟨k, rfl, hk⟩, rfl⟩
  refine AwOps.v hT rfl ?_
  refine AwOps.v hT rfl ?_
  refine AwOps.nil ?_
  refine Aw.ret ?_
  refine ⟨_, [_], rfl, ⟨rfl, trivial⟩, ?_⟩
  exact ⟨congrArg (fun b => sc (.bool b)) hk, rfl⟩
-- f182 certpath/scope.fits$1
theorem F182 (g n : Gn) (hg : okG g) (hn : okG n) : Fn Tryd.prog 45 [.pv (.agg (eGn n)), .ptr 0 0] [(60, eGn g)] (fun r H' => r = sc (.bool (sameG g n)) ∧ H' = [eGn g]) := by
  refine Fn.intro (rs := [.tmp 3]) hT Tryd.func45 (by kernel_rfl) rfl rfl rfl rfl fun C => ?_
  refine Aw.seq (Aw.region ?_)
  refine AwOps.eff hT rfl ?_
  refine AwOps.v hT rfl ?_
  refine AwOps.nil (Aw.seq (Aw.region ?_))
  refine AwOps.v hT rfl ?_
  refine AwOps.v hT rfl ?_
  refine AwOps.cl (F181 _ _ (by assumption) (by assumption)) [] rfl ⟨⟨rfl, rfl⟩, ⟨rfl, rfl⟩, trivial⟩ trivial rfl ?_   -- gname.Same
  rintro _ _ rfl
  refine AwOps.v hT rfl ?_
  refine AwOps.nil ?_
  refine Aw.ret ?_
  refine ⟨_, [_], rfl, ⟨rfl, trivial⟩, ?_⟩
  exact ⟨rfl, rfl⟩
-- f172 certpath/scope.fits
theorem F172 (g : Gn) (p : Point) (hg : okG g) (hp : okPt p) : Fn Tryd.prog 29 [.pv (.agg (eGn g)), .pv (.agg (ePoint p))] [] (fun r _ => r = sc (.bool (fitsB g p))) := by
  refine Fn.intro (rs := [.tmp 4]) hT Tryd.func29 (by kernel_rfl) rfl rfl rfl rfl fun C => ?_
  refine Aw.seq (Aw.region ?_)
  refine AwOps.eff hT rfl ?_
  refine AwOps.eff hT rfl ?_
  refine AwOps.v hT rfl ?_
  refine AwOps.nil (Aw.seq (Aw.seq (Aw.region ?_)))
  iterate 5 refine AwOps.v hT rfl ?_
  refine AwOps.split (t := 9) rfl (fun hb9 => ?_) (fun hb9 => ?_)
  · skip
    replace hb9 : (p.names.length == 0) = true := by simpa using hb9
    iterate 3 refine AwOps.v hT rfl ?_
    refine AwOps.nil ?_
    refine Aw.tst rfl (fun hb12 => ?_) (fun hb12 => ?_)
    · skip
      refine Aw.seq (Aw.region ?_)
      iterate 3 refine AwOps.v hT rfl ?_
      refine AwOps.build hT rfl ?_
      refine AwOps.turn (Less.say (t := 16) (B := .agg [_, .v (.string ⟨#[]⟩), _]) rfl rfl) ?_
      refine AwOps.cl (F181 g (issG p) hg (okG_iss hp)) [] rfl ⟨⟨rfl, rfl⟩, ⟨rfl, rfl⟩, trivial⟩ trivial rfl ?_   -- gname.Same
      rintro _ _ rfl
      refine AwOps.v hT rfl ?_
      refine AwOps.nil ?_
      refine Aw.ret ?_
      refine ⟨_, [], rfl, trivial, ?_⟩
      exact scb (by rw [fitsB]; simp only [show (p.names.length == 0) = true from hb9, show (p.hasIssuer) = true from hb12, if_true, if_false, Bool.false_eq_true, Bool.true_and, Bool.false_and, Bool.true_or, Bool.false_or, Bool.or_true, Bool.and_true, Bool.or_false, Bool.and_false, Bool.not_true, Bool.not_false] <;> first | done | rfl | (simp; done))
    · skip
      refine Aw.skip (Aw.seq (Aw.region ?_))
      refine AwOps.v hT rfl ?_
      refine AwOps.v hT rfl ?_
      refine AwOps.mkf rfl ?_
      refine AwOps.cl (F170c 45 60 (eGn g) (fun n => sameG g n) p.names (fun n hn => F182 g n hg (hp.1.2 n hn))) [2] rfl ⟨⟨rfl, rfl⟩, ⟨_, rfl, ⟨⟨rfl, rfl⟩, trivial⟩⟩, trivial⟩ ⟨rfl, trivial⟩ rfl ?_   -- api.GeneralName]
      rintro _ _ ⟨rfl, rfl⟩
      refine AwOps.v hT rfl ?_
      refine AwOps.nil ?_
      refine Aw.ret ?_
      refine ⟨_, [], rfl, trivial, ?_⟩
      exact scb (by rw [fitsB]; simp only [show (p.names.length == 0) = true from hb9, show (p.hasIssuer) = false from hb12, if_true, if_false, Bool.false_eq_true, Bool.true_and, Bool.false_and, Bool.true_or, Bool.false_or, Bool.or_true, Bool.and_true, Bool.or_false, Bool.and_false, Bool.not_true, Bool.not_false] <;> first | done | rfl | (simp; done))
  · skip
    replace hb9 : (p.names.length == 0) = false := by simp at hb9; simpa using hb9
    iterate 3 refine AwOps.v hT rfl ?_
    refine AwOps.nil (Aw.condF rfl (Aw.skip (Aw.seq (Aw.region ?_))))
    refine AwOps.v hT rfl ?_
    refine AwOps.v hT rfl ?_
    refine AwOps.mkf rfl ?_
    refine AwOps.cl (F170c 45 60 (eGn g) (fun n => sameG g n) p.names (fun n hn => F182 g n hg (hp.1.2 n hn))) [2] rfl ⟨⟨rfl, rfl⟩, ⟨_, rfl, ⟨⟨rfl, rfl⟩, trivial⟩⟩, trivial⟩ ⟨rfl, trivial⟩ rfl ?_   -- api.GeneralName]
    rintro _ _ ⟨rfl, rfl⟩
    refine AwOps.v hT rfl ?_
    refine AwOps.nil ?_
    refine Aw.ret ?_
    refine ⟨_, [], rfl, trivial, ?_⟩
    exact scb (by rw [fitsB]; simp only [show (p.names.length == 0) = false from hb9, if_true, if_false, Bool.false_eq_true, Bool.true_and, Bool.false_and, Bool.true_or, Bool.false_or, Bool.or_true, Bool.and_true, Bool.or_false, Bool.and_false, Bool.not_true, Bool.not_false] <;> first | done | rfl | (simp; done))
end Go.Proofs.YtbdgmondalkhlaaDoor.Aw
