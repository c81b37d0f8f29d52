
/- The walks of step's and the reference's small functions.
   Conditions: none. -/
import Derived.Test.YthhjfcmkelmobaaGreatWkData
namespace Go.Proofs.YthhjfcmkelmobaaGreat.Aw
open Go
set_option maxRecDepth 100000

def selfIssued (c : Cert) : Bool := nmatch c.issuer c.subject
def limitS (b : Bool) : Int := if b then 0 else 9
def leastS (n other : Int) : Int := if (other != -1) && decide (other < n) then other else n
def lessS' (n : Int) (fall : Bool) (x : Int) : Int := leastS (if fall && decide (n > 0) then IntKind.wrap .i64 (n - 1) else n) x
theorem sci {p q : Int} (h : p = q) : sc (.int .i64 p) = sc (.int .i64 q) := by rw [h]

-- f47 certpath/cert.SelfIssued
theorem F47 (c : Cert) (h1 : okN c.issuer) (h2 : okN c.subject) : Fn Tryz.prog 22 [.pv (.agg (eCert c))] [] (fun res _ => res = sc (.bool (selfIssued c))) := by
  refine Fn.intro (rs := [.tmp 2]) hT Tryz.func22 (by kernel_rfl) rfl rfl rfl rfl fun C => ?_
  repeat (first | refine AwOps.v hT rfl ?_ | refine AwOps.eff hT rfl ?_ | refine AwOps.nil ?_ | refine Aw.seq ?_ | refine Aw.region ?_ | refine Aw.block ?_ | refine Aw.skip ?_ | refine Aw.exit ?_ | refine Aw.condT rfl ?_ | refine Aw.condF rfl ?_ | refine AwOps.build hT rfl ?_ | refine AwOps.lit hT rfl ?_ | refine AwSch.take (Yd.val hT rfl rfl) ?_ | refine AwSch.take (Yd.build hT rfl) ?_ | refine AwSch.nil ?_)
  refine AwOps.call (Match_ok _ _ h1 h2) [] rfl ⟨⟨rfl, rfl⟩, ⟨rfl, rfl⟩, trivial⟩ trivial rfl ?_   -- certpath/dname.Match
  rintro _ _ rfl _ _
  repeat (first | refine AwOps.v hT rfl ?_ | refine AwOps.eff hT rfl ?_ | refine AwOps.nil ?_ | refine Aw.seq ?_ | refine Aw.region ?_ | refine Aw.block ?_ | refine Aw.skip ?_ | refine Aw.exit ?_ | refine Aw.condT rfl ?_ | refine Aw.condF rfl ?_ | refine AwOps.build hT rfl ?_ | refine AwOps.lit hT rfl ?_ | refine AwSch.take (Yd.val hT rfl rfl) ?_ | refine AwSch.take (Yd.build hT rfl) ?_ | refine AwSch.nil ?_)
  refine Aw.ret ?_
  exact ⟨_, [], rfl, trivial, rfl⟩
-- f40 certpath/step.limit
theorem F40 (b : Bool) : Fn Tryz.prog 52 [.pv (sc (.bool b))] [] (fun res _ => res = sc (.int .i64 (limitS b))) := by
  refine Fn.intro (rs := [.tmp 2]) hT Tryz.func52 (by kernel_rfl) rfl rfl rfl rfl fun C => ?_
  repeat (first | refine AwOps.v hT rfl ?_ | refine AwOps.eff hT rfl ?_ | refine AwOps.nil ?_ | refine Aw.seq ?_ | refine Aw.region ?_ | refine Aw.block ?_ | refine Aw.skip ?_ | refine Aw.exit ?_ | refine Aw.condT rfl ?_ | refine Aw.condF rfl ?_ | refine AwOps.build hT rfl ?_ | refine AwOps.lit hT rfl ?_ | refine AwSch.take (Yd.val hT rfl rfl) ?_ | refine AwSch.take (Yd.build hT rfl) ?_ | refine AwSch.nil ?_)
  refine Aw.tst rfl (fun hb1 => ?_) (fun hb1 => ?_)
  · skip
    repeat (first | refine AwOps.v hT rfl ?_ | refine AwOps.eff hT rfl ?_ | refine AwOps.nil ?_ | refine Aw.seq ?_ | refine Aw.region ?_ | refine Aw.block ?_ | refine Aw.skip ?_ | refine Aw.exit ?_ | refine Aw.condT rfl ?_ | refine Aw.condF rfl ?_ | refine AwOps.build hT rfl ?_ | refine AwOps.lit hT rfl ?_ | refine AwSch.take (Yd.val hT rfl rfl) ?_ | refine AwSch.take (Yd.build hT rfl) ?_ | refine AwSch.nil ?_)
    refine Aw.ret ?_
    exact ⟨_, [], rfl, trivial, by rw [hb1]; rfl⟩
  · skip
    repeat (first | refine AwOps.v hT rfl ?_ | refine AwOps.eff hT rfl ?_ | refine AwOps.nil ?_ | refine Aw.seq ?_ | refine Aw.region ?_ | refine Aw.block ?_ | refine Aw.skip ?_ | refine Aw.exit ?_ | refine Aw.condT rfl ?_ | refine Aw.condF rfl ?_ | refine AwOps.build hT rfl ?_ | refine AwOps.lit hT rfl ?_ | refine AwSch.take (Yd.val hT rfl rfl) ?_ | refine AwSch.take (Yd.build hT rfl) ?_ | refine AwSch.nil ?_)
    refine Aw.ret ?_
    exact ⟨_, [], rfl, trivial, by rw [hb1]; rfl⟩
-- f53 certpath/step.least
theorem F53 (n x : Int) : Fn Tryz.prog 27 [.pv (sc (.int .i64 n)), .pv (sc (.int .i64 x))] [] (fun res _ => res = sc (.int .i64 (leastS n x))) := by
  refine Fn.intro (rs := [.tmp 4]) hT Tryz.func27 (by kernel_rfl) rfl rfl rfl rfl fun C => ?_
  repeat (first | refine AwOps.v hT rfl ?_ | refine AwOps.eff hT rfl ?_ | refine AwOps.nil ?_ | refine Aw.seq ?_ | refine Aw.region ?_ | refine Aw.block ?_ | refine Aw.skip ?_ | refine Aw.exit ?_ | refine Aw.condT rfl ?_ | refine Aw.condF rfl ?_ | refine AwOps.build hT rfl ?_ | refine AwOps.lit hT rfl ?_ | refine AwSch.take (Yd.val hT rfl rfl) ?_ | refine AwSch.take (Yd.build hT rfl) ?_ | refine AwSch.nil ?_)
  refine AwOps.split (t := 7) rfl (fun hb1 => ?_) (fun hb1 => ?_)
  · skip
    repeat (first | refine AwOps.v hT rfl ?_ | refine AwOps.eff hT rfl ?_ | refine AwOps.nil ?_ | refine Aw.seq ?_ | refine Aw.region ?_ | refine Aw.block ?_ | refine Aw.skip ?_ | refine Aw.exit ?_ | refine Aw.condT rfl ?_ | refine Aw.condF rfl ?_ | refine AwOps.build hT rfl ?_ | refine AwOps.lit hT rfl ?_ | refine AwSch.take (Yd.val hT rfl rfl) ?_ | refine AwSch.take (Yd.build hT rfl) ?_ | refine AwSch.nil ?_)
    refine Aw.tst rfl (fun hb2 => ?_) (fun hb2 => ?_)
    · skip
      repeat (first | refine AwOps.v hT rfl ?_ | refine AwOps.eff hT rfl ?_ | refine AwOps.nil ?_ | refine Aw.seq ?_ | refine Aw.region ?_ | refine Aw.block ?_ | refine Aw.skip ?_ | refine Aw.exit ?_ | refine Aw.condT rfl ?_ | refine Aw.condF rfl ?_ | refine AwOps.build hT rfl ?_ | refine AwOps.lit hT rfl ?_ | refine AwSch.take (Yd.val hT rfl rfl) ?_ | refine AwSch.take (Yd.build hT rfl) ?_ | refine AwSch.nil ?_)
      refine Aw.ret ?_
      exact ⟨_, [], rfl, trivial, sci (by simp [leastS, hb1, hb2])⟩
    · skip
      repeat (first | refine AwOps.v hT rfl ?_ | refine AwOps.eff hT rfl ?_ | refine AwOps.nil ?_ | refine Aw.seq ?_ | refine Aw.region ?_ | refine Aw.block ?_ | refine Aw.skip ?_ | refine Aw.exit ?_ | refine Aw.condT rfl ?_ | refine Aw.condF rfl ?_ | refine AwOps.build hT rfl ?_ | refine AwOps.lit hT rfl ?_ | refine AwSch.take (Yd.val hT rfl rfl) ?_ | refine AwSch.take (Yd.build hT rfl) ?_ | refine AwSch.nil ?_)
      refine Aw.ret ?_
      exact ⟨_, [], rfl, trivial, sci (by simp [leastS, hb1, hb2])⟩
  · skip
    repeat (first | refine AwOps.v hT rfl ?_ | refine AwOps.eff hT rfl ?_ | refine AwOps.nil ?_ | refine Aw.seq ?_ | refine Aw.region ?_ | refine Aw.block ?_ | refine Aw.skip ?_ | refine Aw.exit ?_ | refine Aw.condT rfl ?_ | refine Aw.condF rfl ?_ | refine AwOps.build hT rfl ?_ | refine AwOps.lit hT rfl ?_ | refine AwSch.take (Yd.val hT rfl rfl) ?_ | refine AwSch.take (Yd.build hT rfl) ?_ | refine AwSch.nil ?_)
    refine Aw.ret ?_
    exact ⟨_, [], rfl, trivial, sci (by simp [leastS, hb1])⟩
def finalS (s : Progress) (c : Cert) : Int := if c.info.requireExplicit == 0 then 0 else lessS' s.explicit true (-1)
def specialS (s : Progress) (c : Cert) (last : Bool) : Bool := (s.any != 0) || (selfIssued c && !last)
-- f20 certpath/step.Special
theorem F20 (s : Progress) (c : Cert) (last : Bool) (h1 : okN c.issuer) (h2 : okN c.subject) : Fn Tryz.prog 31 [.pv (.agg (ePr s)), .pv (.agg (eCert c)), .pv (sc (.bool last))] [] (fun res _ => res = sc (.bool (specialS s c last))) := by
  refine Fn.intro (rs := [.tmp 6]) hT Tryz.func31 (by kernel_rfl) rfl rfl rfl rfl fun C => ?_
  repeat (first | refine AwOps.v hT rfl ?_ | refine AwOps.eff hT rfl ?_ | refine AwOps.nil ?_ | refine Aw.seq ?_ | refine Aw.region ?_ | refine Aw.block ?_ | refine Aw.skip ?_ | refine Aw.exit ?_ | refine Aw.condT rfl ?_ | refine Aw.condF rfl ?_ | refine AwOps.build hT rfl ?_ | refine AwOps.lit hT rfl ?_ | refine AwSch.take (Yd.val hT rfl rfl) ?_ | refine AwSch.take (Yd.build hT rfl) ?_ | refine AwSch.nil ?_)
  refine AwOps.split (t := 10) rfl (fun hb1 => ?_) (fun hb1 => ?_)
  · skip
    repeat (first | refine AwOps.v hT rfl ?_ | refine AwOps.eff hT rfl ?_ | refine AwOps.nil ?_ | refine Aw.seq ?_ | refine Aw.region ?_ | refine Aw.block ?_ | refine Aw.skip ?_ | refine Aw.exit ?_ | refine Aw.condT rfl ?_ | refine Aw.condF rfl ?_ | refine AwOps.build hT rfl ?_ | refine AwOps.lit hT rfl ?_ | refine AwSch.take (Yd.val hT rfl rfl) ?_ | refine AwSch.take (Yd.build hT rfl) ?_ | refine AwSch.nil ?_)
    refine Aw.ret ?_
    exact ⟨_, [], rfl, trivial, scb (by simp_all [specialS])⟩
  · skip
    repeat (first | refine AwOps.v hT rfl ?_ | refine AwOps.eff hT rfl ?_ | refine AwOps.nil ?_ | refine Aw.seq ?_ | refine Aw.region ?_ | refine Aw.block ?_ | refine Aw.skip ?_ | refine Aw.exit ?_ | refine Aw.condT rfl ?_ | refine Aw.condF rfl ?_ | refine AwOps.build hT rfl ?_ | refine AwOps.lit hT rfl ?_ | refine AwSch.take (Yd.val hT rfl rfl) ?_ | refine AwSch.take (Yd.build hT rfl) ?_ | refine AwSch.nil ?_)
    refine AwOps.call (F47 c h1 h2) [] rfl ⟨⟨rfl, rfl⟩, trivial⟩ trivial rfl ?_   -- certpath/cert.SelfIssued
    rintro _ _ rfl _ _
    repeat (first | refine AwOps.v hT rfl ?_ | refine AwOps.eff hT rfl ?_ | refine AwOps.nil ?_ | refine Aw.seq ?_ | refine Aw.region ?_ | refine Aw.block ?_ | refine Aw.skip ?_ | refine Aw.exit ?_ | refine Aw.condT rfl ?_ | refine Aw.condF rfl ?_ | refine AwOps.build hT rfl ?_ | refine AwOps.lit hT rfl ?_ | refine AwSch.take (Yd.val hT rfl rfl) ?_ | refine AwSch.take (Yd.build hT rfl) ?_ | refine AwSch.nil ?_)
    refine AwOps.split (t := 13) rfl (fun hb2 => ?_) (fun hb2 => ?_)
    · skip
      repeat (first | refine AwOps.v hT rfl ?_ | refine AwOps.eff hT rfl ?_ | refine AwOps.nil ?_ | refine Aw.seq ?_ | refine Aw.region ?_ | refine Aw.block ?_ | refine Aw.skip ?_ | refine Aw.exit ?_ | refine Aw.condT rfl ?_ | refine Aw.condF rfl ?_ | refine AwOps.build hT rfl ?_ | refine AwOps.lit hT rfl ?_ | refine AwSch.take (Yd.val hT rfl rfl) ?_ | refine AwSch.take (Yd.build hT rfl) ?_ | refine AwSch.nil ?_)
      refine Aw.ret ?_
      exact ⟨_, [], rfl, trivial, scb (by simp_all [specialS])⟩
    · skip
      repeat (first | refine AwOps.v hT rfl ?_ | refine AwOps.eff hT rfl ?_ | refine AwOps.nil ?_ | refine Aw.seq ?_ | refine Aw.region ?_ | refine Aw.block ?_ | refine Aw.skip ?_ | refine Aw.exit ?_ | refine Aw.condT rfl ?_ | refine Aw.condF rfl ?_ | refine AwOps.build hT rfl ?_ | refine AwOps.lit hT rfl ?_ | refine AwSch.take (Yd.val hT rfl rfl) ?_ | refine AwSch.take (Yd.build hT rfl) ?_ | refine AwSch.nil ?_)
      refine Aw.ret ?_
      exact ⟨_, [], rfl, trivial, scb (by simp_all [specialS])⟩
def criticalS (c : Cert) : Int := if c.info.unknown.any (fun e => e.critical) then 12 else 0
-- f74 slices.IndexFunc[[]certpath/api.Mapping,certpath/api.Mapping]
theorem F74 (f : Nat) (p : Mapp → Bool) (hf : ∀ e, Fn Tryz.prog f [.pv (.agg (eMapp e))] [] (fun r _ => r = sc (.bool (p e)))) (l : List Mapp) : Fn Tryz.prog 45 [.pv (.one (.p (.sl (l.map eMapp)))), .pv (sc (.func (.func f) #[] #[]))] [] (fun r _ => ∃ k : Int, r = sc (.int .i64 k) ∧ decide (k ≥ 0) = l.any p) := by
  refine Fn.intro (rs := [.tmp 4]) hT Tryz.func45 (by kernel_rfl) rfl rfl rfl rfl fun C => ?_
  repeat (first | refine AwOps.v hT rfl ?_ | refine AwOps.eff hT rfl ?_ | refine AwOps.nil ?_ | refine Aw.seq ?_ | refine Aw.region ?_ | refine Aw.block ?_ | refine Aw.skip ?_ | refine Aw.exit ?_ | refine Aw.condT rfl ?_ | refine Aw.condF rfl ?_ | refine AwOps.build hT rfl ?_ | refine AwOps.lit hT rfl ?_ | refine AwSch.take (Yd.val hT rfl rfl) ?_ | refine AwSch.take (Yd.build hT rfl) ?_ | refine AwSch.nil ?_)
  refine Aw.bnd 0 rfl fun hB1 => ?_
  replace hB1 : l.length ≤ maxLen := by simpa using hB1
  -- LOOP 1: stays [0, 1, 7]; turns [8]; boxes stay [], turn []
  refine Aw.lp (ι := Nat) (n := 19) [(0, _), (1, _), (7, _)] [] (fun i1 => [(8, sc (.int .i64 i1))]) (fun i1 => [])
    (fun i1 => i1 ≤ l.length ∧ (l.take i1).any p = false) (fun i1 => l.length - i1) 0 (by simp) (Less.tn ⟨rfl, ⟨rfl, rfl, rfl, rfl, trivial⟩, trivial⟩) ?_
  intro i1 hi1
  repeat (first | refine AwOps.v hT rfl ?_ | refine AwOps.eff hT rfl ?_ | refine AwOps.nil ?_ | refine Aw.seq ?_ | refine Aw.region ?_ | refine Aw.block ?_ | refine Aw.skip ?_ | refine Aw.exit ?_ | refine Aw.condT rfl ?_ | refine Aw.condF rfl ?_ | refine AwOps.build hT rfl ?_ | refine AwOps.lit hT rfl ?_ | refine AwSch.take (Yd.val hT rfl rfl) ?_ | refine AwSch.take (Yd.build hT rfl) ?_ | refine AwSch.nil ?_)
  refine Aw.tst rfl (fun hb1 => ?_) (fun hb1 => ?_)
  · have hlt1 : i1 < l.length := by simpa using hb1
    repeat (first | refine AwOps.v hT rfl ?_ | refine AwOps.eff hT rfl ?_ | refine AwOps.nil ?_ | refine Aw.seq ?_ | refine Aw.region ?_ | refine Aw.block ?_ | refine Aw.skip ?_ | refine Aw.exit ?_ | refine Aw.condT rfl ?_ | refine Aw.condF rfl ?_ | refine AwOps.build hT rfl ?_ | refine AwOps.lit hT rfl ?_ | refine AwSch.take (Yd.val hT rfl rfl) ?_ | refine AwSch.take (Yd.build hT rfl) ?_ | refine AwSch.nil ?_)
    refine AwOps.im hT rfl hlt1 rfl ?_
    repeat (first | refine AwOps.v hT rfl ?_ | refine AwOps.eff hT rfl ?_ | refine AwOps.nil ?_ | refine Aw.seq ?_ | refine Aw.region ?_ | refine Aw.block ?_ | refine Aw.skip ?_ | refine Aw.exit ?_ | refine Aw.condT rfl ?_ | refine Aw.condF rfl ?_ | refine AwOps.build hT rfl ?_ | refine AwOps.lit hT rfl ?_ | refine AwSch.take (Yd.val hT rfl rfl) ?_ | refine AwSch.take (Yd.build hT rfl) ?_ | refine AwSch.nil ?_)
    refine AwOps.call (hf _) [] rfl ⟨⟨rfl, rfl⟩, trivial⟩ trivial rfl ?_   -- 
    rintro _ _ rfl _ _
    repeat (first | refine AwOps.v hT rfl ?_ | refine AwOps.eff hT rfl ?_ | refine AwOps.nil ?_ | refine Aw.seq ?_ | refine Aw.region ?_ | refine Aw.block ?_ | refine Aw.skip ?_ | refine Aw.exit ?_ | refine Aw.condT rfl ?_ | refine Aw.condF rfl ?_ | refine AwOps.build hT rfl ?_ | refine AwOps.lit hT rfl ?_ | refine AwSch.take (Yd.val hT rfl rfl) ?_ | refine AwSch.take (Yd.build hT rfl) ?_ | refine AwSch.nil ?_)
    refine Aw.tst rfl (fun hb2 => ?_) (fun hb2 => ?_)
    · skip
      repeat (first | refine AwOps.v hT rfl ?_ | refine AwOps.eff hT rfl ?_ | refine AwOps.nil ?_ | refine Aw.seq ?_ | refine Aw.region ?_ | refine Aw.block ?_ | refine Aw.skip ?_ | refine Aw.exit ?_ | refine Aw.condT rfl ?_ | refine Aw.condF rfl ?_ | refine AwOps.build hT rfl ?_ | refine AwOps.lit hT rfl ?_ | refine AwSch.take (Yd.val hT rfl rfl) ?_ | refine AwSch.take (Yd.build hT rfl) ?_ | refine AwSch.nil ?_)
      refine Aw.ret ?_
      exact ⟨_, [], rfl, trivial, ⟨(i1 : Int), rfl, by rw [any_hit hlt1 hb2]; simp⟩⟩
    · skip
      repeat (first | refine AwOps.v hT rfl ?_ | refine AwOps.eff hT rfl ?_ | refine AwOps.nil ?_ | refine Aw.seq ?_ | refine Aw.region ?_ | refine Aw.block ?_ | refine Aw.skip ?_ | refine Aw.exit ?_ | refine Aw.condT rfl ?_ | refine Aw.condF rfl ?_ | refine AwOps.build hT rfl ?_ | refine AwOps.lit hT rfl ?_ | refine AwSch.take (Yd.val hT rfl rfl) ?_ | refine AwSch.take (Yd.build hT rfl) ?_ | refine AwSch.nil ?_)
      exact ⟨i1 + 1, ⟨hlt1, any_take hlt1 hi1.2 hb2⟩, by omega, Less.tn ⟨rfl, ⟨incS hlt1 hB1, rfl, rfl, rfl, trivial⟩, trivial⟩⟩
  · skip
    repeat (first | refine AwOps.v hT rfl ?_ | refine AwOps.eff hT rfl ?_ | refine AwOps.nil ?_ | refine Aw.seq ?_ | refine Aw.region ?_ | refine Aw.block ?_ | refine Aw.skip ?_ | refine Aw.exit ?_ | refine Aw.condT rfl ?_ | refine Aw.condF rfl ?_ | refine AwOps.build hT rfl ?_ | refine AwOps.lit hT rfl ?_ | refine AwSch.take (Yd.val hT rfl rfl) ?_ | refine AwSch.take (Yd.build hT rfl) ?_ | refine AwSch.nil ?_)
    refine Aw.ret ?_
    exact ⟨_, [], rfl, trivial, ⟨-1, rfl, by have := hi1.2; rw [List.take_of_length_le (by simp at hb1; omega)] at this; rw [this]; rfl⟩⟩
-- f50 slices.ContainsFunc[[]certpath/api.Mapping,certpath/api.Mapping]
theorem F50 (f : Nat) (p : Mapp → Bool) (hf : ∀ e, Fn Tryz.prog f [.pv (.agg (eMapp e))] [] (fun r _ => r = sc (.bool (p e)))) (l : List Mapp) : Fn Tryz.prog 23 [.pv (.one (.p (.sl (l.map eMapp)))), .pv (sc (.func (.func f) #[] #[]))] [] (fun res _ => res = sc (.bool (l.any p))) := by
  refine Fn.intro (rs := [.tmp 4]) hT Tryz.func23 (by kernel_rfl) rfl rfl rfl rfl fun C => ?_
  repeat (first | refine AwOps.v hT rfl ?_ | refine AwOps.eff hT rfl ?_ | refine AwOps.nil ?_ | refine Aw.seq ?_ | refine Aw.region ?_ | refine Aw.block ?_ | refine Aw.skip ?_ | refine Aw.exit ?_ | refine Aw.condT rfl ?_ | refine Aw.condF rfl ?_ | refine AwOps.build hT rfl ?_ | refine AwOps.lit hT rfl ?_ | refine AwSch.take (Yd.val hT rfl rfl) ?_ | refine AwSch.take (Yd.build hT rfl) ?_ | refine AwSch.nil ?_)
  refine AwOps.call (F74 f p hf l) [] rfl ⟨⟨rfl, rfl⟩, ⟨rfl, rfl⟩, trivial⟩ trivial rfl ?_   -- slices.IndexFunc[[]certpath/api.Mapping,certpath/api.Mapping]
  rintro _ _ ⟨k, rfl, hk⟩ _ _
  repeat (first | refine AwOps.v hT rfl ?_ | refine AwOps.eff hT rfl ?_ | refine AwOps.nil ?_ | refine Aw.seq ?_ | refine Aw.region ?_ | refine Aw.block ?_ | refine Aw.skip ?_ | refine Aw.exit ?_ | refine Aw.condT rfl ?_ | refine Aw.condF rfl ?_ | refine AwOps.build hT rfl ?_ | refine AwOps.lit hT rfl ?_ | refine AwSch.take (Yd.val hT rfl rfl) ?_ | refine AwSch.take (Yd.build hT rfl) ?_ | refine AwSch.nil ?_)
  refine Aw.ret ?_
  exact ⟨_, [], rfl, trivial, scb hk⟩

def anyPol : ByteArray := ⟨#[50, 46, 53, 46, 50, 57, 46, 51, 50, 46, 48]⟩
def spMap (m : Mapp) : Bool := seq m.i anyPol || seq m.s anyPol
-- f49 certpath/step.Leave$1
theorem F49 (e : Mapp) : Fn Tryz.prog 21 [.pv (.agg (eMapp e))] [] (fun res _ => res = sc (.bool (spMap e))) := by
  refine Fn.intro (rs := [.tmp 2]) hT Tryz.func21 (by kernel_rfl) rfl rfl rfl rfl fun C => ?_
  repeat (first | refine AwOps.v hT rfl ?_ | refine AwOps.eff hT rfl ?_ | refine AwOps.nil ?_ | refine Aw.seq ?_ | refine Aw.region ?_ | refine Aw.block ?_ | refine Aw.skip ?_ | refine Aw.exit ?_ | refine Aw.condT rfl ?_ | refine Aw.condF rfl ?_ | refine AwOps.build hT rfl ?_ | refine AwOps.lit hT rfl ?_ | refine AwSch.take (Yd.val hT rfl rfl) ?_ | refine AwSch.take (Yd.build hT rfl) ?_ | refine AwSch.nil ?_)
  refine AwOps.split (t := 6) rfl (fun hb1 => ?_) (fun hb1 => ?_)
  · skip
    repeat (first | refine AwOps.v hT rfl ?_ | refine AwOps.eff hT rfl ?_ | refine AwOps.nil ?_ | refine Aw.seq ?_ | refine Aw.region ?_ | refine Aw.block ?_ | refine Aw.skip ?_ | refine Aw.exit ?_ | refine Aw.condT rfl ?_ | refine Aw.condF rfl ?_ | refine AwOps.build hT rfl ?_ | refine AwOps.lit hT rfl ?_ | refine AwSch.take (Yd.val hT rfl rfl) ?_ | refine AwSch.take (Yd.build hT rfl) ?_ | refine AwSch.nil ?_)
    refine Aw.ret ?_
    exact ⟨_, [], rfl, trivial, scb (by have h : seq e.i anyPol = true := hb1; rw [spMap, h]; rfl)⟩
  · skip
    repeat (first | refine AwOps.v hT rfl ?_ | refine AwOps.eff hT rfl ?_ | refine AwOps.nil ?_ | refine Aw.seq ?_ | refine Aw.region ?_ | refine Aw.block ?_ | refine Aw.skip ?_ | refine Aw.exit ?_ | refine Aw.condT rfl ?_ | refine Aw.condF rfl ?_ | refine AwOps.build hT rfl ?_ | refine AwOps.lit hT rfl ?_ | refine AwSch.take (Yd.val hT rfl rfl) ?_ | refine AwSch.take (Yd.build hT rfl) ?_ | refine AwSch.nil ?_)
    refine Aw.ret ?_
    exact ⟨_, [], rfl, trivial, scb (by have h : seq e.i anyPol = false := hb1; rw [spMap, h]; rfl)⟩
end Go.Proofs.YthhjfcmkelmobaaGreat.Aw
