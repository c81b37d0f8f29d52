/- The walks of step's and the reference's small functions.
   Conditions: none. -/
import Derived.Test.YthhjfcmkelmobaaWkData
namespace Go.Proofs.Ythhjfcmkelmobaa.Aw
open Go
set_option maxRecDepth 100000

def selfIssued (c : Cert) : Bool := nmatch c.issuer c.subject
def limitS (b : Bool) : Int := if b then 0 else 9
def leastS (n other : Int) : Int := if (other != -1) && decide (other < n) then other else n
def lessS' (n : Int) (fall : Bool) (x : Int) : Int := leastS (if fall && decide (n > 0) then IntKind.wrap .i64 (n - 1) else n) x
theorem sci {p q : Int} (h : p = q) : sc (.int .i64 p) = sc (.int .i64 q) := by rw [h]

-- f47 certpath/cert.SelfIssued
theorem F47 (c : Cert) (h1 : okN c.issuer) (h2 : okN c.subject) : Fn Try.prog 47 [.pv (.agg (eCert c))] [] (fun res _ => res = sc (.bool (selfIssued c))) := by
  refine Fn.intro (rs := [.tmp 2]) hT Try.func47 (by kernel_rfl) rfl rfl rfl rfl fun C => ?_
  repeat (first | refine AwOps.v hT rfl ?_ | refine AwOps.eff hT rfl ?_ | refine AwOps.nil ?_ | refine Aw.seq ?_ | refine Aw.region ?_ | refine Aw.block ?_ | refine Aw.skip ?_ | refine Aw.exit ?_ | refine Aw.condT rfl ?_ | refine Aw.condF rfl ?_ | refine AwOps.build hT rfl ?_ | refine AwOps.lit hT rfl ?_ | refine AwSch.take (Yd.val hT rfl rfl) ?_ | refine AwSch.take (Yd.build hT rfl) ?_ | refine AwSch.nil ?_)
  refine AwOps.call (Match_ok _ _ h1 h2) [] rfl ⟨⟨rfl, rfl⟩, ⟨rfl, rfl⟩, trivial⟩ trivial rfl ?_   -- certpath/dname.Match
  rintro _ _ rfl _ _
  repeat (first | refine AwOps.v hT rfl ?_ | refine AwOps.eff hT rfl ?_ | refine AwOps.nil ?_ | refine Aw.seq ?_ | refine Aw.region ?_ | refine Aw.block ?_ | refine Aw.skip ?_ | refine Aw.exit ?_ | refine Aw.condT rfl ?_ | refine Aw.condF rfl ?_ | refine AwOps.build hT rfl ?_ | refine AwOps.lit hT rfl ?_ | refine AwSch.take (Yd.val hT rfl rfl) ?_ | refine AwSch.take (Yd.build hT rfl) ?_ | refine AwSch.nil ?_)
  refine Aw.ret ?_
  exact ⟨_, [], rfl, trivial, rfl⟩
-- f48 certpath/certpathref30.SelfIssued
theorem F48 (c : Cert) (h1 : okN c.issuer) (h2 : okN c.subject) : Fn Try.prog 48 [.pv (.agg (eCert c))] [] (fun res _ => res = sc (.bool (selfIssued c))) := by
  refine Fn.intro (rs := [.tmp 2]) hT Try.func48 (by kernel_rfl) rfl rfl rfl rfl fun C => ?_
  repeat (first | refine AwOps.v hT rfl ?_ | refine AwOps.eff hT rfl ?_ | refine AwOps.nil ?_ | refine Aw.seq ?_ | refine Aw.region ?_ | refine Aw.block ?_ | refine Aw.skip ?_ | refine Aw.exit ?_ | refine Aw.condT rfl ?_ | refine Aw.condF rfl ?_ | refine AwOps.build hT rfl ?_ | refine AwOps.lit hT rfl ?_ | refine AwSch.take (Yd.val hT rfl rfl) ?_ | refine AwSch.take (Yd.build hT rfl) ?_ | refine AwSch.nil ?_)
  refine AwOps.call (MatchName_ok _ _ h1 h2) [] rfl ⟨⟨rfl, rfl⟩, ⟨rfl, rfl⟩, trivial⟩ trivial rfl ?_   -- certpath/certpathref07.MatchName
  rintro _ _ rfl _ _
  repeat (first | refine AwOps.v hT rfl ?_ | refine AwOps.eff hT rfl ?_ | refine AwOps.nil ?_ | refine Aw.seq ?_ | refine Aw.region ?_ | refine Aw.block ?_ | refine Aw.skip ?_ | refine Aw.exit ?_ | refine Aw.condT rfl ?_ | refine Aw.condF rfl ?_ | refine AwOps.build hT rfl ?_ | refine AwOps.lit hT rfl ?_ | refine AwSch.take (Yd.val hT rfl rfl) ?_ | refine AwSch.take (Yd.build hT rfl) ?_ | refine AwSch.nil ?_)
  refine Aw.ret ?_
  exact ⟨_, [], rfl, trivial, rfl⟩
-- f40 certpath/step.limit
theorem F40 (b : Bool) : Fn Try.prog 40 [.pv (sc (.bool b))] [] (fun res _ => res = sc (.int .i64 (limitS b))) := by
  refine Fn.intro (rs := [.tmp 2]) hT Try.func40 (by kernel_rfl) rfl rfl rfl rfl fun C => ?_
  repeat (first | refine AwOps.v hT rfl ?_ | refine AwOps.eff hT rfl ?_ | refine AwOps.nil ?_ | refine Aw.seq ?_ | refine Aw.region ?_ | refine Aw.block ?_ | refine Aw.skip ?_ | refine Aw.exit ?_ | refine Aw.condT rfl ?_ | refine Aw.condF rfl ?_ | refine AwOps.build hT rfl ?_ | refine AwOps.lit hT rfl ?_ | refine AwSch.take (Yd.val hT rfl rfl) ?_ | refine AwSch.take (Yd.build hT rfl) ?_ | refine AwSch.nil ?_)
  refine Aw.tst rfl (fun hb1 => ?_) (fun hb1 => ?_)
  · skip
    repeat (first | refine AwOps.v hT rfl ?_ | refine AwOps.eff hT rfl ?_ | refine AwOps.nil ?_ | refine Aw.seq ?_ | refine Aw.region ?_ | refine Aw.block ?_ | refine Aw.skip ?_ | refine Aw.exit ?_ | refine Aw.condT rfl ?_ | refine Aw.condF rfl ?_ | refine AwOps.build hT rfl ?_ | refine AwOps.lit hT rfl ?_ | refine AwSch.take (Yd.val hT rfl rfl) ?_ | refine AwSch.take (Yd.build hT rfl) ?_ | refine AwSch.nil ?_)
    refine Aw.ret ?_
    exact ⟨_, [], rfl, trivial, by rw [hb1]; rfl⟩
  · skip
    repeat (first | refine AwOps.v hT rfl ?_ | refine AwOps.eff hT rfl ?_ | refine AwOps.nil ?_ | refine Aw.seq ?_ | refine Aw.region ?_ | refine Aw.block ?_ | refine Aw.skip ?_ | refine Aw.exit ?_ | refine Aw.condT rfl ?_ | refine Aw.condF rfl ?_ | refine AwOps.build hT rfl ?_ | refine AwOps.lit hT rfl ?_ | refine AwSch.take (Yd.val hT rfl rfl) ?_ | refine AwSch.take (Yd.build hT rfl) ?_ | refine AwSch.nil ?_)
    refine Aw.ret ?_
    exact ⟨_, [], rfl, trivial, by rw [hb1]; rfl⟩
-- f41 certpath/certpathref30.limit
theorem F41 (b : Bool) : Fn Try.prog 41 [.pv (sc (.bool b))] [] (fun res _ => res = sc (.int .i64 (limitS b))) := by
  refine Fn.intro (rs := [.tmp 2]) hT Try.func41 (by kernel_rfl) rfl rfl rfl rfl fun C => ?_
  repeat (first | refine AwOps.v hT rfl ?_ | refine AwOps.eff hT rfl ?_ | refine AwOps.nil ?_ | refine Aw.seq ?_ | refine Aw.region ?_ | refine Aw.block ?_ | refine Aw.skip ?_ | refine Aw.exit ?_ | refine Aw.condT rfl ?_ | refine Aw.condF rfl ?_ | refine AwOps.build hT rfl ?_ | refine AwOps.lit hT rfl ?_ | refine AwSch.take (Yd.val hT rfl rfl) ?_ | refine AwSch.take (Yd.build hT rfl) ?_ | refine AwSch.nil ?_)
  refine Aw.tst rfl (fun hb1 => ?_) (fun hb1 => ?_)
  · skip
    repeat (first | refine AwOps.v hT rfl ?_ | refine AwOps.eff hT rfl ?_ | refine AwOps.nil ?_ | refine Aw.seq ?_ | refine Aw.region ?_ | refine Aw.block ?_ | refine Aw.skip ?_ | refine Aw.exit ?_ | refine Aw.condT rfl ?_ | refine Aw.condF rfl ?_ | refine AwOps.build hT rfl ?_ | refine AwOps.lit hT rfl ?_ | refine AwSch.take (Yd.val hT rfl rfl) ?_ | refine AwSch.take (Yd.build hT rfl) ?_ | refine AwSch.nil ?_)
    refine Aw.ret ?_
    exact ⟨_, [], rfl, trivial, by rw [hb1]; rfl⟩
  · skip
    repeat (first | refine AwOps.v hT rfl ?_ | refine AwOps.eff hT rfl ?_ | refine AwOps.nil ?_ | refine Aw.seq ?_ | refine Aw.region ?_ | refine Aw.block ?_ | refine Aw.skip ?_ | refine Aw.exit ?_ | refine Aw.condT rfl ?_ | refine Aw.condF rfl ?_ | refine AwOps.build hT rfl ?_ | refine AwOps.lit hT rfl ?_ | refine AwSch.take (Yd.val hT rfl rfl) ?_ | refine AwSch.take (Yd.build hT rfl) ?_ | refine AwSch.nil ?_)
    refine Aw.ret ?_
    exact ⟨_, [], rfl, trivial, by rw [hb1]; rfl⟩
-- f53 certpath/step.least
theorem F53 (n x : Int) : Fn Try.prog 53 [.pv (sc (.int .i64 n)), .pv (sc (.int .i64 x))] [] (fun res _ => res = sc (.int .i64 (leastS n x))) := by
  refine Fn.intro (rs := [.tmp 4]) hT Try.func53 (by kernel_rfl) rfl rfl rfl rfl fun C => ?_
  repeat (first | refine AwOps.v hT rfl ?_ | refine AwOps.eff hT rfl ?_ | refine AwOps.nil ?_ | refine Aw.seq ?_ | refine Aw.region ?_ | refine Aw.block ?_ | refine Aw.skip ?_ | refine Aw.exit ?_ | refine Aw.condT rfl ?_ | refine Aw.condF rfl ?_ | refine AwOps.build hT rfl ?_ | refine AwOps.lit hT rfl ?_ | refine AwSch.take (Yd.val hT rfl rfl) ?_ | refine AwSch.take (Yd.build hT rfl) ?_ | refine AwSch.nil ?_)
  refine AwOps.split (t := 7) rfl (fun hb1 => ?_) (fun hb1 => ?_)
  · skip
    repeat (first | refine AwOps.v hT rfl ?_ | refine AwOps.eff hT rfl ?_ | refine AwOps.nil ?_ | refine Aw.seq ?_ | refine Aw.region ?_ | refine Aw.block ?_ | refine Aw.skip ?_ | refine Aw.exit ?_ | refine Aw.condT rfl ?_ | refine Aw.condF rfl ?_ | refine AwOps.build hT rfl ?_ | refine AwOps.lit hT rfl ?_ | refine AwSch.take (Yd.val hT rfl rfl) ?_ | refine AwSch.take (Yd.build hT rfl) ?_ | refine AwSch.nil ?_)
    refine Aw.tst rfl (fun hb2 => ?_) (fun hb2 => ?_)
    · skip
      repeat (first | refine AwOps.v hT rfl ?_ | refine AwOps.eff hT rfl ?_ | refine AwOps.nil ?_ | refine Aw.seq ?_ | refine Aw.region ?_ | refine Aw.block ?_ | refine Aw.skip ?_ | refine Aw.exit ?_ | refine Aw.condT rfl ?_ | refine Aw.condF rfl ?_ | refine AwOps.build hT rfl ?_ | refine AwOps.lit hT rfl ?_ | refine AwSch.take (Yd.val hT rfl rfl) ?_ | refine AwSch.take (Yd.build hT rfl) ?_ | refine AwSch.nil ?_)
      refine Aw.ret ?_
      exact ⟨_, [], rfl, trivial, sci (by simp [leastS, hb1, hb2])⟩
    · skip
      repeat (first | refine AwOps.v hT rfl ?_ | refine AwOps.eff hT rfl ?_ | refine AwOps.nil ?_ | refine Aw.seq ?_ | refine Aw.region ?_ | refine Aw.block ?_ | refine Aw.skip ?_ | refine Aw.exit ?_ | refine Aw.condT rfl ?_ | refine Aw.condF rfl ?_ | refine AwOps.build hT rfl ?_ | refine AwOps.lit hT rfl ?_ | refine AwSch.take (Yd.val hT rfl rfl) ?_ | refine AwSch.take (Yd.build hT rfl) ?_ | refine AwSch.nil ?_)
      refine Aw.ret ?_
      exact ⟨_, [], rfl, trivial, sci (by simp [leastS, hb1, hb2])⟩
  · skip
    repeat (first | refine AwOps.v hT rfl ?_ | refine AwOps.eff hT rfl ?_ | refine AwOps.nil ?_ | refine Aw.seq ?_ | refine Aw.region ?_ | refine Aw.block ?_ | refine Aw.skip ?_ | refine Aw.exit ?_ | refine Aw.condT rfl ?_ | refine Aw.condF rfl ?_ | refine AwOps.build hT rfl ?_ | refine AwOps.lit hT rfl ?_ | refine AwSch.take (Yd.val hT rfl rfl) ?_ | refine AwSch.take (Yd.build hT rfl) ?_ | refine AwSch.nil ?_)
    refine Aw.ret ?_
    exact ⟨_, [], rfl, trivial, sci (by simp [leastS, hb1])⟩
-- f54 certpath/certpathref30.less
theorem F54 (n : Int) (b : Bool) (x : Int) : Fn Try.prog 54 [.pv (sc (.int .i64 n)), .pv (sc (.bool b)), .pv (sc (.int .i64 x))] [] (fun res _ => res = sc (.int .i64 (lessS' n b x))) := by
  refine Fn.intro (rs := [.tmp 6]) hT Try.func54 (by kernel_rfl) rfl rfl rfl rfl fun C => ?_
  repeat (first | refine AwOps.v hT rfl ?_ | refine AwOps.eff hT rfl ?_ | refine AwOps.nil ?_ | refine Aw.seq ?_ | refine Aw.region ?_ | refine Aw.block ?_ | refine Aw.skip ?_ | refine Aw.exit ?_ | refine Aw.condT rfl ?_ | refine Aw.condF rfl ?_ | refine AwOps.build hT rfl ?_ | refine AwOps.lit hT rfl ?_ | refine AwSch.take (Yd.val hT rfl rfl) ?_ | refine AwSch.take (Yd.build hT rfl) ?_ | refine AwSch.nil ?_)
  refine AwOps.split (t := 8) rfl (fun hb1 => ?_) (fun hb1 => ?_)
  · skip
    repeat (first | refine AwOps.v hT rfl ?_ | refine AwOps.eff hT rfl ?_ | refine AwOps.nil ?_ | refine Aw.seq ?_ | refine Aw.region ?_ | refine Aw.block ?_ | refine Aw.skip ?_ | refine Aw.exit ?_ | refine Aw.condT rfl ?_ | refine Aw.condF rfl ?_ | refine AwOps.build hT rfl ?_ | refine AwOps.lit hT rfl ?_ | refine AwSch.take (Yd.val hT rfl rfl) ?_ | refine AwSch.take (Yd.build hT rfl) ?_ | refine AwSch.nil ?_)
    refine Aw.tst rfl (fun hb2 => ?_) (fun hb2 => ?_)
    · skip
      repeat (first | refine AwOps.v hT rfl ?_ | refine AwOps.eff hT rfl ?_ | refine AwOps.nil ?_ | refine Aw.seq ?_ | refine Aw.region ?_ | refine Aw.block ?_ | refine Aw.skip ?_ | refine Aw.exit ?_ | refine Aw.condT rfl ?_ | refine Aw.condF rfl ?_ | refine AwOps.build hT rfl ?_ | refine AwOps.lit hT rfl ?_ | refine AwSch.take (Yd.val hT rfl rfl) ?_ | refine AwSch.take (Yd.build hT rfl) ?_ | refine AwSch.nil ?_)
      refine AwOps.split (t := 16) rfl (fun hb3 => ?_) (fun hb3 => ?_)
      · skip
        repeat (first | refine AwOps.v hT rfl ?_ | refine AwOps.eff hT rfl ?_ | refine AwOps.nil ?_ | refine Aw.seq ?_ | refine Aw.region ?_ | refine Aw.block ?_ | refine Aw.skip ?_ | refine Aw.exit ?_ | refine Aw.condT rfl ?_ | refine Aw.condF rfl ?_ | refine AwOps.build hT rfl ?_ | refine AwOps.lit hT rfl ?_ | refine AwSch.take (Yd.val hT rfl rfl) ?_ | refine AwSch.take (Yd.build hT rfl) ?_ | refine AwSch.nil ?_)
        refine Aw.tst rfl (fun hb4 => ?_) (fun hb4 => ?_)
        · skip
          repeat (first | refine AwOps.v hT rfl ?_ | refine AwOps.eff hT rfl ?_ | refine AwOps.nil ?_ | refine Aw.seq ?_ | refine Aw.region ?_ | refine Aw.block ?_ | refine Aw.skip ?_ | refine Aw.exit ?_ | refine Aw.condT rfl ?_ | refine Aw.condF rfl ?_ | refine AwOps.build hT rfl ?_ | refine AwOps.lit hT rfl ?_ | refine AwSch.take (Yd.val hT rfl rfl) ?_ | refine AwSch.take (Yd.build hT rfl) ?_ | refine AwSch.nil ?_)
          refine Aw.ret ?_
          exact ⟨_, [], rfl, trivial, sci (by simp_all [lessS', leastS] <;> (repeat' split) <;> omega)⟩
        · skip
          repeat (first | refine AwOps.v hT rfl ?_ | refine AwOps.eff hT rfl ?_ | refine AwOps.nil ?_ | refine Aw.seq ?_ | refine Aw.region ?_ | refine Aw.block ?_ | refine Aw.skip ?_ | refine Aw.exit ?_ | refine Aw.condT rfl ?_ | refine Aw.condF rfl ?_ | refine AwOps.build hT rfl ?_ | refine AwOps.lit hT rfl ?_ | refine AwSch.take (Yd.val hT rfl rfl) ?_ | refine AwSch.take (Yd.build hT rfl) ?_ | refine AwSch.nil ?_)
          refine Aw.ret ?_
          exact ⟨_, [], rfl, trivial, sci (by simp_all [lessS', leastS] <;> (repeat' split) <;> omega)⟩
      · skip
        repeat (first | refine AwOps.v hT rfl ?_ | refine AwOps.eff hT rfl ?_ | refine AwOps.nil ?_ | refine Aw.seq ?_ | refine Aw.region ?_ | refine Aw.block ?_ | refine Aw.skip ?_ | refine Aw.exit ?_ | refine Aw.condT rfl ?_ | refine Aw.condF rfl ?_ | refine AwOps.build hT rfl ?_ | refine AwOps.lit hT rfl ?_ | refine AwSch.take (Yd.val hT rfl rfl) ?_ | refine AwSch.take (Yd.build hT rfl) ?_ | refine AwSch.nil ?_)
        refine Aw.ret ?_
        exact ⟨_, [], rfl, trivial, sci (by simp_all [lessS', leastS] <;> (repeat' split) <;> omega)⟩
    · skip
      repeat (first | refine AwOps.v hT rfl ?_ | refine AwOps.eff hT rfl ?_ | refine AwOps.nil ?_ | refine Aw.seq ?_ | refine Aw.region ?_ | refine Aw.block ?_ | refine Aw.skip ?_ | refine Aw.exit ?_ | refine Aw.condT rfl ?_ | refine Aw.condF rfl ?_ | refine AwOps.build hT rfl ?_ | refine AwOps.lit hT rfl ?_ | refine AwSch.take (Yd.val hT rfl rfl) ?_ | refine AwSch.take (Yd.build hT rfl) ?_ | refine AwSch.nil ?_)
      refine AwOps.split (t := 16) rfl (fun hb5 => ?_) (fun hb5 => ?_)
      · skip
        repeat (first | refine AwOps.v hT rfl ?_ | refine AwOps.eff hT rfl ?_ | refine AwOps.nil ?_ | refine Aw.seq ?_ | refine Aw.region ?_ | refine Aw.block ?_ | refine Aw.skip ?_ | refine Aw.exit ?_ | refine Aw.condT rfl ?_ | refine Aw.condF rfl ?_ | refine AwOps.build hT rfl ?_ | refine AwOps.lit hT rfl ?_ | refine AwSch.take (Yd.val hT rfl rfl) ?_ | refine AwSch.take (Yd.build hT rfl) ?_ | refine AwSch.nil ?_)
        refine Aw.tst rfl (fun hb6 => ?_) (fun hb6 => ?_)
        · skip
          repeat (first | refine AwOps.v hT rfl ?_ | refine AwOps.eff hT rfl ?_ | refine AwOps.nil ?_ | refine Aw.seq ?_ | refine Aw.region ?_ | refine Aw.block ?_ | refine Aw.skip ?_ | refine Aw.exit ?_ | refine Aw.condT rfl ?_ | refine Aw.condF rfl ?_ | refine AwOps.build hT rfl ?_ | refine AwOps.lit hT rfl ?_ | refine AwSch.take (Yd.val hT rfl rfl) ?_ | refine AwSch.take (Yd.build hT rfl) ?_ | refine AwSch.nil ?_)
          refine Aw.ret ?_
          exact ⟨_, [], rfl, trivial, sci (by simp_all [lessS', leastS] <;> (repeat' split) <;> omega)⟩
        · skip
          repeat (first | refine AwOps.v hT rfl ?_ | refine AwOps.eff hT rfl ?_ | refine AwOps.nil ?_ | refine Aw.seq ?_ | refine Aw.region ?_ | refine Aw.block ?_ | refine Aw.skip ?_ | refine Aw.exit ?_ | refine Aw.condT rfl ?_ | refine Aw.condF rfl ?_ | refine AwOps.build hT rfl ?_ | refine AwOps.lit hT rfl ?_ | refine AwSch.take (Yd.val hT rfl rfl) ?_ | refine AwSch.take (Yd.build hT rfl) ?_ | refine AwSch.nil ?_)
          refine Aw.ret ?_
          exact ⟨_, [], rfl, trivial, sci (by simp_all [lessS', leastS] <;> (repeat' split) <;> omega)⟩
      · skip
        repeat (first | refine AwOps.v hT rfl ?_ | refine AwOps.eff hT rfl ?_ | refine AwOps.nil ?_ | refine Aw.seq ?_ | refine Aw.region ?_ | refine Aw.block ?_ | refine Aw.skip ?_ | refine Aw.exit ?_ | refine Aw.condT rfl ?_ | refine Aw.condF rfl ?_ | refine AwOps.build hT rfl ?_ | refine AwOps.lit hT rfl ?_ | refine AwSch.take (Yd.val hT rfl rfl) ?_ | refine AwSch.take (Yd.build hT rfl) ?_ | refine AwSch.nil ?_)
        refine Aw.ret ?_
        exact ⟨_, [], rfl, trivial, sci (by simp_all [lessS', leastS] <;> (repeat' split) <;> omega)⟩
  · skip
    repeat (first | refine AwOps.v hT rfl ?_ | refine AwOps.eff hT rfl ?_ | refine AwOps.nil ?_ | refine Aw.seq ?_ | refine Aw.region ?_ | refine Aw.block ?_ | refine Aw.skip ?_ | refine Aw.exit ?_ | refine Aw.condT rfl ?_ | refine Aw.condF rfl ?_ | refine AwOps.build hT rfl ?_ | refine AwOps.lit hT rfl ?_ | refine AwSch.take (Yd.val hT rfl rfl) ?_ | refine AwSch.take (Yd.build hT rfl) ?_ | refine AwSch.nil ?_)
    refine AwOps.split (t := 16) rfl (fun hb7 => ?_) (fun hb7 => ?_)
    · skip
      repeat (first | refine AwOps.v hT rfl ?_ | refine AwOps.eff hT rfl ?_ | refine AwOps.nil ?_ | refine Aw.seq ?_ | refine Aw.region ?_ | refine Aw.block ?_ | refine Aw.skip ?_ | refine Aw.exit ?_ | refine Aw.condT rfl ?_ | refine Aw.condF rfl ?_ | refine AwOps.build hT rfl ?_ | refine AwOps.lit hT rfl ?_ | refine AwSch.take (Yd.val hT rfl rfl) ?_ | refine AwSch.take (Yd.build hT rfl) ?_ | refine AwSch.nil ?_)
      refine Aw.tst rfl (fun hb8 => ?_) (fun hb8 => ?_)
      · skip
        repeat (first | refine AwOps.v hT rfl ?_ | refine AwOps.eff hT rfl ?_ | refine AwOps.nil ?_ | refine Aw.seq ?_ | refine Aw.region ?_ | refine Aw.block ?_ | refine Aw.skip ?_ | refine Aw.exit ?_ | refine Aw.condT rfl ?_ | refine Aw.condF rfl ?_ | refine AwOps.build hT rfl ?_ | refine AwOps.lit hT rfl ?_ | refine AwSch.take (Yd.val hT rfl rfl) ?_ | refine AwSch.take (Yd.build hT rfl) ?_ | refine AwSch.nil ?_)
        refine Aw.ret ?_
        exact ⟨_, [], rfl, trivial, sci (by simp_all [lessS', leastS] <;> (repeat' split) <;> omega)⟩
      · skip
        repeat (first | refine AwOps.v hT rfl ?_ | refine AwOps.eff hT rfl ?_ | refine AwOps.nil ?_ | refine Aw.seq ?_ | refine Aw.region ?_ | refine Aw.block ?_ | refine Aw.skip ?_ | refine Aw.exit ?_ | refine Aw.condT rfl ?_ | refine Aw.condF rfl ?_ | refine AwOps.build hT rfl ?_ | refine AwOps.lit hT rfl ?_ | refine AwSch.take (Yd.val hT rfl rfl) ?_ | refine AwSch.take (Yd.build hT rfl) ?_ | refine AwSch.nil ?_)
        refine Aw.ret ?_
        exact ⟨_, [], rfl, trivial, sci (by simp_all [lessS', leastS] <;> (repeat' split) <;> omega)⟩
    · skip
      repeat (first | refine AwOps.v hT rfl ?_ | refine AwOps.eff hT rfl ?_ | refine AwOps.nil ?_ | refine Aw.seq ?_ | refine Aw.region ?_ | refine Aw.block ?_ | refine Aw.skip ?_ | refine Aw.exit ?_ | refine Aw.condT rfl ?_ | refine Aw.condF rfl ?_ | refine AwOps.build hT rfl ?_ | refine AwOps.lit hT rfl ?_ | refine AwSch.take (Yd.val hT rfl rfl) ?_ | refine AwSch.take (Yd.build hT rfl) ?_ | refine AwSch.nil ?_)
      refine Aw.ret ?_
      exact ⟨_, [], rfl, trivial, sci (by simp_all [lessS', leastS] <;> (repeat' split) <;> omega)⟩

def finalS (s : Progress) (c : Cert) : Int := if c.info.requireExplicit == 0 then 0 else lessS' s.explicit true (-1)
def specialS (s : Progress) (c : Cert) (last : Bool) : Bool := (s.any != 0) || (selfIssued c && !last)
-- f26 certpath/step.Final
theorem F26 (s : Progress) (c : Cert) : Fn Try.prog 26 [.pv (.agg (ePr s)), .pv (.agg (eCert c))] [] (fun res _ => res = sc (.int .i64 (finalS s c))) := by
  refine Fn.intro (rs := [.tmp 4]) hT Try.func26 (by kernel_rfl) rfl rfl rfl rfl fun C => ?_
  repeat (first | refine AwOps.v hT rfl ?_ | refine AwOps.eff hT rfl ?_ | refine AwOps.nil ?_ | refine Aw.seq ?_ | refine Aw.region ?_ | refine Aw.block ?_ | refine Aw.skip ?_ | refine Aw.exit ?_ | refine Aw.condT rfl ?_ | refine Aw.condF rfl ?_ | refine AwOps.build hT rfl ?_ | refine AwOps.lit hT rfl ?_ | refine AwSch.take (Yd.val hT rfl rfl) ?_ | refine AwSch.take (Yd.build hT rfl) ?_ | refine AwSch.nil ?_)
  refine Aw.tst rfl (fun hb1 => ?_) (fun hb1 => ?_)
  · skip
    repeat (first | refine AwOps.v hT rfl ?_ | refine AwOps.eff hT rfl ?_ | refine AwOps.nil ?_ | refine Aw.seq ?_ | refine Aw.region ?_ | refine Aw.block ?_ | refine Aw.skip ?_ | refine Aw.exit ?_ | refine Aw.condT rfl ?_ | refine Aw.condF rfl ?_ | refine AwOps.build hT rfl ?_ | refine AwOps.lit hT rfl ?_ | refine AwSch.take (Yd.val hT rfl rfl) ?_ | refine AwSch.take (Yd.build hT rfl) ?_ | refine AwSch.nil ?_)
    refine Aw.ret ?_
    exact ⟨_, [], rfl, trivial, sci (by simp_all [finalS, lessS', leastS] <;> (repeat' split) <;> omega)⟩
  · skip
    repeat (first | refine AwOps.v hT rfl ?_ | refine AwOps.eff hT rfl ?_ | refine AwOps.nil ?_ | refine Aw.seq ?_ | refine Aw.region ?_ | refine Aw.block ?_ | refine Aw.skip ?_ | refine Aw.exit ?_ | refine Aw.condT rfl ?_ | refine Aw.condF rfl ?_ | refine AwOps.build hT rfl ?_ | refine AwOps.lit hT rfl ?_ | refine AwSch.take (Yd.val hT rfl rfl) ?_ | refine AwSch.take (Yd.build hT rfl) ?_ | refine AwSch.nil ?_)
    refine Aw.tst rfl (fun hb2 => ?_) (fun hb2 => ?_)
    · skip
      repeat (first | refine AwOps.v hT rfl ?_ | refine AwOps.eff hT rfl ?_ | refine AwOps.nil ?_ | refine Aw.seq ?_ | refine Aw.region ?_ | refine Aw.block ?_ | refine Aw.skip ?_ | refine Aw.exit ?_ | refine Aw.condT rfl ?_ | refine Aw.condF rfl ?_ | refine AwOps.build hT rfl ?_ | refine AwOps.lit hT rfl ?_ | refine AwSch.take (Yd.val hT rfl rfl) ?_ | refine AwSch.take (Yd.build hT rfl) ?_ | refine AwSch.nil ?_)
      refine Aw.ret ?_
      exact ⟨_, [], rfl, trivial, sci (by simp_all [finalS, lessS', leastS] <;> (repeat' split) <;> omega)⟩
    · skip
      repeat (first | refine AwOps.v hT rfl ?_ | refine AwOps.eff hT rfl ?_ | refine AwOps.nil ?_ | refine Aw.seq ?_ | refine Aw.region ?_ | refine Aw.block ?_ | refine Aw.skip ?_ | refine Aw.exit ?_ | refine Aw.condT rfl ?_ | refine Aw.condF rfl ?_ | refine AwOps.build hT rfl ?_ | refine AwOps.lit hT rfl ?_ | refine AwSch.take (Yd.val hT rfl rfl) ?_ | refine AwSch.take (Yd.build hT rfl) ?_ | refine AwSch.nil ?_)
      refine Aw.ret ?_
      exact ⟨_, [], rfl, trivial, sci (by simp_all [finalS, lessS', leastS] <;> (repeat' split) <;> omega)⟩
-- f32 certpath/certpathref30.Final
theorem F32 (s : Progress) (c : Cert) : Fn Try.prog 32 [.pv (.agg (ePr s)), .pv (.agg (eCert c))] [] (fun res _ => res = sc (.int .i64 (finalS s c))) := by
  refine Fn.intro (rs := [.tmp 4]) hT Try.func32 (by kernel_rfl) rfl rfl rfl rfl fun C => ?_
  repeat (first | refine AwOps.v hT rfl ?_ | refine AwOps.eff hT rfl ?_ | refine AwOps.nil ?_ | refine Aw.seq ?_ | refine Aw.region ?_ | refine Aw.block ?_ | refine Aw.skip ?_ | refine Aw.exit ?_ | refine Aw.condT rfl ?_ | refine Aw.condF rfl ?_ | refine AwOps.build hT rfl ?_ | refine AwOps.lit hT rfl ?_ | refine AwSch.take (Yd.val hT rfl rfl) ?_ | refine AwSch.take (Yd.build hT rfl) ?_ | refine AwSch.nil ?_)
  refine Aw.tst rfl (fun hb1 => ?_) (fun hb1 => ?_)
  · skip
    repeat (first | refine AwOps.v hT rfl ?_ | refine AwOps.eff hT rfl ?_ | refine AwOps.nil ?_ | refine Aw.seq ?_ | refine Aw.region ?_ | refine Aw.block ?_ | refine Aw.skip ?_ | refine Aw.exit ?_ | refine Aw.condT rfl ?_ | refine Aw.condF rfl ?_ | refine AwOps.build hT rfl ?_ | refine AwOps.lit hT rfl ?_ | refine AwSch.take (Yd.val hT rfl rfl) ?_ | refine AwSch.take (Yd.build hT rfl) ?_ | refine AwSch.nil ?_)
    refine Aw.ret ?_
    exact ⟨_, [], rfl, trivial, sci (by simp_all [finalS, lessS', leastS] <;> (repeat' split) <;> omega)⟩
  · skip
    repeat (first | refine AwOps.v hT rfl ?_ | refine AwOps.eff hT rfl ?_ | refine AwOps.nil ?_ | refine Aw.seq ?_ | refine Aw.region ?_ | refine Aw.block ?_ | refine Aw.skip ?_ | refine Aw.exit ?_ | refine Aw.condT rfl ?_ | refine Aw.condF rfl ?_ | refine AwOps.build hT rfl ?_ | refine AwOps.lit hT rfl ?_ | refine AwSch.take (Yd.val hT rfl rfl) ?_ | refine AwSch.take (Yd.build hT rfl) ?_ | refine AwSch.nil ?_)
    refine AwOps.call (F54 _ _ _) [] rfl ⟨⟨rfl, rfl⟩, ⟨rfl, rfl⟩, ⟨rfl, rfl⟩, trivial⟩ trivial rfl ?_   -- certpath/certpathref30.less
    rintro _ _ rfl _ _
    repeat (first | refine AwOps.v hT rfl ?_ | refine AwOps.eff hT rfl ?_ | refine AwOps.nil ?_ | refine Aw.seq ?_ | refine Aw.region ?_ | refine Aw.block ?_ | refine Aw.skip ?_ | refine Aw.exit ?_ | refine Aw.condT rfl ?_ | refine Aw.condF rfl ?_ | refine AwOps.build hT rfl ?_ | refine AwOps.lit hT rfl ?_ | refine AwSch.take (Yd.val hT rfl rfl) ?_ | refine AwSch.take (Yd.build hT rfl) ?_ | refine AwSch.nil ?_)
    refine Aw.ret ?_
    exact ⟨_, [], rfl, trivial, sci (by simp_all [finalS, lessS', leastS] <;> (repeat' split) <;> omega)⟩
-- f20 certpath/step.Special
theorem F20 (s : Progress) (c : Cert) (last : Bool) (h1 : okN c.issuer) (h2 : okN c.subject) : Fn Try.prog 20 [.pv (.agg (ePr s)), .pv (.agg (eCert c)), .pv (sc (.bool last))] [] (fun res _ => res = sc (.bool (specialS s c last))) := by
  refine Fn.intro (rs := [.tmp 6]) hT Try.func20 (by kernel_rfl) rfl rfl rfl rfl fun C => ?_
  repeat (first | refine AwOps.v hT rfl ?_ | refine AwOps.eff hT rfl ?_ | refine AwOps.nil ?_ | refine Aw.seq ?_ | refine Aw.region ?_ | refine Aw.block ?_ | refine Aw.skip ?_ | refine Aw.exit ?_ | refine Aw.condT rfl ?_ | refine Aw.condF rfl ?_ | refine AwOps.build hT rfl ?_ | refine AwOps.lit hT rfl ?_ | refine AwSch.take (Yd.val hT rfl rfl) ?_ | refine AwSch.take (Yd.build hT rfl) ?_ | refine AwSch.nil ?_)
  refine AwOps.split (t := 10) rfl (fun hb1 => ?_) (fun hb1 => ?_)
  · skip
    repeat (first | refine AwOps.v hT rfl ?_ | refine AwOps.eff hT rfl ?_ | refine AwOps.nil ?_ | refine Aw.seq ?_ | refine Aw.region ?_ | refine Aw.block ?_ | refine Aw.skip ?_ | refine Aw.exit ?_ | refine Aw.condT rfl ?_ | refine Aw.condF rfl ?_ | refine AwOps.build hT rfl ?_ | refine AwOps.lit hT rfl ?_ | refine AwSch.take (Yd.val hT rfl rfl) ?_ | refine AwSch.take (Yd.build hT rfl) ?_ | refine AwSch.nil ?_)
    refine Aw.ret ?_
    exact ⟨_, [], rfl, trivial, scb (by simp_all [specialS])⟩
  · skip
    repeat (first | refine AwOps.v hT rfl ?_ | refine AwOps.eff hT rfl ?_ | refine AwOps.nil ?_ | refine Aw.seq ?_ | refine Aw.region ?_ | refine Aw.block ?_ | refine Aw.skip ?_ | refine Aw.exit ?_ | refine Aw.condT rfl ?_ | refine Aw.condF rfl ?_ | refine AwOps.build hT rfl ?_ | refine AwOps.lit hT rfl ?_ | refine AwSch.take (Yd.val hT rfl rfl) ?_ | refine AwSch.take (Yd.build hT rfl) ?_ | refine AwSch.nil ?_)
    refine AwOps.call (F47 c h1 h2) [] rfl ⟨⟨rfl, rfl⟩, trivial⟩ trivial rfl ?_   -- certpath/cert.SelfIssued
    rintro _ _ rfl _ _
    repeat (first | refine AwOps.v hT rfl ?_ | refine AwOps.eff hT rfl ?_ | refine AwOps.nil ?_ | refine Aw.seq ?_ | refine Aw.region ?_ | refine Aw.block ?_ | refine Aw.skip ?_ | refine Aw.exit ?_ | refine Aw.condT rfl ?_ | refine Aw.condF rfl ?_ | refine AwOps.build hT rfl ?_ | refine AwOps.lit hT rfl ?_ | refine AwSch.take (Yd.val hT rfl rfl) ?_ | refine AwSch.take (Yd.build hT rfl) ?_ | refine AwSch.nil ?_)
    refine AwOps.split (t := 13) rfl (fun hb2 => ?_) (fun hb2 => ?_)
    · skip
      repeat (first | refine AwOps.v hT rfl ?_ | refine AwOps.eff hT rfl ?_ | refine AwOps.nil ?_ | refine Aw.seq ?_ | refine Aw.region ?_ | refine Aw.block ?_ | refine Aw.skip ?_ | refine Aw.exit ?_ | refine Aw.condT rfl ?_ | refine Aw.condF rfl ?_ | refine AwOps.build hT rfl ?_ | refine AwOps.lit hT rfl ?_ | refine AwSch.take (Yd.val hT rfl rfl) ?_ | refine AwSch.take (Yd.build hT rfl) ?_ | refine AwSch.nil ?_)
      refine Aw.ret ?_
      exact ⟨_, [], rfl, trivial, scb (by simp_all [specialS])⟩
    · skip
      repeat (first | refine AwOps.v hT rfl ?_ | refine AwOps.eff hT rfl ?_ | refine AwOps.nil ?_ | refine Aw.seq ?_ | refine Aw.region ?_ | refine Aw.block ?_ | refine Aw.skip ?_ | refine Aw.exit ?_ | refine Aw.condT rfl ?_ | refine Aw.condF rfl ?_ | refine AwOps.build hT rfl ?_ | refine AwOps.lit hT rfl ?_ | refine AwSch.take (Yd.val hT rfl rfl) ?_ | refine AwSch.take (Yd.build hT rfl) ?_ | refine AwSch.nil ?_)
      refine Aw.ret ?_
      exact ⟨_, [], rfl, trivial, scb (by simp_all [specialS])⟩
-- f21 certpath/certpathref30.Special
theorem F21 (s : Progress) (c : Cert) (last : Bool) (h1 : okN c.issuer) (h2 : okN c.subject) : Fn Try.prog 21 [.pv (.agg (ePr s)), .pv (.agg (eCert c)), .pv (sc (.bool last))] [] (fun res _ => res = sc (.bool (specialS s c last))) := by
  refine Fn.intro (rs := [.tmp 6]) hT Try.func21 (by kernel_rfl) rfl rfl rfl rfl fun C => ?_
  repeat (first | refine AwOps.v hT rfl ?_ | refine AwOps.eff hT rfl ?_ | refine AwOps.nil ?_ | refine Aw.seq ?_ | refine Aw.region ?_ | refine Aw.block ?_ | refine Aw.skip ?_ | refine Aw.exit ?_ | refine Aw.condT rfl ?_ | refine Aw.condF rfl ?_ | refine AwOps.build hT rfl ?_ | refine AwOps.lit hT rfl ?_ | refine AwSch.take (Yd.val hT rfl rfl) ?_ | refine AwSch.take (Yd.build hT rfl) ?_ | refine AwSch.nil ?_)
  refine AwOps.split (t := 10) rfl (fun hb1 => ?_) (fun hb1 => ?_)
  · skip
    repeat (first | refine AwOps.v hT rfl ?_ | refine AwOps.eff hT rfl ?_ | refine AwOps.nil ?_ | refine Aw.seq ?_ | refine Aw.region ?_ | refine Aw.block ?_ | refine Aw.skip ?_ | refine Aw.exit ?_ | refine Aw.condT rfl ?_ | refine Aw.condF rfl ?_ | refine AwOps.build hT rfl ?_ | refine AwOps.lit hT rfl ?_ | refine AwSch.take (Yd.val hT rfl rfl) ?_ | refine AwSch.take (Yd.build hT rfl) ?_ | refine AwSch.nil ?_)
    refine Aw.ret ?_
    exact ⟨_, [], rfl, trivial, scb (by simp_all [specialS])⟩
  · skip
    repeat (first | refine AwOps.v hT rfl ?_ | refine AwOps.eff hT rfl ?_ | refine AwOps.nil ?_ | refine Aw.seq ?_ | refine Aw.region ?_ | refine Aw.block ?_ | refine Aw.skip ?_ | refine Aw.exit ?_ | refine Aw.condT rfl ?_ | refine Aw.condF rfl ?_ | refine AwOps.build hT rfl ?_ | refine AwOps.lit hT rfl ?_ | refine AwSch.take (Yd.val hT rfl rfl) ?_ | refine AwSch.take (Yd.build hT rfl) ?_ | refine AwSch.nil ?_)
    refine AwOps.call (F48 c h1 h2) [] rfl ⟨⟨rfl, rfl⟩, trivial⟩ trivial rfl ?_   -- certpath/certpathref30.SelfIssued
    rintro _ _ rfl _ _
    repeat (first | refine AwOps.v hT rfl ?_ | refine AwOps.eff hT rfl ?_ | refine AwOps.nil ?_ | refine Aw.seq ?_ | refine Aw.region ?_ | refine Aw.block ?_ | refine Aw.skip ?_ | refine Aw.exit ?_ | refine Aw.condT rfl ?_ | refine Aw.condF rfl ?_ | refine AwOps.build hT rfl ?_ | refine AwOps.lit hT rfl ?_ | refine AwSch.take (Yd.val hT rfl rfl) ?_ | refine AwSch.take (Yd.build hT rfl) ?_ | refine AwSch.nil ?_)
    refine AwOps.split (t := 13) rfl (fun hb2 => ?_) (fun hb2 => ?_)
    · skip
      repeat (first | refine AwOps.v hT rfl ?_ | refine AwOps.eff hT rfl ?_ | refine AwOps.nil ?_ | refine Aw.seq ?_ | refine Aw.region ?_ | refine Aw.block ?_ | refine Aw.skip ?_ | refine Aw.exit ?_ | refine Aw.condT rfl ?_ | refine Aw.condF rfl ?_ | refine AwOps.build hT rfl ?_ | refine AwOps.lit hT rfl ?_ | refine AwSch.take (Yd.val hT rfl rfl) ?_ | refine AwSch.take (Yd.build hT rfl) ?_ | refine AwSch.nil ?_)
      refine Aw.ret ?_
      exact ⟨_, [], rfl, trivial, scb (by simp_all [specialS])⟩
    · skip
      repeat (first | refine AwOps.v hT rfl ?_ | refine AwOps.eff hT rfl ?_ | refine AwOps.nil ?_ | refine Aw.seq ?_ | refine Aw.region ?_ | refine Aw.block ?_ | refine Aw.skip ?_ | refine Aw.exit ?_ | refine Aw.condT rfl ?_ | refine Aw.condF rfl ?_ | refine AwOps.build hT rfl ?_ | refine AwOps.lit hT rfl ?_ | refine AwSch.take (Yd.val hT rfl rfl) ?_ | refine AwSch.take (Yd.build hT rfl) ?_ | refine AwSch.nil ?_)
      refine Aw.ret ?_
      exact ⟨_, [], rfl, trivial, scb (by simp_all [specialS])⟩
-- f60 certpath/step.Critical$1
theorem F60 (e : Ext) : Fn Try.prog 60 [.pv (.agg (eExt e))] [] (fun res _ => res = sc (.bool e.critical)) := by
  refine Fn.intro (rs := [.tmp 2]) hT Try.func60 (by kernel_rfl) rfl rfl rfl rfl fun C => ?_
  repeat (first | refine AwOps.v hT rfl ?_ | refine AwOps.eff hT rfl ?_ | refine AwOps.nil ?_ | refine Aw.seq ?_ | refine Aw.region ?_ | refine Aw.block ?_ | refine Aw.skip ?_ | refine Aw.exit ?_ | refine Aw.condT rfl ?_ | refine Aw.condF rfl ?_ | refine AwOps.build hT rfl ?_ | refine AwOps.lit hT rfl ?_ | refine AwSch.take (Yd.val hT rfl rfl) ?_ | refine AwSch.take (Yd.build hT rfl) ?_ | refine AwSch.nil ?_)
  refine Aw.ret ?_
  exact ⟨_, [], rfl, trivial, rfl⟩
-- f79 slices.IndexFunc[[]certpath/api.Extension,certpath/api.Extension]
theorem F79 (f : Nat) (p : Ext → Bool) (hf : ∀ e, Fn Try.prog f [.pv (.agg (eExt e))] [] (fun r _ => r = sc (.bool (p e)))) (l : List Ext) : Fn Try.prog 79 [.pv (.one (.p (.sl (l.map eExt)))), .pv (sc (.func (.func f) #[] #[]))] [] (fun r _ => ∃ k : Int, r = sc (.int .i64 k) ∧ decide (k ≥ 0) = l.any p) := by
  refine Fn.intro (rs := [.tmp 4]) hT Try.func79 (by kernel_rfl) rfl rfl rfl rfl fun C => ?_
  repeat (first | refine AwOps.v hT rfl ?_ | refine AwOps.eff hT rfl ?_ | refine AwOps.nil ?_ | refine Aw.seq ?_ | refine Aw.region ?_ | refine Aw.block ?_ | refine Aw.skip ?_ | refine Aw.exit ?_ | refine Aw.condT rfl ?_ | refine Aw.condF rfl ?_ | refine AwOps.build hT rfl ?_ | refine AwOps.lit hT rfl ?_ | refine AwSch.take (Yd.val hT rfl rfl) ?_ | refine AwSch.take (Yd.build hT rfl) ?_ | refine AwSch.nil ?_)
  refine Aw.bnd 0 rfl fun hB1 => ?_
  replace hB1 : l.length ≤ maxLen := by simpa using hB1
  -- LOOP 1: stays [0, 1, 7]; turns [8]; boxes stay [], turn []
  refine Aw.lp (ι := Nat) (n := 19) [(0, _), (1, _), (7, _)] [] (fun i1 => [(8, sc (.int .i64 i1))]) (fun i1 => [])
    (fun i1 => i1 ≤ l.length ∧ (l.take i1).any p = false) (fun i1 => l.length - i1) 0 (by simp) (Less.tn ⟨rfl, ⟨rfl, rfl, rfl, rfl, trivial⟩, trivial⟩) ?_
  intro i1 hi1
  repeat (first | refine AwOps.v hT rfl ?_ | refine AwOps.eff hT rfl ?_ | refine AwOps.nil ?_ | refine Aw.seq ?_ | refine Aw.region ?_ | refine Aw.block ?_ | refine Aw.skip ?_ | refine Aw.exit ?_ | refine Aw.condT rfl ?_ | refine Aw.condF rfl ?_ | refine AwOps.build hT rfl ?_ | refine AwOps.lit hT rfl ?_ | refine AwSch.take (Yd.val hT rfl rfl) ?_ | refine AwSch.take (Yd.build hT rfl) ?_ | refine AwSch.nil ?_)
  refine Aw.tst rfl (fun hb1 => ?_) (fun hb1 => ?_)
  · have hlt1 : i1 < l.length := by simpa using hb1
    repeat (first | refine AwOps.v hT rfl ?_ | refine AwOps.eff hT rfl ?_ | refine AwOps.nil ?_ | refine Aw.seq ?_ | refine Aw.region ?_ | refine Aw.block ?_ | refine Aw.skip ?_ | refine Aw.exit ?_ | refine Aw.condT rfl ?_ | refine Aw.condF rfl ?_ | refine AwOps.build hT rfl ?_ | refine AwOps.lit hT rfl ?_ | refine AwSch.take (Yd.val hT rfl rfl) ?_ | refine AwSch.take (Yd.build hT rfl) ?_ | refine AwSch.nil ?_)
    refine AwOps.im hT rfl hlt1 rfl ?_
    repeat (first | refine AwOps.v hT rfl ?_ | refine AwOps.eff hT rfl ?_ | refine AwOps.nil ?_ | refine Aw.seq ?_ | refine Aw.region ?_ | refine Aw.block ?_ | refine Aw.skip ?_ | refine Aw.exit ?_ | refine Aw.condT rfl ?_ | refine Aw.condF rfl ?_ | refine AwOps.build hT rfl ?_ | refine AwOps.lit hT rfl ?_ | refine AwSch.take (Yd.val hT rfl rfl) ?_ | refine AwSch.take (Yd.build hT rfl) ?_ | refine AwSch.nil ?_)
    refine AwOps.call (hf _) [] rfl ⟨⟨rfl, rfl⟩, trivial⟩ trivial rfl ?_   -- 
    rintro _ _ rfl _ _
    repeat (first | refine AwOps.v hT rfl ?_ | refine AwOps.eff hT rfl ?_ | refine AwOps.nil ?_ | refine Aw.seq ?_ | refine Aw.region ?_ | refine Aw.block ?_ | refine Aw.skip ?_ | refine Aw.exit ?_ | refine Aw.condT rfl ?_ | refine Aw.condF rfl ?_ | refine AwOps.build hT rfl ?_ | refine AwOps.lit hT rfl ?_ | refine AwSch.take (Yd.val hT rfl rfl) ?_ | refine AwSch.take (Yd.build hT rfl) ?_ | refine AwSch.nil ?_)
    refine Aw.tst rfl (fun hb2 => ?_) (fun hb2 => ?_)
    · skip
      repeat (first | refine AwOps.v hT rfl ?_ | refine AwOps.eff hT rfl ?_ | refine AwOps.nil ?_ | refine Aw.seq ?_ | refine Aw.region ?_ | refine Aw.block ?_ | refine Aw.skip ?_ | refine Aw.exit ?_ | refine Aw.condT rfl ?_ | refine Aw.condF rfl ?_ | refine AwOps.build hT rfl ?_ | refine AwOps.lit hT rfl ?_ | refine AwSch.take (Yd.val hT rfl rfl) ?_ | refine AwSch.take (Yd.build hT rfl) ?_ | refine AwSch.nil ?_)
      refine Aw.ret ?_
      exact ⟨_, [], rfl, trivial, ⟨(i1 : Int), rfl, by rw [any_hit hlt1 hb2]; simp⟩⟩
    · skip
      repeat (first | refine AwOps.v hT rfl ?_ | refine AwOps.eff hT rfl ?_ | refine AwOps.nil ?_ | refine Aw.seq ?_ | refine Aw.region ?_ | refine Aw.block ?_ | refine Aw.skip ?_ | refine Aw.exit ?_ | refine Aw.condT rfl ?_ | refine Aw.condF rfl ?_ | refine AwOps.build hT rfl ?_ | refine AwOps.lit hT rfl ?_ | refine AwSch.take (Yd.val hT rfl rfl) ?_ | refine AwSch.take (Yd.build hT rfl) ?_ | refine AwSch.nil ?_)
      exact ⟨i1 + 1, ⟨hlt1, any_take hlt1 hi1.2 hb2⟩, by omega, Less.tn ⟨rfl, ⟨incS hlt1 hB1, rfl, rfl, rfl, trivial⟩, trivial⟩⟩
  · skip
    repeat (first | refine AwOps.v hT rfl ?_ | refine AwOps.eff hT rfl ?_ | refine AwOps.nil ?_ | refine Aw.seq ?_ | refine Aw.region ?_ | refine Aw.block ?_ | refine Aw.skip ?_ | refine Aw.exit ?_ | refine Aw.condT rfl ?_ | refine Aw.condF rfl ?_ | refine AwOps.build hT rfl ?_ | refine AwOps.lit hT rfl ?_ | refine AwSch.take (Yd.val hT rfl rfl) ?_ | refine AwSch.take (Yd.build hT rfl) ?_ | refine AwSch.nil ?_)
    refine Aw.ret ?_
    exact ⟨_, [], rfl, trivial, ⟨-1, rfl, by have := hi1.2; rw [List.take_of_length_le (by simp at hb1; omega)] at this; rw [this]; rfl⟩⟩

def criticalS (c : Cert) : Int := if c.info.unknown.any (fun e => e.critical) then 12 else 0
-- f59 slices.ContainsFunc[[]certpath/api.Extension,certpath/api.Extension]
theorem F59 (f : Nat) (p : Ext → Bool) (hf : ∀ e, Fn Try.prog f [.pv (.agg (eExt e))] [] (fun r _ => r = sc (.bool (p e)))) (l : List Ext) : Fn Try.prog 59 [.pv (.one (.p (.sl (l.map eExt)))), .pv (sc (.func (.func f) #[] #[]))] [] (fun res _ => res = sc (.bool (l.any p))) := by
  refine Fn.intro (rs := [.tmp 4]) hT Try.func59 (by kernel_rfl) rfl rfl rfl rfl fun C => ?_
  repeat (first | refine AwOps.v hT rfl ?_ | refine AwOps.eff hT rfl ?_ | refine AwOps.nil ?_ | refine Aw.seq ?_ | refine Aw.region ?_ | refine Aw.block ?_ | refine Aw.skip ?_ | refine Aw.exit ?_ | refine Aw.condT rfl ?_ | refine Aw.condF rfl ?_ | refine AwOps.build hT rfl ?_ | refine AwOps.lit hT rfl ?_ | refine AwSch.take (Yd.val hT rfl rfl) ?_ | refine AwSch.take (Yd.build hT rfl) ?_ | refine AwSch.nil ?_)
  refine AwOps.call (F79 f p hf l) [] rfl ⟨⟨rfl, rfl⟩, ⟨rfl, rfl⟩, trivial⟩ trivial rfl ?_   -- slices.IndexFunc[[]certpath/api.Extension,certpath/api.Extension]
  rintro _ _ ⟨k, rfl, hk⟩ _ _
  repeat (first | refine AwOps.v hT rfl ?_ | refine AwOps.eff hT rfl ?_ | refine AwOps.nil ?_ | refine Aw.seq ?_ | refine Aw.region ?_ | refine Aw.block ?_ | refine Aw.skip ?_ | refine Aw.exit ?_ | refine Aw.condT rfl ?_ | refine Aw.condF rfl ?_ | refine AwOps.build hT rfl ?_ | refine AwOps.lit hT rfl ?_ | refine AwSch.take (Yd.val hT rfl rfl) ?_ | refine AwSch.take (Yd.build hT rfl) ?_ | refine AwSch.nil ?_)
  refine Aw.ret ?_
  exact ⟨_, [], rfl, trivial, scb hk⟩
-- f30 certpath/step.Critical
theorem F30 (c : Cert) : Fn Try.prog 30 [.pv (.agg (eCert c))] [] (fun res _ => res = sc (.int .i64 (criticalS c))) := by
  refine Fn.intro (rs := [.tmp 2]) hT Try.func30 (by kernel_rfl) rfl rfl rfl rfl fun C => ?_
  repeat (first | refine AwOps.v hT rfl ?_ | refine AwOps.eff hT rfl ?_ | refine AwOps.nil ?_ | refine Aw.seq ?_ | refine Aw.region ?_ | refine Aw.block ?_ | refine Aw.skip ?_ | refine Aw.exit ?_ | refine Aw.condT rfl ?_ | refine Aw.condF rfl ?_ | refine AwOps.build hT rfl ?_ | refine AwOps.lit hT rfl ?_ | refine AwSch.take (Yd.val hT rfl rfl) ?_ | refine AwSch.take (Yd.build hT rfl) ?_ | refine AwSch.nil ?_)
  refine AwOps.call (F59 60 _ F60 _) [] rfl ⟨⟨rfl, rfl⟩, ⟨rfl, rfl⟩, trivial⟩ trivial rfl ?_   -- slices.ContainsFunc[[]certpath/api.Extension,certpath/api.Extension]
  rintro _ _ rfl _ _
  repeat (first | refine AwOps.v hT rfl ?_ | refine AwOps.eff hT rfl ?_ | refine AwOps.nil ?_ | refine Aw.seq ?_ | refine Aw.region ?_ | refine Aw.block ?_ | refine Aw.skip ?_ | refine Aw.exit ?_ | refine Aw.condT rfl ?_ | refine Aw.condF rfl ?_ | refine AwOps.build hT rfl ?_ | refine AwOps.lit hT rfl ?_ | refine AwSch.take (Yd.val hT rfl rfl) ?_ | refine AwSch.take (Yd.build hT rfl) ?_ | refine AwSch.nil ?_)
  refine Aw.tst rfl (fun hb1 => ?_) (fun hb1 => ?_)
  · skip
    repeat (first | refine AwOps.v hT rfl ?_ | refine AwOps.eff hT rfl ?_ | refine AwOps.nil ?_ | refine Aw.seq ?_ | refine Aw.region ?_ | refine Aw.block ?_ | refine Aw.skip ?_ | refine Aw.exit ?_ | refine Aw.condT rfl ?_ | refine Aw.condF rfl ?_ | refine AwOps.build hT rfl ?_ | refine AwOps.lit hT rfl ?_ | refine AwSch.take (Yd.val hT rfl rfl) ?_ | refine AwSch.take (Yd.build hT rfl) ?_ | refine AwSch.nil ?_)
    refine Aw.ret ?_
    exact ⟨_, [], rfl, trivial, sci (by simp [criticalS, hb1])⟩
  · skip
    repeat (first | refine AwOps.v hT rfl ?_ | refine AwOps.eff hT rfl ?_ | refine AwOps.nil ?_ | refine Aw.seq ?_ | refine Aw.region ?_ | refine Aw.block ?_ | refine Aw.skip ?_ | refine Aw.exit ?_ | refine Aw.condT rfl ?_ | refine Aw.condF rfl ?_ | refine AwOps.build hT rfl ?_ | refine AwOps.lit hT rfl ?_ | refine AwSch.take (Yd.val hT rfl rfl) ?_ | refine AwSch.take (Yd.build hT rfl) ?_ | refine AwSch.nil ?_)
    refine Aw.ret ?_
    exact ⟨_, [], rfl, trivial, sci (by simp [criticalS, hb1])⟩
-- f31 certpath/certpathref30.Critical
theorem F31 (c : Cert) : Fn Try.prog 31 [.pv (.agg (eCert c))] [] (fun res _ => res = sc (.int .i64 (criticalS c))) := by
  refine Fn.intro (rs := [.tmp 2]) hT Try.func31 (by kernel_rfl) rfl rfl rfl rfl fun C => ?_
  repeat (first | refine AwOps.v hT rfl ?_ | refine AwOps.eff hT rfl ?_ | refine AwOps.nil ?_ | refine Aw.seq ?_ | refine Aw.region ?_ | refine Aw.block ?_ | refine Aw.skip ?_ | refine Aw.exit ?_ | refine Aw.condT rfl ?_ | refine Aw.condF rfl ?_ | refine AwOps.build hT rfl ?_ | refine AwOps.lit hT rfl ?_ | refine AwSch.take (Yd.val hT rfl rfl) ?_ | refine AwSch.take (Yd.build hT rfl) ?_ | refine AwSch.nil ?_)
  -- LOOP 1: stays [1]; turns [3]; boxes stay [1], turn []
  refine Aw.lp (ι := Nat) (n := 19) [(1, _)] [(1, _)] (fun i1 => [(3, sc (.int .i64 i1))]) (fun i1 => [])
    (fun i1 => i1 ≤ c.info.unknown.length ∧ (c.info.unknown.take i1).any (fun e => e.critical) = false) (fun i1 => c.info.unknown.length - i1) 0 (by simp) (Less.tn ⟨rfl, ⟨rfl, rfl, trivial⟩, ⟨rfl, trivial⟩⟩) ?_
  intro i1 hi1
  repeat (first | refine AwOps.v hT rfl ?_ | refine AwOps.eff hT rfl ?_ | refine AwOps.nil ?_ | refine Aw.seq ?_ | refine Aw.region ?_ | refine Aw.block ?_ | refine Aw.skip ?_ | refine Aw.exit ?_ | refine Aw.condT rfl ?_ | refine Aw.condF rfl ?_ | refine AwOps.build hT rfl ?_ | refine AwOps.lit hT rfl ?_ | refine AwSch.take (Yd.val hT rfl rfl) ?_ | refine AwSch.take (Yd.build hT rfl) ?_ | refine AwSch.nil ?_)
  refine Aw.tst rfl (fun hb1 => ?_) (fun hb1 => ?_)
  · have hlt1 : i1 < c.info.unknown.length := by simpa using hb1
    refine Aw.bnd 7 rfl fun hB1 => ?_
    replace hB1 : c.info.unknown.length ≤ maxLen := by simpa using hB1
    repeat (first | refine AwOps.v hT rfl ?_ | refine AwOps.eff hT rfl ?_ | refine AwOps.nil ?_ | refine Aw.seq ?_ | refine Aw.region ?_ | refine Aw.block ?_ | refine Aw.skip ?_ | refine Aw.exit ?_ | refine Aw.condT rfl ?_ | refine Aw.condF rfl ?_ | refine AwOps.build hT rfl ?_ | refine AwOps.lit hT rfl ?_ | refine AwSch.take (Yd.val hT rfl rfl) ?_ | refine AwSch.take (Yd.build hT rfl) ?_ | refine AwSch.nil ?_)
    refine AwOps.im hT rfl hlt1 rfl ?_
    repeat (first | refine AwOps.v hT rfl ?_ | refine AwOps.eff hT rfl ?_ | refine AwOps.nil ?_ | refine Aw.seq ?_ | refine Aw.region ?_ | refine Aw.block ?_ | refine Aw.skip ?_ | refine Aw.exit ?_ | refine Aw.condT rfl ?_ | refine Aw.condF rfl ?_ | refine AwOps.build hT rfl ?_ | refine AwOps.lit hT rfl ?_ | refine AwSch.take (Yd.val hT rfl rfl) ?_ | refine AwSch.take (Yd.build hT rfl) ?_ | refine AwSch.nil ?_)
    refine Aw.tst rfl (fun hb2 => ?_) (fun hb2 => ?_)
    · skip
      repeat (first | refine AwOps.v hT rfl ?_ | refine AwOps.eff hT rfl ?_ | refine AwOps.nil ?_ | refine Aw.seq ?_ | refine Aw.region ?_ | refine Aw.block ?_ | refine Aw.skip ?_ | refine Aw.exit ?_ | refine Aw.condT rfl ?_ | refine Aw.condF rfl ?_ | refine AwOps.build hT rfl ?_ | refine AwOps.lit hT rfl ?_ | refine AwSch.take (Yd.val hT rfl rfl) ?_ | refine AwSch.take (Yd.build hT rfl) ?_ | refine AwSch.nil ?_)
      refine Aw.ret ?_
      exact ⟨_, [], rfl, trivial, sci (by rw [criticalS, if_pos (any_hit hlt1 hb2)])⟩
    · skip
      repeat (first | refine AwOps.v hT rfl ?_ | refine AwOps.eff hT rfl ?_ | refine AwOps.nil ?_ | refine Aw.seq ?_ | refine Aw.region ?_ | refine Aw.block ?_ | refine Aw.skip ?_ | refine Aw.exit ?_ | refine Aw.condT rfl ?_ | refine Aw.condF rfl ?_ | refine AwOps.build hT rfl ?_ | refine AwOps.lit hT rfl ?_ | refine AwSch.take (Yd.val hT rfl rfl) ?_ | refine AwSch.take (Yd.build hT rfl) ?_ | refine AwSch.nil ?_)
      exact ⟨i1 + 1, ⟨hlt1, any_take hlt1 hi1.2 hb2⟩, by omega, Less.tn ⟨rfl, ⟨incS hlt1 hB1, rfl, trivial⟩, ⟨rfl, trivial⟩⟩⟩
  · skip
    repeat (first | refine AwOps.v hT rfl ?_ | refine AwOps.eff hT rfl ?_ | refine AwOps.nil ?_ | refine Aw.seq ?_ | refine Aw.region ?_ | refine Aw.block ?_ | refine Aw.skip ?_ | refine Aw.exit ?_ | refine Aw.condT rfl ?_ | refine Aw.condF rfl ?_ | refine AwOps.build hT rfl ?_ | refine AwOps.lit hT rfl ?_ | refine AwSch.take (Yd.val hT rfl rfl) ?_ | refine AwSch.take (Yd.build hT rfl) ?_ | refine AwSch.nil ?_)
    refine Aw.ret ?_
    exact ⟨_, [], rfl, trivial, sci (by have := hi1.2; rw [List.take_of_length_le (by simp at hb1; omega)] at this; rw [criticalS, this]; rfl)⟩
-- f74 slices.IndexFunc[[]certpath/api.Mapping,certpath/api.Mapping]
theorem F74 (f : Nat) (p : Mapp → Bool) (hf : ∀ e, Fn Try.prog f [.pv (.agg (eMapp e))] [] (fun r _ => r = sc (.bool (p e)))) (l : List Mapp) : Fn Try.prog 74 [.pv (.one (.p (.sl (l.map eMapp)))), .pv (sc (.func (.func f) #[] #[]))] [] (fun r _ => ∃ k : Int, r = sc (.int .i64 k) ∧ decide (k ≥ 0) = l.any p) := by
  refine Fn.intro (rs := [.tmp 4]) hT Try.func74 (by kernel_rfl) rfl rfl rfl rfl fun C => ?_
  repeat (first | refine AwOps.v hT rfl ?_ | refine AwOps.eff hT rfl ?_ | refine AwOps.nil ?_ | refine Aw.seq ?_ | refine Aw.region ?_ | refine Aw.block ?_ | refine Aw.skip ?_ | refine Aw.exit ?_ | refine Aw.condT rfl ?_ | refine Aw.condF rfl ?_ | refine AwOps.build hT rfl ?_ | refine AwOps.lit hT rfl ?_ | refine AwSch.take (Yd.val hT rfl rfl) ?_ | refine AwSch.take (Yd.build hT rfl) ?_ | refine AwSch.nil ?_)
  refine Aw.bnd 0 rfl fun hB1 => ?_
  replace hB1 : l.length ≤ maxLen := by simpa using hB1
  -- LOOP 1: stays [0, 1, 7]; turns [8]; boxes stay [], turn []
  refine Aw.lp (ι := Nat) (n := 19) [(0, _), (1, _), (7, _)] [] (fun i1 => [(8, sc (.int .i64 i1))]) (fun i1 => [])
    (fun i1 => i1 ≤ l.length ∧ (l.take i1).any p = false) (fun i1 => l.length - i1) 0 (by simp) (Less.tn ⟨rfl, ⟨rfl, rfl, rfl, rfl, trivial⟩, trivial⟩) ?_
  intro i1 hi1
  repeat (first | refine AwOps.v hT rfl ?_ | refine AwOps.eff hT rfl ?_ | refine AwOps.nil ?_ | refine Aw.seq ?_ | refine Aw.region ?_ | refine Aw.block ?_ | refine Aw.skip ?_ | refine Aw.exit ?_ | refine Aw.condT rfl ?_ | refine Aw.condF rfl ?_ | refine AwOps.build hT rfl ?_ | refine AwOps.lit hT rfl ?_ | refine AwSch.take (Yd.val hT rfl rfl) ?_ | refine AwSch.take (Yd.build hT rfl) ?_ | refine AwSch.nil ?_)
  refine Aw.tst rfl (fun hb1 => ?_) (fun hb1 => ?_)
  · have hlt1 : i1 < l.length := by simpa using hb1
    repeat (first | refine AwOps.v hT rfl ?_ | refine AwOps.eff hT rfl ?_ | refine AwOps.nil ?_ | refine Aw.seq ?_ | refine Aw.region ?_ | refine Aw.block ?_ | refine Aw.skip ?_ | refine Aw.exit ?_ | refine Aw.condT rfl ?_ | refine Aw.condF rfl ?_ | refine AwOps.build hT rfl ?_ | refine AwOps.lit hT rfl ?_ | refine AwSch.take (Yd.val hT rfl rfl) ?_ | refine AwSch.take (Yd.build hT rfl) ?_ | refine AwSch.nil ?_)
    refine AwOps.im hT rfl hlt1 rfl ?_
    repeat (first | refine AwOps.v hT rfl ?_ | refine AwOps.eff hT rfl ?_ | refine AwOps.nil ?_ | refine Aw.seq ?_ | refine Aw.region ?_ | refine Aw.block ?_ | refine Aw.skip ?_ | refine Aw.exit ?_ | refine Aw.condT rfl ?_ | refine Aw.condF rfl ?_ | refine AwOps.build hT rfl ?_ | refine AwOps.lit hT rfl ?_ | refine AwSch.take (Yd.val hT rfl rfl) ?_ | refine AwSch.take (Yd.build hT rfl) ?_ | refine AwSch.nil ?_)
    refine AwOps.call (hf _) [] rfl ⟨⟨rfl, rfl⟩, trivial⟩ trivial rfl ?_   -- 
    rintro _ _ rfl _ _
    repeat (first | refine AwOps.v hT rfl ?_ | refine AwOps.eff hT rfl ?_ | refine AwOps.nil ?_ | refine Aw.seq ?_ | refine Aw.region ?_ | refine Aw.block ?_ | refine Aw.skip ?_ | refine Aw.exit ?_ | refine Aw.condT rfl ?_ | refine Aw.condF rfl ?_ | refine AwOps.build hT rfl ?_ | refine AwOps.lit hT rfl ?_ | refine AwSch.take (Yd.val hT rfl rfl) ?_ | refine AwSch.take (Yd.build hT rfl) ?_ | refine AwSch.nil ?_)
    refine Aw.tst rfl (fun hb2 => ?_) (fun hb2 => ?_)
    · skip
      repeat (first | refine AwOps.v hT rfl ?_ | refine AwOps.eff hT rfl ?_ | refine AwOps.nil ?_ | refine Aw.seq ?_ | refine Aw.region ?_ | refine Aw.block ?_ | refine Aw.skip ?_ | refine Aw.exit ?_ | refine Aw.condT rfl ?_ | refine Aw.condF rfl ?_ | refine AwOps.build hT rfl ?_ | refine AwOps.lit hT rfl ?_ | refine AwSch.take (Yd.val hT rfl rfl) ?_ | refine AwSch.take (Yd.build hT rfl) ?_ | refine AwSch.nil ?_)
      refine Aw.ret ?_
      exact ⟨_, [], rfl, trivial, ⟨(i1 : Int), rfl, by rw [any_hit hlt1 hb2]; simp⟩⟩
    · skip
      repeat (first | refine AwOps.v hT rfl ?_ | refine AwOps.eff hT rfl ?_ | refine AwOps.nil ?_ | refine Aw.seq ?_ | refine Aw.region ?_ | refine Aw.block ?_ | refine Aw.skip ?_ | refine Aw.exit ?_ | refine Aw.condT rfl ?_ | refine Aw.condF rfl ?_ | refine AwOps.build hT rfl ?_ | refine AwOps.lit hT rfl ?_ | refine AwSch.take (Yd.val hT rfl rfl) ?_ | refine AwSch.take (Yd.build hT rfl) ?_ | refine AwSch.nil ?_)
      exact ⟨i1 + 1, ⟨hlt1, any_take hlt1 hi1.2 hb2⟩, by omega, Less.tn ⟨rfl, ⟨incS hlt1 hB1, rfl, rfl, rfl, trivial⟩, trivial⟩⟩
  · skip
    repeat (first | refine AwOps.v hT rfl ?_ | refine AwOps.eff hT rfl ?_ | refine AwOps.nil ?_ | refine Aw.seq ?_ | refine Aw.region ?_ | refine Aw.block ?_ | refine Aw.skip ?_ | refine Aw.exit ?_ | refine Aw.condT rfl ?_ | refine Aw.condF rfl ?_ | refine AwOps.build hT rfl ?_ | refine AwOps.lit hT rfl ?_ | refine AwSch.take (Yd.val hT rfl rfl) ?_ | refine AwSch.take (Yd.build hT rfl) ?_ | refine AwSch.nil ?_)
    refine Aw.ret ?_
    exact ⟨_, [], rfl, trivial, ⟨-1, rfl, by have := hi1.2; rw [List.take_of_length_le (by simp at hb1; omega)] at this; rw [this]; rfl⟩⟩
-- f50 slices.ContainsFunc[[]certpath/api.Mapping,certpath/api.Mapping]
theorem F50 (f : Nat) (p : Mapp → Bool) (hf : ∀ e, Fn Try.prog f [.pv (.agg (eMapp e))] [] (fun r _ => r = sc (.bool (p e)))) (l : List Mapp) : Fn Try.prog 50 [.pv (.one (.p (.sl (l.map eMapp)))), .pv (sc (.func (.func f) #[] #[]))] [] (fun res _ => res = sc (.bool (l.any p))) := by
  refine Fn.intro (rs := [.tmp 4]) hT Try.func50 (by kernel_rfl) rfl rfl rfl rfl fun C => ?_
  repeat (first | refine AwOps.v hT rfl ?_ | refine AwOps.eff hT rfl ?_ | refine AwOps.nil ?_ | refine Aw.seq ?_ | refine Aw.region ?_ | refine Aw.block ?_ | refine Aw.skip ?_ | refine Aw.exit ?_ | refine Aw.condT rfl ?_ | refine Aw.condF rfl ?_ | refine AwOps.build hT rfl ?_ | refine AwOps.lit hT rfl ?_ | refine AwSch.take (Yd.val hT rfl rfl) ?_ | refine AwSch.take (Yd.build hT rfl) ?_ | refine AwSch.nil ?_)
  refine AwOps.call (F74 f p hf l) [] rfl ⟨⟨rfl, rfl⟩, ⟨rfl, rfl⟩, trivial⟩ trivial rfl ?_   -- slices.IndexFunc[[]certpath/api.Mapping,certpath/api.Mapping]
  rintro _ _ ⟨k, rfl, hk⟩ _ _
  repeat (first | refine AwOps.v hT rfl ?_ | refine AwOps.eff hT rfl ?_ | refine AwOps.nil ?_ | refine Aw.seq ?_ | refine Aw.region ?_ | refine Aw.block ?_ | refine Aw.skip ?_ | refine Aw.exit ?_ | refine Aw.condT rfl ?_ | refine Aw.condF rfl ?_ | refine AwOps.build hT rfl ?_ | refine AwOps.lit hT rfl ?_ | refine AwSch.take (Yd.val hT rfl rfl) ?_ | refine AwSch.take (Yd.build hT rfl) ?_ | refine AwSch.nil ?_)
  refine Aw.ret ?_
  exact ⟨_, [], rfl, trivial, scb hk⟩

def anyPol : ByteArray := ⟨#[50, 46, 53, 46, 50, 57, 46, 51, 50, 46, 48]⟩
def spMap (m : Mapp) : Bool := seq m.i anyPol || seq m.s anyPol
-- f49 certpath/step.Leave$1
theorem F49 (e : Mapp) : Fn Try.prog 49 [.pv (.agg (eMapp e))] [] (fun res _ => res = sc (.bool (spMap e))) := by
  refine Fn.intro (rs := [.tmp 2]) hT Try.func49 (by kernel_rfl) rfl rfl rfl rfl fun C => ?_
  repeat (first | refine AwOps.v hT rfl ?_ | refine AwOps.eff hT rfl ?_ | refine AwOps.nil ?_ | refine Aw.seq ?_ | refine Aw.region ?_ | refine Aw.block ?_ | refine Aw.skip ?_ | refine Aw.exit ?_ | refine Aw.condT rfl ?_ | refine Aw.condF rfl ?_ | refine AwOps.build hT rfl ?_ | refine AwOps.lit hT rfl ?_ | refine AwSch.take (Yd.val hT rfl rfl) ?_ | refine AwSch.take (Yd.build hT rfl) ?_ | refine AwSch.nil ?_)
  refine AwOps.split (t := 6) rfl (fun hb1 => ?_) (fun hb1 => ?_)
  · skip
    repeat (first | refine AwOps.v hT rfl ?_ | refine AwOps.eff hT rfl ?_ | refine AwOps.nil ?_ | refine Aw.seq ?_ | refine Aw.region ?_ | refine Aw.block ?_ | refine Aw.skip ?_ | refine Aw.exit ?_ | refine Aw.condT rfl ?_ | refine Aw.condF rfl ?_ | refine AwOps.build hT rfl ?_ | refine AwOps.lit hT rfl ?_ | refine AwSch.take (Yd.val hT rfl rfl) ?_ | refine AwSch.take (Yd.build hT rfl) ?_ | refine AwSch.nil ?_)
    refine Aw.ret ?_
    exact ⟨_, [], rfl, trivial, scb (by have h : seq e.i anyPol = true := hb1; rw [spMap, h]; rfl)⟩
  · skip
    repeat (first | refine AwOps.v hT rfl ?_ | refine AwOps.eff hT rfl ?_ | refine AwOps.nil ?_ | refine Aw.seq ?_ | refine Aw.region ?_ | refine Aw.block ?_ | refine Aw.skip ?_ | refine Aw.exit ?_ | refine Aw.condT rfl ?_ | refine Aw.condF rfl ?_ | refine AwOps.build hT rfl ?_ | refine AwOps.lit hT rfl ?_ | refine AwSch.take (Yd.val hT rfl rfl) ?_ | refine AwSch.take (Yd.build hT rfl) ?_ | refine AwSch.nil ?_)
    refine Aw.ret ?_
    exact ⟨_, [], rfl, trivial, scb (by have h : seq e.i anyPol = false := hb1; rw [spMap, h]; rfl)⟩
end Go.Proofs.Ythhjfcmkelmobaa.Aw
