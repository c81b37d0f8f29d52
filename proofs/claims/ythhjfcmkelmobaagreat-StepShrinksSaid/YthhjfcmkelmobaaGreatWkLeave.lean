
/- The walks of Leave.
   Conditions: none. -/
import Derived.Test.YthhjfcmkelmobaaGreatWkRun
import Derived.Test.YthhjfcmkelmobaaGreatAwPtr
namespace Go.Proofs.YthhjfcmkelmobaaGreat.Aw
open Go
set_option maxRecDepth 100000
set_option maxHeartbeats 4000000
set_option linter.unusedSimpArgs false
set_option linter.unusedVariables false

def zeroP : Progress := ⟨[], ⟨0, ⟨#[]⟩, ⟨#[]⟩⟩, false, 0, 0, 0, 0, []⟩
def fallS (c : Cert) : Bool := !selfIssued c
def listsS (c : Cert) : Bool := (c.info.usage == 0) || (band c.info.usage 64 != 0)
def lenS (s : Progress) (c : Cert) : Int := if fallS c then IntKind.wrap .i64 (s.length - 1) else s.length
def consS (s : Progress) (c : Cert) : List Sub := if c.info.hasConstraints then s.cons ++ [c.info.constraints] else s.cons
/-- The state behind a certificate. -/
def leaveP (s : Progress) (c : Cert) : Progress := ⟨c.subject, c.key, listsS c, leastS (lenS s c) c.info.pathLen,
  lessS' s.explicit (fallS c) c.info.requireExplicit, lessS' s.mapping (fallS c) c.info.inhibitMapping, lessS' s.any (fallS c) c.info.inhibitAny, consS s c⟩
def leaveC (s : Progress) (c : Cert) : Int := if c.info.mappings.any spMap then 8 else if !c.info.ca then 9 else if fallS c && decide (s.length < 1) then 10 else if c.info.usage != 0 && (band c.info.usage 32 == 0) then 11 else 0
theorem lvx {s : Progress} {c : Cert} {n : Int} {p : Progress} (hc : leaveC s c = n) (hp : (if n == 0 then leaveP s c else zeroP) = p) : AV.tup [.agg (ePr p), .one (.p (.v (.int .i64 n)))] = AV.tup [.agg (ePr (if leaveC s c == 0 then leaveP s c else zeroP)), .one (.p (.v (.int .i64 (leaveC s c))))] := by
  subst hp
  rw [hc]
def dec1 (x : Int) : Int := if x > 0 then IntKind.wrap .i64 (x - 1) else x
def decI (j k : Nat) (x : Int) : Int := if k < j then dec1 x else x
def fallD (c : Cert) (x : Int) : Int := if fallS c && decide (x > 0) then IntKind.wrap .i64 (x - 1) else x
theorem decI0 {k : Nat} {x : Int} : decI 0 k x = x := by simp [decI]
theorem decI_p {j k : Nat} {x : Int} (h : decide (decI j k x > 0) = true) (hk : ¬ k < j) : IntKind.wrap .i64 (decI j k x - 1) = dec1 x := by
  rw [decI, if_neg hk] at h ⊢
  rw [dec1, if_pos (of_decide_eq_true h)]
theorem decI_n {j k : Nat} {x : Int} (h : decide (decI j k x > 0) = false) (hk : ¬ k < j) : decI j k x = dec1 x := by
  rw [decI, if_neg hk] at h ⊢
  rw [dec1, if_neg (of_decide_eq_false h)]
theorem fallD_t {c : Cert} {x : Int} (h : fallS c = true) : dec1 x = fallD c x := by simp [fallD, h, dec1]
theorem fallD_f {c : Cert} {x : Int} (h : fallS c = false) : x = fallD c x := by simp [fallD, h]
theorem fall_f {c : Cert} (h : (!selfIssued c) = false) : fallS c = false := h
-- f23 certpath/step.Leave
theorem F23 (s : Progress) (c : Cert) (hs : okP s) (h1 : okN c.issuer) (h2 : okN c.subject) (hi : okI c.info) (h4 : okNm c.subject) : Fn Tryz.prog 8 [.pv (.agg (ePr s)), .pv (.agg (eCert c))] [] (fun r _ => r = .tup [.agg (ePr (if leaveC s c == 0 then leaveP s c else zeroP)), .one (.p (.v (.int .i64 (leaveC s c))))]) := by
  refine Fn.intro (rs := [.cell 4 34, .tmp 5]) hT Tryz.func8 (by kernel_rfl) rfl rfl rfl rfl fun C => ?_
  have h3 := hi.2.2.2.2.2.1
  have hm := hi.2.1
  have hs0 := hs.1
  have hs1 := hs.2.1
  have hs2 := hs.2.2
  have hcs : ∀ x ∈ s.cons ++ [c.info.constraints], okSub x := by
    intro x hx
    rcases List.mem_append.1 hx with h | h
    · exact hs2 x h
    · rw [List.mem_singleton.1 h]; exact h3
  repeat (first | refine AwOps.nil ?_ | refine AwSch.nil ?_ | refine Aw.seq ?_ | refine Aw.region ?_ | refine Aw.block ?_ | refine Aw.skip ?_ | refine Aw.exit ?_ | refine Aw.condT rfl ?_ | refine Aw.condF rfl ?_)
  iterate 3 refine AwOps.eff hT rfl ?_
  refine AwOps.v hT rfl ?_
  repeat (first | refine AwOps.nil ?_ | refine AwSch.nil ?_ | refine Aw.seq ?_ | refine Aw.region ?_ | refine Aw.block ?_ | refine Aw.skip ?_ | refine Aw.exit ?_ | refine Aw.condT rfl ?_ | refine Aw.condF rfl ?_)
  refine AwOps.v hT rfl ?_
  repeat (first | refine AwOps.nil ?_ | refine AwSch.nil ?_ | refine Aw.seq ?_ | refine Aw.region ?_ | refine Aw.block ?_ | refine Aw.skip ?_ | refine Aw.exit ?_ | refine Aw.condT rfl ?_ | refine Aw.condF rfl ?_)
  refine AwOps.v hT rfl ?_
  refine AwOps.cl (F47 _ (by assumption) (by assumption)) [] rfl ⟨⟨rfl, rfl⟩, trivial⟩ trivial rfl ?_   -- cert.SelfIssued
  rintro _ _ rfl
  refine AwOps.v hT rfl ?_
  repeat (first | refine AwOps.nil ?_ | refine AwSch.nil ?_ | refine Aw.seq ?_ | refine Aw.region ?_ | refine Aw.block ?_ | refine Aw.skip ?_ | refine Aw.exit ?_ | refine Aw.condT rfl ?_ | refine Aw.condF rfl ?_)
  iterate 4 refine AwOps.v hT rfl ?_
  refine AwOps.cl (F50 21 _ F49 _) [] rfl ⟨⟨rfl, rfl⟩, ⟨rfl, rfl⟩, trivial⟩ trivial rfl ?_   -- api.Mapping]
  rintro _ _ rfl
  refine AwOps.v hT rfl ?_
  repeat (first | refine AwOps.nil ?_ | refine AwSch.nil ?_ | refine Aw.seq ?_ | refine Aw.region ?_ | refine Aw.block ?_ | refine Aw.skip ?_ | refine Aw.exit ?_ | refine Aw.condT rfl ?_ | refine Aw.condF rfl ?_)
  refine Aw.joinQ (fun σ' => (leaveC s c = 0) ∧ Tn σ' ⟨135, [(2, .one (.ptr 2 0)), (3, .one (.ptr 3 0)), (4, .one (.ptr 4 0)), (7, sc (.bool (selfIssued c)))], [(2, .box ⟨34, ePr s, []⟩), (3, .box ⟨46, eCert c, []⟩), (4, .box ⟨34, [.sl (List.map eRdn []), .v (.int .i64 0), .v (.string ⟨#[]⟩), .v (.string ⟨#[]⟩), .v (.bool false), .v (.int .i64 0), .v (.int .i64 0), .v (.int .i64 0), .v (.int .i64 0), .sl (List.map eSub [])], [(0, .nil), (9, .nil)]⟩)]⟩) ?_ (fun _ hj => ?_)
  · skip
    repeat (first | refine AwOps.nil ?_ | refine AwSch.nil ?_ | refine Aw.seq ?_ | refine Aw.region ?_ | refine Aw.block ?_ | refine Aw.skip ?_ | refine Aw.exit ?_ | refine Aw.condT rfl ?_ | refine Aw.condF rfl ?_)
    refine Aw.tst rfl (fun hb12 => ?_) (fun hb12 => ?_)
    · skip
      have hmap : c.info.mappings.any spMap = true := hb12
      repeat (first | refine AwOps.nil ?_ | refine AwSch.nil ?_ | refine Aw.seq ?_ | refine Aw.region ?_ | refine Aw.block ?_ | refine Aw.skip ?_ | refine Aw.exit ?_ | refine Aw.condT rfl ?_ | refine Aw.condF rfl ?_)
      refine AwOps.build hT rfl ?_
      refine AwOps.turn (Less.say (t := 18) (B := .agg [.sl (List.map eRdn []), .v (.int .i64 0), .v (.string ⟨#[]⟩), .v (.string ⟨#[]⟩), .v (.bool false), .v (.int .i64 0), .v (.int .i64 0), .v (.int .i64 0), .v (.int .i64 0), .sl (List.map eSub [])]) rfl rfl) ?_
      refine AwOps.eff hT rfl ?_
      refine AwOps.v hT rfl ?_
      repeat (first | refine AwOps.nil ?_ | refine AwSch.nil ?_ | refine Aw.seq ?_ | refine Aw.region ?_ | refine Aw.block ?_ | refine Aw.skip ?_ | refine Aw.exit ?_ | refine Aw.condT rfl ?_ | refine Aw.condF rfl ?_)
      refine Aw.ret ?_
      refine ⟨_, [], rfl, trivial, ?_⟩
      exact lvx (n := 8) (p := zeroP) (by rw [leaveC, if_pos hmap]) rfl
    · skip
      have hmap : c.info.mappings.any spMap = false := hb12
      repeat (first | refine AwOps.nil ?_ | refine AwSch.nil ?_ | refine Aw.seq ?_ | refine Aw.region ?_ | refine Aw.block ?_ | refine Aw.skip ?_ | refine Aw.exit ?_ | refine Aw.condT rfl ?_ | refine Aw.condF rfl ?_)
      iterate 5 refine AwOps.v hT rfl ?_
      repeat (first | refine AwOps.nil ?_ | refine AwSch.nil ?_ | refine Aw.seq ?_ | refine Aw.region ?_ | refine Aw.block ?_ | refine Aw.skip ?_ | refine Aw.exit ?_ | refine Aw.condT rfl ?_ | refine Aw.condF rfl ?_)
      refine Aw.tst rfl (fun hb19 => ?_) (fun hb19 => ?_)
      · skip
        repeat (first | refine AwOps.nil ?_ | refine AwSch.nil ?_ | refine Aw.seq ?_ | refine Aw.region ?_ | refine Aw.block ?_ | refine Aw.skip ?_ | refine Aw.exit ?_ | refine Aw.condT rfl ?_ | refine Aw.condF rfl ?_)
        refine AwOps.build hT rfl ?_
        refine AwOps.turn (Less.say (t := 24) (B := .agg [.sl (List.map eRdn []), .v (.int .i64 0), .v (.string ⟨#[]⟩), .v (.string ⟨#[]⟩), .v (.bool false), .v (.int .i64 0), .v (.int .i64 0), .v (.int .i64 0), .v (.int .i64 0), .sl (List.map eSub [])]) rfl rfl) ?_
        refine AwOps.eff hT rfl ?_
        refine AwOps.v hT rfl ?_
        repeat (first | refine AwOps.nil ?_ | refine AwSch.nil ?_ | refine Aw.seq ?_ | refine Aw.region ?_ | refine Aw.block ?_ | refine Aw.skip ?_ | refine Aw.exit ?_ | refine Aw.condT rfl ?_ | refine Aw.condF rfl ?_)
        refine Aw.ret ?_
        refine ⟨_, [], rfl, trivial, ?_⟩
        exact lvx (n := 9) (p := zeroP) (by rw [leaveC, if_neg (by rw [hmap]; decide)]; clear hmap; simp_all [fallS]) rfl
      · skip
        repeat (first | refine AwOps.nil ?_ | refine AwSch.nil ?_ | refine Aw.seq ?_ | refine Aw.region ?_ | refine Aw.block ?_ | refine Aw.skip ?_ | refine Aw.exit ?_ | refine Aw.condT rfl ?_ | refine Aw.condF rfl ?_)
        iterate 3 refine AwOps.v hT rfl ?_
        refine AwOps.split (t := 28) rfl (fun hb28 => ?_) (fun hb28 => ?_)
        · skip
          iterate 5 refine AwOps.v hT rfl ?_
          repeat (first | refine AwOps.nil ?_ | refine AwSch.nil ?_ | refine Aw.seq ?_ | refine Aw.region ?_ | refine Aw.block ?_ | refine Aw.skip ?_ | refine Aw.exit ?_ | refine Aw.condT rfl ?_ | refine Aw.condF rfl ?_)
          refine Aw.tst rfl (fun hb25 => ?_) (fun hb25 => ?_)
          · skip
            repeat (first | refine AwOps.nil ?_ | refine AwSch.nil ?_ | refine Aw.seq ?_ | refine Aw.region ?_ | refine Aw.block ?_ | refine Aw.skip ?_ | refine Aw.exit ?_ | refine Aw.condT rfl ?_ | refine Aw.condF rfl ?_)
            refine AwOps.build hT rfl ?_
            refine AwOps.turn (Less.say (t := 33) (B := .agg [.sl (List.map eRdn []), .v (.int .i64 0), .v (.string ⟨#[]⟩), .v (.string ⟨#[]⟩), .v (.bool false), .v (.int .i64 0), .v (.int .i64 0), .v (.int .i64 0), .v (.int .i64 0), .sl (List.map eSub [])]) rfl rfl) ?_
            refine AwOps.eff hT rfl ?_
            refine AwOps.v hT rfl ?_
            repeat (first | refine AwOps.nil ?_ | refine AwSch.nil ?_ | refine Aw.seq ?_ | refine Aw.region ?_ | refine Aw.block ?_ | refine Aw.skip ?_ | refine Aw.exit ?_ | refine Aw.condT rfl ?_ | refine Aw.condF rfl ?_)
            refine Aw.ret ?_
            refine ⟨_, [], rfl, trivial, ?_⟩
            exact lvx (n := 10) (p := zeroP) (by rw [leaveC, if_neg (by rw [hmap]; decide)]; clear hmap; simp_all [fallS]) rfl
          · skip
            repeat (first | refine AwOps.nil ?_ | refine AwSch.nil ?_ | refine Aw.seq ?_ | refine Aw.region ?_ | refine Aw.block ?_ | refine Aw.skip ?_ | refine Aw.exit ?_ | refine Aw.condT rfl ?_ | refine Aw.condF rfl ?_)
            iterate 5 refine AwOps.v hT rfl ?_
            refine AwOps.split (t := 39) rfl (fun hb39 => ?_) (fun hb39 => ?_)
            · skip
              iterate 3 refine AwOps.v hT rfl ?_
              refine AwOps.bin rfl _ rfl band_run ?_
              iterate 3 refine AwOps.v hT rfl ?_
              repeat (first | refine AwOps.nil ?_ | refine AwSch.nil ?_ | refine Aw.seq ?_ | refine Aw.region ?_ | refine Aw.block ?_ | refine Aw.skip ?_ | refine Aw.exit ?_ | refine Aw.condT rfl ?_ | refine Aw.condF rfl ?_)
              refine Aw.tst rfl (fun hb34 => ?_) (fun hb34 => ?_)
              · skip
                repeat (first | refine AwOps.nil ?_ | refine AwSch.nil ?_ | refine Aw.seq ?_ | refine Aw.region ?_ | refine Aw.block ?_ | refine Aw.skip ?_ | refine Aw.exit ?_ | refine Aw.condT rfl ?_ | refine Aw.condF rfl ?_)
                refine AwOps.build hT rfl ?_
                refine AwOps.turn (Less.say (t := 46) (B := .agg [.sl (List.map eRdn []), .v (.int .i64 0), .v (.string ⟨#[]⟩), .v (.string ⟨#[]⟩), .v (.bool false), .v (.int .i64 0), .v (.int .i64 0), .v (.int .i64 0), .v (.int .i64 0), .sl (List.map eSub [])]) rfl rfl) ?_
                refine AwOps.eff hT rfl ?_
                refine AwOps.v hT rfl ?_
                repeat (first | refine AwOps.nil ?_ | refine AwSch.nil ?_ | refine Aw.seq ?_ | refine Aw.region ?_ | refine Aw.block ?_ | refine Aw.skip ?_ | refine Aw.exit ?_ | refine Aw.condT rfl ?_ | refine Aw.condF rfl ?_)
                refine Aw.ret ?_
                refine ⟨_, [], rfl, trivial, ?_⟩
                exact lvx (n := 11) (p := zeroP) (by rw [leaveC, if_neg (by rw [hmap]; decide)]; clear hmap; simp_all [fallS]) rfl
              · skip
                repeat (first | refine AwOps.nil ?_ | refine AwSch.nil ?_ | refine Aw.seq ?_ | refine Aw.region ?_ | refine Aw.block ?_ | refine Aw.skip ?_ | refine Aw.exit ?_ | refine Aw.condT rfl ?_ | refine Aw.condF rfl ?_)
                exact ⟨(by rw [leaveC, if_neg (by rw [hmap]; decide)]; clear hmap; simp_all [fallS]), Less.tn ⟨rfl, ⟨rfl, rfl, rfl, (by first | rfl | simp [hb28] | (have h28 := hb28; simp at h28; rw [h28])), trivial⟩, ⟨rfl, rfl, rfl, trivial⟩⟩⟩
            · skip
              iterate 7 refine AwOps.v hT rfl ?_
              repeat (first | refine AwOps.nil ?_ | refine AwSch.nil ?_ | refine Aw.seq ?_ | refine Aw.region ?_ | refine Aw.block ?_ | refine Aw.skip ?_ | refine Aw.exit ?_ | refine Aw.condT rfl ?_ | refine Aw.condF rfl ?_)
              exact ⟨(by rw [leaveC, if_neg (by rw [hmap]; decide)]; clear hmap; simp_all [fallS]), Less.tn ⟨rfl, ⟨rfl, rfl, rfl, (by first | rfl | simp [hb28] | (have h28 := hb28; simp at h28; rw [h28])), trivial⟩, ⟨rfl, rfl, rfl, trivial⟩⟩⟩
        · skip
          iterate 5 refine AwOps.v hT rfl ?_
          repeat (first | refine AwOps.nil ?_ | refine AwSch.nil ?_ | refine Aw.seq ?_ | refine Aw.region ?_ | refine Aw.block ?_ | refine Aw.skip ?_ | refine Aw.exit ?_ | refine Aw.condT rfl ?_ | refine Aw.condF rfl ?_)
          iterate 5 refine AwOps.v hT rfl ?_
          refine AwOps.split (t := 39) rfl (fun hb39 => ?_) (fun hb39 => ?_)
          · skip
            iterate 3 refine AwOps.v hT rfl ?_
            refine AwOps.bin rfl _ rfl band_run ?_
            iterate 3 refine AwOps.v hT rfl ?_
            repeat (first | refine AwOps.nil ?_ | refine AwSch.nil ?_ | refine Aw.seq ?_ | refine Aw.region ?_ | refine Aw.block ?_ | refine Aw.skip ?_ | refine Aw.exit ?_ | refine Aw.condT rfl ?_ | refine Aw.condF rfl ?_)
            refine Aw.tst rfl (fun hb34 => ?_) (fun hb34 => ?_)
            · skip
              repeat (first | refine AwOps.nil ?_ | refine AwSch.nil ?_ | refine Aw.seq ?_ | refine Aw.region ?_ | refine Aw.block ?_ | refine Aw.skip ?_ | refine Aw.exit ?_ | refine Aw.condT rfl ?_ | refine Aw.condF rfl ?_)
              refine AwOps.build hT rfl ?_
              refine AwOps.turn (Less.say (t := 46) (B := .agg [.sl (List.map eRdn []), .v (.int .i64 0), .v (.string ⟨#[]⟩), .v (.string ⟨#[]⟩), .v (.bool false), .v (.int .i64 0), .v (.int .i64 0), .v (.int .i64 0), .v (.int .i64 0), .sl (List.map eSub [])]) rfl rfl) ?_
              refine AwOps.eff hT rfl ?_
              refine AwOps.v hT rfl ?_
              repeat (first | refine AwOps.nil ?_ | refine AwSch.nil ?_ | refine Aw.seq ?_ | refine Aw.region ?_ | refine Aw.block ?_ | refine Aw.skip ?_ | refine Aw.exit ?_ | refine Aw.condT rfl ?_ | refine Aw.condF rfl ?_)
              refine Aw.ret ?_
              refine ⟨_, [], rfl, trivial, ?_⟩
              exact lvx (n := 11) (p := zeroP) (by rw [leaveC, if_neg (by rw [hmap]; decide)]; clear hmap; simp_all [fallS]) rfl
            · skip
              repeat (first | refine AwOps.nil ?_ | refine AwSch.nil ?_ | refine Aw.seq ?_ | refine Aw.region ?_ | refine Aw.block ?_ | refine Aw.skip ?_ | refine Aw.exit ?_ | refine Aw.condT rfl ?_ | refine Aw.condF rfl ?_)
              exact ⟨(by rw [leaveC, if_neg (by rw [hmap]; decide)]; clear hmap; simp_all [fallS]), Less.tn ⟨rfl, ⟨rfl, rfl, rfl, (by first | rfl | simp [hb28] | (have h28 := hb28; simp at h28; rw [h28])), trivial⟩, ⟨rfl, rfl, rfl, trivial⟩⟩⟩
          · skip
            iterate 7 refine AwOps.v hT rfl ?_
            repeat (first | refine AwOps.nil ?_ | refine AwSch.nil ?_ | refine Aw.seq ?_ | refine Aw.region ?_ | refine Aw.block ?_ | refine Aw.skip ?_ | refine Aw.exit ?_ | refine Aw.condT rfl ?_ | refine Aw.condF rfl ?_)
            exact ⟨(by rw [leaveC, if_neg (by rw [hmap]; decide)]; clear hmap; simp_all [fallS]), Less.tn ⟨rfl, ⟨rfl, rfl, rfl, (by first | rfl | simp [hb28] | (have h28 := hb28; simp at h28; rw [h28])), trivial⟩, ⟨rfl, rfl, rfl, trivial⟩⟩⟩
  · skip
    have hc0 := hj.1
    refine Aw.turn hj.2 ?_
    repeat (first | refine AwOps.nil ?_ | refine AwSch.nil ?_ | refine Aw.seq ?_ | refine Aw.region ?_ | refine Aw.block ?_ | refine Aw.skip ?_ | refine Aw.exit ?_ | refine Aw.condT rfl ?_ | refine Aw.condF rfl ?_)
    refine Aw.joinQ (fun σ' => (True) ∧ Tn σ' ⟨135, [(2, .one (.ptr 2 0)), (3, .one (.ptr 3 0)), (4, .one (.ptr 4 0)), (7, sc (.bool (selfIssued c)))], [(2, .box ⟨34, [.sl (List.map eRdn c.subject), .v (.int .i64 c.key.h), .v (.string c.key.id), .v (.string c.key.root), .v (.bool (listsS c)), .v (.int .i64 (s.length)), .v (.int .i64 (s.explicit)), .v (.int .i64 (s.mapping)), .v (.int .i64 (s.any)), .sl (List.map eSub (s.cons))], []⟩), (3, .box ⟨46, eCert c, []⟩), (4, .box ⟨34, [.sl (List.map eRdn []), .v (.int .i64 0), .v (.string ⟨#[]⟩), .v (.string ⟨#[]⟩), .v (.bool false), .v (.int .i64 0), .v (.int .i64 0), .v (.int .i64 0), .v (.int .i64 0), .sl (List.map eSub [])], [(0, .nil), (9, .nil)]⟩)]⟩) ?_ (fun _ hj => ?_)
    · skip
      refine Aw.regionS [2] [(true, 0), (true, 1), (true, 3), (true, 4), (true, 5), (true, 6), (true, 7), (true, 8), (false, 2), (true, 9), (true, 10), (true, 11), (true, 12), (true, 13), (true, 14), (true, 15), (true, 16), (false, 17), (true, 18), (false, 19), (true, 20), (false, 21)] (by kernel_rfl) (by kernel_rfl) ?_
      iterate 8 refine AwSch.take (Yd.val hT rfl rfl) ?_
      refine AwSch.one ?_
      refine Ed.cl (F39 _ h4) [] rfl ⟨⟨rfl, rfl⟩, trivial⟩ trivial rfl rfl ?_   -- copies.Name
      rintro _ _ rfl
      refine AwSch.take (Yd.val hT rfl rfl) ?_
      refine AwSch.split (t := 56) rfl (fun hb56 => ?_) (fun hb56 => ?_)
      · skip
        iterate 7 refine AwSch.take (Yd.val hT rfl rfl) ?_
        refine AwSch.one ?_
        refine Ed.eff hT rfl (fun b hb => by injection hb with hb; subst hb; decide) ?_
        refine AwSch.sayH (b := 2) (B := .box ⟨34, [_, _, _, _, _, _, _, _, _, _], []⟩) rfl rfl ?_
        refine AwSch.take (Yd.val hT rfl rfl) ?_
        refine AwSch.one ?_
        refine Ed.eff hT rfl (fun b hb => by injection hb with hb; subst hb; decide) ?_
        refine AwSch.sayH (b := 2) (B := .box ⟨34, [_, _, _, _, _, _, _, _, _, _], []⟩) rfl rfl ?_
        refine AwSch.take (Yd.val hT rfl rfl) ?_
        refine AwSch.one ?_
        refine Ed.eff hT rfl (fun b hb => by injection hb with hb; subst hb; decide) ?_
        refine AwSch.sayH (b := 2) (B := .box ⟨34, [_, _, _, _, _, _, _, _, _, _], []⟩) rfl rfl ?_
        repeat (first | refine AwOps.nil ?_ | refine AwSch.nil ?_ | refine Aw.seq ?_ | refine Aw.region ?_ | refine Aw.block ?_ | refine Aw.skip ?_ | refine Aw.exit ?_ | refine Aw.condT rfl ?_ | refine Aw.condF rfl ?_)
        exact ⟨trivial, Less.tn ⟨rfl, ⟨rfl, rfl, rfl, rfl, trivial⟩, ⟨(by first | (rw [show listsS c = true by (unfold listsS; simp_all)]; rfl) | (rw [show listsS c = (band c.info.usage 64 != 0) by (unfold listsS; simp_all)]; rfl)), rfl, rfl, trivial⟩⟩⟩
      · skip
        iterate 3 refine AwSch.take (Yd.val hT rfl rfl) ?_
        refine AwSch.take (Yd.bin rfl _ rfl band_run) ?_
        iterate 3 refine AwSch.take (Yd.val hT rfl rfl) ?_
        refine AwSch.one ?_
        refine Ed.eff hT rfl (fun b hb => by injection hb with hb; subst hb; decide) ?_
        refine AwSch.sayH (b := 2) (B := .box ⟨34, [_, _, _, _, _, _, _, _, _, _], []⟩) rfl rfl ?_
        refine AwSch.take (Yd.val hT rfl rfl) ?_
        refine AwSch.one ?_
        refine Ed.eff hT rfl (fun b hb => by injection hb with hb; subst hb; decide) ?_
        refine AwSch.sayH (b := 2) (B := .box ⟨34, [_, _, _, _, _, _, _, _, _, _], []⟩) rfl rfl ?_
        refine AwSch.take (Yd.val hT rfl rfl) ?_
        refine AwSch.one ?_
        refine Ed.eff hT rfl (fun b hb => by injection hb with hb; subst hb; decide) ?_
        refine AwSch.sayH (b := 2) (B := .box ⟨34, [_, _, _, _, _, _, _, _, _, _], []⟩) rfl rfl ?_
        repeat (first | refine AwOps.nil ?_ | refine AwSch.nil ?_ | refine Aw.seq ?_ | refine Aw.region ?_ | refine Aw.block ?_ | refine Aw.skip ?_ | refine Aw.exit ?_ | refine Aw.condT rfl ?_ | refine Aw.condF rfl ?_)
        exact ⟨trivial, Less.tn ⟨rfl, ⟨rfl, rfl, rfl, rfl, trivial⟩, ⟨(by first | (rw [show listsS c = true by (unfold listsS; simp_all)]; rfl) | (rw [show listsS c = (band c.info.usage 64 != 0) by (unfold listsS; simp_all)]; rfl)), rfl, rfl, trivial⟩⟩⟩
    · skip
      refine Aw.turn hj.2 ?_
      repeat (first | refine AwOps.nil ?_ | refine AwSch.nil ?_ | refine Aw.seq ?_ | refine Aw.region ?_ | refine Aw.block ?_ | refine Aw.skip ?_ | refine Aw.exit ?_ | refine Aw.condT rfl ?_ | refine Aw.condF rfl ?_)
      refine AwOps.v hT rfl ?_
      refine AwOps.v hT rfl ?_
      refine AwOps.cl (F51 s.cons (by omega) hs2) [] rfl ⟨⟨rfl, rfl⟩, trivial⟩ trivial rfl ?_   -- copies.NameState
      rintro _ _ rfl
      refine AwOps.v hT rfl ?_
      refine AwOps.eff hT rfl ?_
      refine AwOps.turn (Tn.sayH (b := 2) (B := .box ⟨34, [_, _, _, _, _, _, _, _, _, _], []⟩) rfl rfl) ?_
      repeat (first | refine AwOps.nil ?_ | refine AwSch.nil ?_ | refine Aw.seq ?_ | refine Aw.region ?_ | refine Aw.block ?_ | refine Aw.skip ?_ | refine Aw.exit ?_ | refine Aw.condT rfl ?_ | refine Aw.condF rfl ?_)
      iterate 3 refine AwOps.v hT rfl ?_
      repeat (first | refine AwOps.nil ?_ | refine AwSch.nil ?_ | refine Aw.seq ?_ | refine Aw.region ?_ | refine Aw.block ?_ | refine Aw.skip ?_ | refine Aw.exit ?_ | refine Aw.condT rfl ?_ | refine Aw.condF rfl ?_)
      refine Aw.joinQ (fun σ' => (True) ∧ Tn σ' ⟨135, [(2, .one (.ptr 2 0)), (3, .one (.ptr 3 0)), (4, .one (.ptr 4 0)), (7, sc (.bool (selfIssued c)))], [(2, .box ⟨34, [.sl (List.map eRdn c.subject), .v (.int .i64 c.key.h), .v (.string c.key.id), .v (.string c.key.root), .v (.bool (listsS c)), .v (.int .i64 (s.length)), .v (.int .i64 (s.explicit)), .v (.int .i64 (s.mapping)), .v (.int .i64 (s.any)), .sl (List.map eSub (consS s c))], []⟩), (3, .box ⟨46, eCert c, []⟩), (4, .box ⟨34, [.sl (List.map eRdn []), .v (.int .i64 0), .v (.string ⟨#[]⟩), .v (.string ⟨#[]⟩), .v (.bool false), .v (.int .i64 0), .v (.int .i64 0), .v (.int .i64 0), .v (.int .i64 0), .sl (List.map eSub [])], [(0, .nil), (9, .nil)]⟩)]⟩) ?_ (fun _ hj => ?_)
      · skip
        repeat (first | refine AwOps.nil ?_ | refine AwSch.nil ?_ | refine Aw.seq ?_ | refine Aw.region ?_ | refine Aw.block ?_ | refine Aw.skip ?_ | refine Aw.exit ?_ | refine Aw.condT rfl ?_ | refine Aw.condF rfl ?_)
        refine Aw.tst rfl (fun hb72 => ?_) (fun hb72 => ?_)
        · skip
          repeat (first | refine AwOps.nil ?_ | refine AwSch.nil ?_ | refine Aw.seq ?_ | refine Aw.region ?_ | refine Aw.block ?_ | refine Aw.skip ?_ | refine Aw.exit ?_ | refine Aw.condT rfl ?_ | refine Aw.condF rfl ?_)
          iterate 5 refine AwOps.v hT rfl ?_
          refine AwOps.cl (F52 s.cons c.info.constraints hs1 hs2 h3) [] rfl ⟨⟨rfl, rfl⟩, ⟨rfl, rfl⟩, trivial⟩ trivial rfl ?_   -- subtree.Add
          rintro _ _ rfl
          refine AwOps.cl (F51 (s.cons ++ [c.info.constraints]) (by simp only [List.length_append, List.length_cons, List.length_nil]; omega) hcs) [] rfl ⟨⟨rfl, rfl⟩, trivial⟩ trivial rfl ?_   -- copies.NameState
          rintro _ _ rfl
          refine AwOps.v hT rfl ?_
          refine AwOps.eff hT rfl ?_
          refine AwOps.turn (Tn.sayH (b := 2) (B := .box ⟨34, [_, _, _, _, _, _, _, _, _, _], []⟩) rfl rfl) ?_
          repeat (first | refine AwOps.nil ?_ | refine AwSch.nil ?_ | refine Aw.seq ?_ | refine Aw.region ?_ | refine Aw.block ?_ | refine Aw.skip ?_ | refine Aw.exit ?_ | refine Aw.condT rfl ?_ | refine Aw.condF rfl ?_)
          exact ⟨trivial, Less.tn ⟨rfl, ⟨rfl, rfl, rfl, rfl, trivial⟩, ⟨(by rw [consS, hb72]; rfl), rfl, rfl, trivial⟩⟩⟩
        · skip
          repeat (first | refine AwOps.nil ?_ | refine AwSch.nil ?_ | refine Aw.seq ?_ | refine Aw.region ?_ | refine Aw.block ?_ | refine Aw.skip ?_ | refine Aw.exit ?_ | refine Aw.condT rfl ?_ | refine Aw.condF rfl ?_)
          exact ⟨trivial, Less.tn ⟨rfl, ⟨rfl, rfl, rfl, rfl, trivial⟩, ⟨(by rw [consS, hb72]; rfl), rfl, rfl, trivial⟩⟩⟩
      · skip
        refine Aw.turn hj.2 ?_
        repeat (first | refine AwOps.nil ?_ | refine AwSch.nil ?_ | refine Aw.seq ?_ | refine Aw.region ?_ | refine Aw.block ?_ | refine Aw.skip ?_ | refine Aw.exit ?_ | refine Aw.condT rfl ?_ | refine Aw.condF rfl ?_)
        refine AwOps.v hT rfl ?_
        refine AwOps.v hT rfl ?_
        repeat (first | refine AwOps.nil ?_ | refine AwSch.nil ?_ | refine Aw.seq ?_ | refine Aw.region ?_ | refine Aw.block ?_ | refine Aw.skip ?_ | refine Aw.exit ?_ | refine Aw.condT rfl ?_ | refine Aw.condF rfl ?_)
        refine Aw.joinQ (fun σ' => (True) ∧ Tn σ' ⟨135, [(2, .one (.ptr 2 0)), (3, .one (.ptr 3 0)), (4, .one (.ptr 4 0))], [(2, .box ⟨34, [.sl (List.map eRdn c.subject), .v (.int .i64 c.key.h), .v (.string c.key.id), .v (.string c.key.root), .v (.bool (listsS c)), .v (.int .i64 (lenS s c)), .v (.int .i64 (fallD c s.explicit)), .v (.int .i64 (fallD c s.mapping)), .v (.int .i64 (fallD c s.any)), .sl (List.map eSub (consS s c))], []⟩), (3, .box ⟨46, eCert c, []⟩), (4, .box ⟨34, [.sl (List.map eRdn []), .v (.int .i64 0), .v (.string ⟨#[]⟩), .v (.string ⟨#[]⟩), .v (.bool false), .v (.int .i64 0), .v (.int .i64 0), .v (.int .i64 0), .v (.int .i64 0), .sl (List.map eSub [])], [(0, .nil), (9, .nil)]⟩)]⟩) ?_ (fun _ hj => ?_)
        · skip
          repeat (first | refine AwOps.nil ?_ | refine AwSch.nil ?_ | refine Aw.seq ?_ | refine Aw.region ?_ | refine Aw.block ?_ | refine Aw.skip ?_ | refine Aw.exit ?_ | refine Aw.condT rfl ?_ | refine Aw.condF rfl ?_)
          refine Aw.tst rfl (fun hb82 => ?_) (fun hb82 => ?_)
          · skip
            repeat (first | refine AwOps.nil ?_ | refine AwSch.nil ?_ | refine Aw.seq ?_ | refine Aw.region ?_ | refine Aw.block ?_ | refine Aw.skip ?_ | refine Aw.exit ?_ | refine Aw.condT rfl ?_ | refine Aw.condF rfl ?_)
            iterate 3 refine AwOps.v hT rfl ?_
            first | refine AwOps.nm 85 rfl (by omega) (by omega) ?_ | skip
            refine AwOps.v hT rfl ?_
            refine AwOps.eff hT rfl ?_
            refine AwOps.turn (Tn.sayH (b := 2) (B := .box ⟨34, [_, _, _, _, _, _, _, _, _, _], []⟩) rfl rfl) ?_
            repeat (first | refine AwOps.nil ?_ | refine AwSch.nil ?_ | refine Aw.seq ?_ | refine Aw.region ?_ | refine Aw.block ?_ | refine Aw.skip ?_ | refine Aw.exit ?_ | refine Aw.condT rfl ?_ | refine Aw.condF rfl ?_)
            iterate 3 refine AwOps.v hT rfl ?_
            refine AwOps.litP hT rfl ?_
            refine AwOps.lenP hT rfl ?_
            refine AwOps.v hT rfl ?_
            repeat (first | refine AwOps.nil ?_ | refine AwSch.nil ?_ | refine Aw.seq ?_ | refine Aw.region ?_ | refine Aw.block ?_ | refine Aw.skip ?_ | refine Aw.exit ?_ | refine Aw.condT rfl ?_ | refine Aw.condF rfl ?_)
            have hB1 : (3 : Nat) ≤ maxLen := by unfold maxLen; omega
            repeat (first | refine AwOps.nil ?_ | refine AwSch.nil ?_ | refine Aw.seq ?_ | refine Aw.region ?_ | refine Aw.block ?_ | refine Aw.skip ?_ | refine Aw.exit ?_ | refine Aw.condT rfl ?_ | refine Aw.condF rfl ?_)
            refine Aw.lp (ι := Nat) (n := 135) [(2, _), (3, _), (4, _), (90, _), (91, _)] [(3, _), (4, _), (90, _)] (fun gq => [(92, sc (.int .i64 gq))]) (fun gq => [(2, .box ⟨34, [.sl (List.map eRdn c.subject), .v (.int .i64 c.key.h), .v (.string c.key.id), .v (.string c.key.root), .v (.bool (listsS c)), .v (.int .i64 (IntKind.wrap .i64 (s.length - 1))), .v (.int .i64 (decI gq 0 s.explicit)), .v (.int .i64 (decI gq 1 s.mapping)), .v (.int .i64 (decI gq 2 s.any)), .sl (List.map eSub (consS s c))], []⟩)]) (fun gq => gq ≤ 3 ∧ (True)) (fun gq => 3 - gq) (0) ?ok1 (Less.tn ⟨rfl, ⟨rfl, rfl, rfl, rfl, rfl, rfl, trivial⟩, ⟨rfl, rfl, rfl, rfl, trivial⟩⟩) ?bd1
            case ok1 =>
              try dsimp only
              exact ⟨by omega, trivial⟩
            case bd1 =>
              intro i1 hi1
              try dsimp only at hi1
              show Aw _ _ _ ⟨135, [(92, sc (.int .i64 i1))] ++ [(2, _), (3, _), (4, _), (90, _), (91, _)], [(2, .box ⟨34, [.sl (List.map eRdn c.subject), .v (.int .i64 c.key.h), .v (.string c.key.id), .v (.string c.key.root), .v (.bool (listsS c)), .v (.int .i64 (IntKind.wrap .i64 (s.length - 1))), .v (.int .i64 (decI i1 0 s.explicit)), .v (.int .i64 (decI i1 1 s.mapping)), .v (.int .i64 (decI i1 2 s.any)), .sl (List.map eSub (consS s c))], []⟩)] ++ [(3, _), (4, _), (90, _)]⟩ _
              repeat (first | refine AwOps.nil ?_ | refine AwSch.nil ?_ | refine Aw.seq ?_ | refine Aw.region ?_ | refine Aw.block ?_ | refine Aw.skip ?_ | refine Aw.exit ?_ | refine Aw.condT rfl ?_ | refine Aw.condF rfl ?_)
              refine AwOps.v hT rfl ?_
              repeat (first | refine AwOps.nil ?_ | refine AwSch.nil ?_ | refine Aw.seq ?_ | refine Aw.region ?_ | refine Aw.block ?_ | refine Aw.skip ?_ | refine Aw.exit ?_ | refine Aw.condT rfl ?_ | refine Aw.condF rfl ?_)
              refine Aw.tst rfl (fun hb93 => ?_) (fun hb93 => ?_)
              · skip
                have hlt1 : i1 < 3 := by (have h' := hb93; simp at h'; omega)
                obtain rfl | rfl | rfl : i1 = 0 ∨ i1 = 1 ∨ i1 = 2 := by omega
                · skip
                  repeat (first | refine AwOps.nil ?_ | refine AwSch.nil ?_ | refine Aw.seq ?_ | refine Aw.region ?_ | refine Aw.block ?_ | refine Aw.skip ?_ | refine Aw.exit ?_ | refine Aw.condT rfl ?_ | refine Aw.condF rfl ?_)
                  refine AwOps.idxp hT rfl rfl (by decide) (by decide) ?_
                  refine AwOps.v hT rfl ?_
                  refine AwOps.v hT rfl ?_
                  repeat (first | refine AwOps.nil ?_ | refine AwSch.nil ?_ | refine Aw.seq ?_ | refine Aw.region ?_ | refine Aw.block ?_ | refine Aw.skip ?_ | refine Aw.exit ?_ | refine Aw.condT rfl ?_ | refine Aw.condF rfl ?_)
                  iterate 4 refine AwOps.v hT rfl ?_
                  repeat (first | refine AwOps.nil ?_ | refine AwSch.nil ?_ | refine Aw.seq ?_ | refine Aw.region ?_ | refine Aw.block ?_ | refine Aw.skip ?_ | refine Aw.exit ?_ | refine Aw.condT rfl ?_ | refine Aw.condF rfl ?_)
                  refine Aw.tst rfl (fun hb99 => ?_) (fun hb99 => ?_)
                  · skip
                    repeat (first | refine AwOps.nil ?_ | refine AwSch.nil ?_ | refine Aw.seq ?_ | refine Aw.region ?_ | refine Aw.block ?_ | refine Aw.skip ?_ | refine Aw.exit ?_ | refine Aw.condT rfl ?_ | refine Aw.condF rfl ?_)
                    iterate 4 refine AwOps.v hT rfl ?_
                    first | refine AwOps.nm 103 rfl (by omega) (by omega) ?_ | skip
                    refine AwOps.v hT rfl ?_
                    refine AwOps.eff hT rfl ?_
                    refine AwOps.turn (Tn.sayH (b := 2) (B := .box ⟨34, [_, _, _, _, _, _, _, _, _, _], []⟩) rfl rfl) ?_
                    repeat (first | refine AwOps.nil ?_ | refine AwSch.nil ?_ | refine Aw.seq ?_ | refine Aw.region ?_ | refine Aw.block ?_ | refine Aw.skip ?_ | refine Aw.exit ?_ | refine Aw.condT rfl ?_ | refine Aw.condF rfl ?_)
                    refine AwOps.v hT rfl ?_
                    refine AwOps.v hT rfl ?_
                    repeat (first | refine AwOps.nil ?_ | refine AwSch.nil ?_ | refine Aw.seq ?_ | refine Aw.region ?_ | refine Aw.block ?_ | refine Aw.skip ?_ | refine Aw.exit ?_ | refine Aw.condT rfl ?_ | refine Aw.condF rfl ?_)
                    refine ⟨(0 + 1), ?nx1, ?mu1, Less.tn ⟨rfl, ⟨incS hlt1 hB1, rfl, rfl, rfl, rfl, rfl, trivial⟩, ⟨(by first | (rw [decI_p hb99 (by decide)]; rfl) | (rw [decI_n hb99 (by decide)]; rfl) | (simp [decI, dec1, hb99]; done)), rfl, rfl, rfl, trivial⟩⟩⟩
                    case nx1 =>
                      try dsimp only
                      first | exact ⟨hlt1, trivial⟩ | trivial
                    case mu1 =>
                      try dsimp only
                      first | omega | (simp only [w64] at *; omega) | (simp [w64] at *; omega)
                  · skip
                    repeat (first | refine AwOps.nil ?_ | refine AwSch.nil ?_ | refine Aw.seq ?_ | refine Aw.region ?_ | refine Aw.block ?_ | refine Aw.skip ?_ | refine Aw.exit ?_ | refine Aw.condT rfl ?_ | refine Aw.condF rfl ?_)
                    refine AwOps.v hT rfl ?_
                    refine AwOps.v hT rfl ?_
                    repeat (first | refine AwOps.nil ?_ | refine AwSch.nil ?_ | refine Aw.seq ?_ | refine Aw.region ?_ | refine Aw.block ?_ | refine Aw.skip ?_ | refine Aw.exit ?_ | refine Aw.condT rfl ?_ | refine Aw.condF rfl ?_)
                    refine ⟨(0 + 1), ?nx1, ?mu1, Less.tn ⟨rfl, ⟨incS hlt1 hB1, rfl, rfl, rfl, rfl, rfl, trivial⟩, ⟨(by first | (rw [decI_p hb99 (by decide)]; rfl) | (rw [decI_n hb99 (by decide)]; rfl) | (simp [decI, dec1, hb99]; done)), rfl, rfl, rfl, trivial⟩⟩⟩
                    case nx1 =>
                      try dsimp only
                      first | exact ⟨hlt1, trivial⟩ | trivial
                    case mu1 =>
                      try dsimp only
                      first | omega | (simp only [w64] at *; omega) | (simp [w64] at *; omega)
                · skip
                  repeat (first | refine AwOps.nil ?_ | refine AwSch.nil ?_ | refine Aw.seq ?_ | refine Aw.region ?_ | refine Aw.block ?_ | refine Aw.skip ?_ | refine Aw.exit ?_ | refine Aw.condT rfl ?_ | refine Aw.condF rfl ?_)
                  refine AwOps.idxp hT rfl rfl (by decide) (by decide) ?_
                  refine AwOps.v hT rfl ?_
                  refine AwOps.v hT rfl ?_
                  repeat (first | refine AwOps.nil ?_ | refine AwSch.nil ?_ | refine Aw.seq ?_ | refine Aw.region ?_ | refine Aw.block ?_ | refine Aw.skip ?_ | refine Aw.exit ?_ | refine Aw.condT rfl ?_ | refine Aw.condF rfl ?_)
                  iterate 4 refine AwOps.v hT rfl ?_
                  repeat (first | refine AwOps.nil ?_ | refine AwSch.nil ?_ | refine Aw.seq ?_ | refine Aw.region ?_ | refine Aw.block ?_ | refine Aw.skip ?_ | refine Aw.exit ?_ | refine Aw.condT rfl ?_ | refine Aw.condF rfl ?_)
                  refine Aw.tst rfl (fun hb99 => ?_) (fun hb99 => ?_)
                  · skip
                    repeat (first | refine AwOps.nil ?_ | refine AwSch.nil ?_ | refine Aw.seq ?_ | refine Aw.region ?_ | refine Aw.block ?_ | refine Aw.skip ?_ | refine Aw.exit ?_ | refine Aw.condT rfl ?_ | refine Aw.condF rfl ?_)
                    iterate 4 refine AwOps.v hT rfl ?_
                    first | refine AwOps.nm 103 rfl (by omega) (by omega) ?_ | skip
                    refine AwOps.v hT rfl ?_
                    refine AwOps.eff hT rfl ?_
                    refine AwOps.turn (Tn.sayH (b := 2) (B := .box ⟨34, [_, _, _, _, _, _, _, _, _, _], []⟩) rfl rfl) ?_
                    repeat (first | refine AwOps.nil ?_ | refine AwSch.nil ?_ | refine Aw.seq ?_ | refine Aw.region ?_ | refine Aw.block ?_ | refine Aw.skip ?_ | refine Aw.exit ?_ | refine Aw.condT rfl ?_ | refine Aw.condF rfl ?_)
                    refine AwOps.v hT rfl ?_
                    refine AwOps.v hT rfl ?_
                    repeat (first | refine AwOps.nil ?_ | refine AwSch.nil ?_ | refine Aw.seq ?_ | refine Aw.region ?_ | refine Aw.block ?_ | refine Aw.skip ?_ | refine Aw.exit ?_ | refine Aw.condT rfl ?_ | refine Aw.condF rfl ?_)
                    refine ⟨(1 + 1), ?nx1, ?mu1, Less.tn ⟨rfl, ⟨incS hlt1 hB1, rfl, rfl, rfl, rfl, rfl, trivial⟩, ⟨(by first | (rw [decI_p hb99 (by decide)]; rfl) | (rw [decI_n hb99 (by decide)]; rfl) | (simp [decI, dec1, hb99]; done)), rfl, rfl, rfl, trivial⟩⟩⟩
                    case nx1 =>
                      try dsimp only
                      first | exact ⟨hlt1, trivial⟩ | trivial
                    case mu1 =>
                      try dsimp only
                      first | omega | (simp only [w64] at *; omega) | (simp [w64] at *; omega)
                  · skip
                    repeat (first | refine AwOps.nil ?_ | refine AwSch.nil ?_ | refine Aw.seq ?_ | refine Aw.region ?_ | refine Aw.block ?_ | refine Aw.skip ?_ | refine Aw.exit ?_ | refine Aw.condT rfl ?_ | refine Aw.condF rfl ?_)
                    refine AwOps.v hT rfl ?_
                    refine AwOps.v hT rfl ?_
                    repeat (first | refine AwOps.nil ?_ | refine AwSch.nil ?_ | refine Aw.seq ?_ | refine Aw.region ?_ | refine Aw.block ?_ | refine Aw.skip ?_ | refine Aw.exit ?_ | refine Aw.condT rfl ?_ | refine Aw.condF rfl ?_)
                    refine ⟨(1 + 1), ?nx1, ?mu1, Less.tn ⟨rfl, ⟨incS hlt1 hB1, rfl, rfl, rfl, rfl, rfl, trivial⟩, ⟨(by first | (rw [decI_p hb99 (by decide)]; rfl) | (rw [decI_n hb99 (by decide)]; rfl) | (simp [decI, dec1, hb99]; done)), rfl, rfl, rfl, trivial⟩⟩⟩
                    case nx1 =>
                      try dsimp only
                      first | exact ⟨hlt1, trivial⟩ | trivial
                    case mu1 =>
                      try dsimp only
                      first | omega | (simp only [w64] at *; omega) | (simp [w64] at *; omega)
                · skip
                  repeat (first | refine AwOps.nil ?_ | refine AwSch.nil ?_ | refine Aw.seq ?_ | refine Aw.region ?_ | refine Aw.block ?_ | refine Aw.skip ?_ | refine Aw.exit ?_ | refine Aw.condT rfl ?_ | refine Aw.condF rfl ?_)
                  refine AwOps.idxp hT rfl rfl (by decide) (by decide) ?_
                  refine AwOps.v hT rfl ?_
                  refine AwOps.v hT rfl ?_
                  repeat (first | refine AwOps.nil ?_ | refine AwSch.nil ?_ | refine Aw.seq ?_ | refine Aw.region ?_ | refine Aw.block ?_ | refine Aw.skip ?_ | refine Aw.exit ?_ | refine Aw.condT rfl ?_ | refine Aw.condF rfl ?_)
                  iterate 4 refine AwOps.v hT rfl ?_
                  repeat (first | refine AwOps.nil ?_ | refine AwSch.nil ?_ | refine Aw.seq ?_ | refine Aw.region ?_ | refine Aw.block ?_ | refine Aw.skip ?_ | refine Aw.exit ?_ | refine Aw.condT rfl ?_ | refine Aw.condF rfl ?_)
                  refine Aw.tst rfl (fun hb99 => ?_) (fun hb99 => ?_)
                  · skip
                    repeat (first | refine AwOps.nil ?_ | refine AwSch.nil ?_ | refine Aw.seq ?_ | refine Aw.region ?_ | refine Aw.block ?_ | refine Aw.skip ?_ | refine Aw.exit ?_ | refine Aw.condT rfl ?_ | refine Aw.condF rfl ?_)
                    iterate 4 refine AwOps.v hT rfl ?_
                    first | refine AwOps.nm 103 rfl (by omega) (by omega) ?_ | skip
                    refine AwOps.v hT rfl ?_
                    refine AwOps.eff hT rfl ?_
                    refine AwOps.turn (Tn.sayH (b := 2) (B := .box ⟨34, [_, _, _, _, _, _, _, _, _, _], []⟩) rfl rfl) ?_
                    repeat (first | refine AwOps.nil ?_ | refine AwSch.nil ?_ | refine Aw.seq ?_ | refine Aw.region ?_ | refine Aw.block ?_ | refine Aw.skip ?_ | refine Aw.exit ?_ | refine Aw.condT rfl ?_ | refine Aw.condF rfl ?_)
                    refine AwOps.v hT rfl ?_
                    refine AwOps.v hT rfl ?_
                    repeat (first | refine AwOps.nil ?_ | refine AwSch.nil ?_ | refine Aw.seq ?_ | refine Aw.region ?_ | refine Aw.block ?_ | refine Aw.skip ?_ | refine Aw.exit ?_ | refine Aw.condT rfl ?_ | refine Aw.condF rfl ?_)
                    refine ⟨(2 + 1), ?nx1, ?mu1, Less.tn ⟨rfl, ⟨incS hlt1 hB1, rfl, rfl, rfl, rfl, rfl, trivial⟩, ⟨(by first | (rw [decI_p hb99 (by decide)]; rfl) | (rw [decI_n hb99 (by decide)]; rfl) | (simp [decI, dec1, hb99]; done)), rfl, rfl, rfl, trivial⟩⟩⟩
                    case nx1 =>
                      try dsimp only
                      first | exact ⟨hlt1, trivial⟩ | trivial
                    case mu1 =>
                      try dsimp only
                      first | omega | (simp only [w64] at *; omega) | (simp [w64] at *; omega)
                  · skip
                    repeat (first | refine AwOps.nil ?_ | refine AwSch.nil ?_ | refine Aw.seq ?_ | refine Aw.region ?_ | refine Aw.block ?_ | refine Aw.skip ?_ | refine Aw.exit ?_ | refine Aw.condT rfl ?_ | refine Aw.condF rfl ?_)
                    refine AwOps.v hT rfl ?_
                    refine AwOps.v hT rfl ?_
                    repeat (first | refine AwOps.nil ?_ | refine AwSch.nil ?_ | refine Aw.seq ?_ | refine Aw.region ?_ | refine Aw.block ?_ | refine Aw.skip ?_ | refine Aw.exit ?_ | refine Aw.condT rfl ?_ | refine Aw.condF rfl ?_)
                    refine ⟨(2 + 1), ?nx1, ?mu1, Less.tn ⟨rfl, ⟨incS hlt1 hB1, rfl, rfl, rfl, rfl, rfl, trivial⟩, ⟨(by first | (rw [decI_p hb99 (by decide)]; rfl) | (rw [decI_n hb99 (by decide)]; rfl) | (simp [decI, dec1, hb99]; done)), rfl, rfl, rfl, trivial⟩⟩⟩
                    case nx1 =>
                      try dsimp only
                      first | exact ⟨hlt1, trivial⟩ | trivial
                    case mu1 =>
                      try dsimp only
                      first | omega | (simp only [w64] at *; omega) | (simp [w64] at *; omega)
              · skip
                have hi3 : i1 = 3 := by have h3' := hi1.1; simp at hb93; omega
                subst hi3
                repeat (first | refine AwOps.nil ?_ | refine AwSch.nil ?_ | refine Aw.seq ?_ | refine Aw.region ?_ | refine Aw.block ?_ | refine Aw.skip ?_ | refine Aw.exit ?_ | refine Aw.condT rfl ?_ | refine Aw.condF rfl ?_)
                exact ⟨trivial, Less.tn ⟨rfl, ⟨rfl, rfl, rfl, trivial⟩, ⟨(by first | (rw [← fallD_t (x := s.explicit) hb82, ← fallD_t (x := s.mapping) hb82, ← fallD_t (x := s.any) hb82, lenS, show fallS c = true from hb82]; rfl) | (rw [← fallD_f (x := s.explicit) hb82, ← fallD_f (x := s.mapping) hb82, ← fallD_f (x := s.any) hb82, lenS, show fallS c = false from hb82]; rfl)), rfl, rfl, trivial⟩⟩⟩
          · skip
            repeat (first | refine AwOps.nil ?_ | refine AwSch.nil ?_ | refine Aw.seq ?_ | refine Aw.region ?_ | refine Aw.block ?_ | refine Aw.skip ?_ | refine Aw.exit ?_ | refine Aw.condT rfl ?_ | refine Aw.condF rfl ?_)
            exact ⟨trivial, Less.tn ⟨rfl, ⟨rfl, rfl, rfl, trivial⟩, ⟨(by first | (rw [← fallD_t (x := s.explicit) hb82, ← fallD_t (x := s.mapping) hb82, ← fallD_t (x := s.any) hb82, lenS, show fallS c = true from hb82]; rfl) | (rw [← fallD_f (x := s.explicit) hb82, ← fallD_f (x := s.mapping) hb82, ← fallD_f (x := s.any) hb82, lenS, show fallS c = false from hb82]; rfl)), rfl, rfl, trivial⟩⟩⟩
        · skip
          refine Aw.turn hj.2 ?_
          repeat (first | refine AwOps.nil ?_ | refine AwSch.nil ?_ | refine Aw.seq ?_ | refine Aw.region ?_ | refine Aw.block ?_ | refine Aw.skip ?_ | refine Aw.exit ?_ | refine Aw.condT rfl ?_ | refine Aw.condF rfl ?_)
          iterate 5 refine AwOps.v hT rfl ?_
          refine AwOps.cl (F53 _ _) [] rfl ⟨⟨rfl, rfl⟩, ⟨rfl, rfl⟩, trivial⟩ trivial rfl ?_   -- step.least
          rintro _ _ rfl
          refine AwOps.v hT rfl ?_
          refine AwOps.eff hT rfl ?_
          refine AwOps.turn (Tn.sayH (b := 2) (B := .box ⟨34, [_, _, _, _, _, _, _, _, _, _], []⟩) rfl rfl) ?_
          repeat (first | refine AwOps.nil ?_ | refine AwSch.nil ?_ | refine Aw.seq ?_ | refine Aw.region ?_ | refine Aw.block ?_ | refine Aw.skip ?_ | refine Aw.exit ?_ | refine Aw.condT rfl ?_ | refine Aw.condF rfl ?_)
          refine Aw.joinQ (fun σ' => (True) ∧ Tn σ' ⟨135, [(2, .one (.ptr 2 0)), (3, .one (.ptr 3 0)), (4, .one (.ptr 4 0))], [(2, .box ⟨34, [.sl (List.map eRdn c.subject), .v (.int .i64 c.key.h), .v (.string c.key.id), .v (.string c.key.root), .v (.bool (listsS c)), .v (.int .i64 (leastS (lenS s c) c.info.pathLen)), .v (.int .i64 (leastS (fallD c s.explicit) c.info.requireExplicit)), .v (.int .i64 (leastS (fallD c s.mapping) c.info.inhibitMapping)), .v (.int .i64 (leastS (fallD c s.any) c.info.inhibitAny)), .sl (List.map eSub (consS s c))], []⟩), (3, .box ⟨46, eCert c, []⟩), (4, .box ⟨34, [.sl (List.map eRdn []), .v (.int .i64 0), .v (.string ⟨#[]⟩), .v (.string ⟨#[]⟩), .v (.bool false), .v (.int .i64 0), .v (.int .i64 0), .v (.int .i64 0), .v (.int .i64 0), .sl (List.map eSub [])], [(0, .nil), (9, .nil)]⟩)]⟩) ?_ (fun _ hj => ?_)
          · skip
            refine Aw.regionAny [2] (by kernel_rfl) ?_
            refine AwAny.tk (i := 0) (Yd.val hT rfl rfl) (by kernel_rfl) ?_
            refine AwAny.tk (i := 2) (Yd.val hT rfl rfl) (by kernel_rfl) ?_
            refine AwAny.tk (i := 3) (Yd.val hT rfl rfl) (by kernel_rfl) ?_
            refine AwAny.tk (i := 4) (Yd.val hT rfl rfl) (by kernel_rfl) ?_
            refine AwAny.tk (i := 6) (Yd.val hT rfl rfl) (by kernel_rfl) ?_
            refine AwAny.tk (i := 8) (Yd.val hT rfl rfl) (by kernel_rfl) ?_
            refine AwAny.tk (i := 9) (Yd.val hT rfl rfl) (by kernel_rfl) ?_
            refine AwAny.tk (i := 10) (Yd.val hT rfl rfl) (by kernel_rfl) ?_
            refine AwAny.tk (i := 12) (Yd.val hT rfl rfl) (by kernel_rfl) ?_
            refine AwAny.tk (i := 14) (Yd.val hT rfl rfl) (by kernel_rfl) ?_
            refine AwAny.tk (i := 15) (Yd.val hT rfl rfl) (by kernel_rfl) ?_
            refine AwAny.tk (i := 16) (Yd.val hT rfl rfl) (by kernel_rfl) ?_
            refine AwAny.three (i := 1) (j := 7) (m := 13) (by kernel_rfl) ?_ ?_ ?_
            · skip
              refine Yd.ed (Yd.val hT rfl rfl) ?_
              refine AwAny.three (i := 5) (j := 7) (m := 13) (by kernel_rfl) ?_ ?_ ?_
              · skip
                refine Ed.cl (F53 _ _) [] rfl ⟨⟨rfl, rfl⟩, ⟨rfl, rfl⟩, trivial⟩ trivial rfl rfl ?_   -- step.least
                rintro _ _ rfl
                refine AwAny.two (i := 7) (j := 13) (by kernel_rfl) ?_ ?_
                · skip
                  refine Yd.ed (Yd.val hT rfl rfl) ?_
                  refine AwAny.two (i := 11) (j := 13) (by kernel_rfl) ?_ ?_
                  · skip
                    refine Ed.cl (F53 _ _) [] rfl ⟨⟨rfl, rfl⟩, ⟨rfl, rfl⟩, trivial⟩ trivial rfl rfl ?_   -- step.least
                    rintro _ _ rfl
                    refine AwAny.one (i := 13) (by kernel_rfl) ?_
                    refine Yd.ed (Yd.val hT rfl rfl) ?_
                    refine AwAny.one (i := 17) (by kernel_rfl) ?_
                    refine Ed.cl (F53 _ _) [] rfl ⟨⟨rfl, rfl⟩, ⟨rfl, rfl⟩, trivial⟩ trivial rfl rfl ?_   -- step.least
                    rintro _ _ rfl
                    refine AwAny.tk (i := 18) (Yd.val hT rfl rfl) (by kernel_rfl) ?_
                    refine AwAny.one (i := 19) (by kernel_rfl) ?_
                    refine Ed.eff hT rfl (fun b hb => by injection hb with hb; subst hb; decide) ?_
                    refine AwAny.sayH (b := 2) (B := .box ⟨34, [_, _, _, _, _, _, _, _, _, _], []⟩) rfl rfl ?_
                    refine AwAny.tk (i := 20) (Yd.val hT rfl rfl) (by kernel_rfl) ?_
                    refine AwAny.one (i := 21) (by kernel_rfl) ?_
                    refine Ed.eff hT rfl (fun b hb => by injection hb with hb; subst hb; decide) ?_
                    refine AwAny.sayH (b := 2) (B := .box ⟨34, [_, _, _, _, _, _, _, _, _, _], []⟩) rfl rfl ?_
                    refine AwAny.tk (i := 22) (Yd.val hT rfl rfl) (by kernel_rfl) ?_
                    refine AwAny.one (i := 23) (by kernel_rfl) ?_
                    refine Ed.eff hT rfl (fun b hb => by injection hb with hb; subst hb; decide) ?_
                    refine AwAny.sayH (b := 2) (B := .box ⟨34, [_, _, _, _, _, _, _, _, _, _], []⟩) rfl rfl ?_
                    refine AwAny.done (by kernel_rfl) ?_
                    repeat (first | refine AwOps.nil ?_ | refine AwSch.nil ?_ | refine Aw.seq ?_ | refine Aw.region ?_ | refine Aw.block ?_ | refine Aw.skip ?_ | refine Aw.exit ?_ | refine Aw.condT rfl ?_ | refine Aw.condF rfl ?_)
                    exact ⟨trivial, Less.tn ⟨rfl, ⟨rfl, rfl, rfl, trivial⟩, ⟨rfl, rfl, rfl, trivial⟩⟩⟩
                  · skip
                    refine Yd.ed (Yd.val hT rfl rfl) ?_
                    refine AwAny.one (i := 11) (by kernel_rfl) ?_
                    refine Ed.cl (F53 _ _) [] rfl ⟨⟨rfl, rfl⟩, ⟨rfl, rfl⟩, trivial⟩ trivial rfl rfl ?_   -- step.least
                    rintro _ _ rfl
                    refine AwAny.one (i := 17) (by kernel_rfl) ?_
                    refine Ed.cl (F53 _ _) [] rfl ⟨⟨rfl, rfl⟩, ⟨rfl, rfl⟩, trivial⟩ trivial rfl rfl ?_   -- step.least
                    rintro _ _ rfl
                    refine AwAny.tk (i := 18) (Yd.val hT rfl rfl) (by kernel_rfl) ?_
                    refine AwAny.one (i := 19) (by kernel_rfl) ?_
                    refine Ed.eff hT rfl (fun b hb => by injection hb with hb; subst hb; decide) ?_
                    refine AwAny.sayH (b := 2) (B := .box ⟨34, [_, _, _, _, _, _, _, _, _, _], []⟩) rfl rfl ?_
                    refine AwAny.tk (i := 20) (Yd.val hT rfl rfl) (by kernel_rfl) ?_
                    refine AwAny.one (i := 21) (by kernel_rfl) ?_
                    refine Ed.eff hT rfl (fun b hb => by injection hb with hb; subst hb; decide) ?_
                    refine AwAny.sayH (b := 2) (B := .box ⟨34, [_, _, _, _, _, _, _, _, _, _], []⟩) rfl rfl ?_
                    refine AwAny.tk (i := 22) (Yd.val hT rfl rfl) (by kernel_rfl) ?_
                    refine AwAny.one (i := 23) (by kernel_rfl) ?_
                    refine Ed.eff hT rfl (fun b hb => by injection hb with hb; subst hb; decide) ?_
                    refine AwAny.sayH (b := 2) (B := .box ⟨34, [_, _, _, _, _, _, _, _, _, _], []⟩) rfl rfl ?_
                    refine AwAny.done (by kernel_rfl) ?_
                    repeat (first | refine AwOps.nil ?_ | refine AwSch.nil ?_ | refine Aw.seq ?_ | refine Aw.region ?_ | refine Aw.block ?_ | refine Aw.skip ?_ | refine Aw.exit ?_ | refine Aw.condT rfl ?_ | refine Aw.condF rfl ?_)
                    exact ⟨trivial, Less.tn ⟨rfl, ⟨rfl, rfl, rfl, trivial⟩, ⟨rfl, rfl, rfl, trivial⟩⟩⟩
                · skip
                  refine Yd.ed (Yd.val hT rfl rfl) ?_
                  refine AwAny.one (i := 7) (by kernel_rfl) ?_
                  refine Yd.ed (Yd.val hT rfl rfl) ?_
                  refine AwAny.one (i := 11) (by kernel_rfl) ?_
                  refine Ed.cl (F53 _ _) [] rfl ⟨⟨rfl, rfl⟩, ⟨rfl, rfl⟩, trivial⟩ trivial rfl rfl ?_   -- step.least
                  rintro _ _ rfl
                  refine AwAny.one (i := 17) (by kernel_rfl) ?_
                  refine Ed.cl (F53 _ _) [] rfl ⟨⟨rfl, rfl⟩, ⟨rfl, rfl⟩, trivial⟩ trivial rfl rfl ?_   -- step.least
                  rintro _ _ rfl
                  refine AwAny.tk (i := 18) (Yd.val hT rfl rfl) (by kernel_rfl) ?_
                  refine AwAny.one (i := 19) (by kernel_rfl) ?_
                  refine Ed.eff hT rfl (fun b hb => by injection hb with hb; subst hb; decide) ?_
                  refine AwAny.sayH (b := 2) (B := .box ⟨34, [_, _, _, _, _, _, _, _, _, _], []⟩) rfl rfl ?_
                  refine AwAny.tk (i := 20) (Yd.val hT rfl rfl) (by kernel_rfl) ?_
                  refine AwAny.one (i := 21) (by kernel_rfl) ?_
                  refine Ed.eff hT rfl (fun b hb => by injection hb with hb; subst hb; decide) ?_
                  refine AwAny.sayH (b := 2) (B := .box ⟨34, [_, _, _, _, _, _, _, _, _, _], []⟩) rfl rfl ?_
                  refine AwAny.tk (i := 22) (Yd.val hT rfl rfl) (by kernel_rfl) ?_
                  refine AwAny.one (i := 23) (by kernel_rfl) ?_
                  refine Ed.eff hT rfl (fun b hb => by injection hb with hb; subst hb; decide) ?_
                  refine AwAny.sayH (b := 2) (B := .box ⟨34, [_, _, _, _, _, _, _, _, _, _], []⟩) rfl rfl ?_
                  refine AwAny.done (by kernel_rfl) ?_
                  repeat (first | refine AwOps.nil ?_ | refine AwSch.nil ?_ | refine Aw.seq ?_ | refine Aw.region ?_ | refine Aw.block ?_ | refine Aw.skip ?_ | refine Aw.exit ?_ | refine Aw.condT rfl ?_ | refine Aw.condF rfl ?_)
                  exact ⟨trivial, Less.tn ⟨rfl, ⟨rfl, rfl, rfl, trivial⟩, ⟨rfl, rfl, rfl, trivial⟩⟩⟩
              · skip
                refine Yd.ed (Yd.val hT rfl rfl) ?_
                refine AwAny.two (i := 5) (j := 13) (by kernel_rfl) ?_ ?_
                · skip
                  refine Ed.cl (F53 _ _) [] rfl ⟨⟨rfl, rfl⟩, ⟨rfl, rfl⟩, trivial⟩ trivial rfl rfl ?_   -- step.least
                  rintro _ _ rfl
                  refine AwAny.two (i := 11) (j := 13) (by kernel_rfl) ?_ ?_
                  · skip
                    refine Ed.cl (F53 _ _) [] rfl ⟨⟨rfl, rfl⟩, ⟨rfl, rfl⟩, trivial⟩ trivial rfl rfl ?_   -- step.least
                    rintro _ _ rfl
                    refine AwAny.one (i := 13) (by kernel_rfl) ?_
                    refine Yd.ed (Yd.val hT rfl rfl) ?_
                    refine AwAny.one (i := 17) (by kernel_rfl) ?_
                    refine Ed.cl (F53 _ _) [] rfl ⟨⟨rfl, rfl⟩, ⟨rfl, rfl⟩, trivial⟩ trivial rfl rfl ?_   -- step.least
                    rintro _ _ rfl
                    refine AwAny.tk (i := 18) (Yd.val hT rfl rfl) (by kernel_rfl) ?_
                    refine AwAny.one (i := 19) (by kernel_rfl) ?_
                    refine Ed.eff hT rfl (fun b hb => by injection hb with hb; subst hb; decide) ?_
                    refine AwAny.sayH (b := 2) (B := .box ⟨34, [_, _, _, _, _, _, _, _, _, _], []⟩) rfl rfl ?_
                    refine AwAny.tk (i := 20) (Yd.val hT rfl rfl) (by kernel_rfl) ?_
                    refine AwAny.one (i := 21) (by kernel_rfl) ?_
                    refine Ed.eff hT rfl (fun b hb => by injection hb with hb; subst hb; decide) ?_
                    refine AwAny.sayH (b := 2) (B := .box ⟨34, [_, _, _, _, _, _, _, _, _, _], []⟩) rfl rfl ?_
                    refine AwAny.tk (i := 22) (Yd.val hT rfl rfl) (by kernel_rfl) ?_
                    refine AwAny.one (i := 23) (by kernel_rfl) ?_
                    refine Ed.eff hT rfl (fun b hb => by injection hb with hb; subst hb; decide) ?_
                    refine AwAny.sayH (b := 2) (B := .box ⟨34, [_, _, _, _, _, _, _, _, _, _], []⟩) rfl rfl ?_
                    refine AwAny.done (by kernel_rfl) ?_
                    repeat (first | refine AwOps.nil ?_ | refine AwSch.nil ?_ | refine Aw.seq ?_ | refine Aw.region ?_ | refine Aw.block ?_ | refine Aw.skip ?_ | refine Aw.exit ?_ | refine Aw.condT rfl ?_ | refine Aw.condF rfl ?_)
                    exact ⟨trivial, Less.tn ⟨rfl, ⟨rfl, rfl, rfl, trivial⟩, ⟨rfl, rfl, rfl, trivial⟩⟩⟩
                  · skip
                    refine Yd.ed (Yd.val hT rfl rfl) ?_
                    refine AwAny.one (i := 11) (by kernel_rfl) ?_
                    refine Ed.cl (F53 _ _) [] rfl ⟨⟨rfl, rfl⟩, ⟨rfl, rfl⟩, trivial⟩ trivial rfl rfl ?_   -- step.least
                    rintro _ _ rfl
                    refine AwAny.one (i := 17) (by kernel_rfl) ?_
                    refine Ed.cl (F53 _ _) [] rfl ⟨⟨rfl, rfl⟩, ⟨rfl, rfl⟩, trivial⟩ trivial rfl rfl ?_   -- step.least
                    rintro _ _ rfl
                    refine AwAny.tk (i := 18) (Yd.val hT rfl rfl) (by kernel_rfl) ?_
                    refine AwAny.one (i := 19) (by kernel_rfl) ?_
                    refine Ed.eff hT rfl (fun b hb => by injection hb with hb; subst hb; decide) ?_
                    refine AwAny.sayH (b := 2) (B := .box ⟨34, [_, _, _, _, _, _, _, _, _, _], []⟩) rfl rfl ?_
                    refine AwAny.tk (i := 20) (Yd.val hT rfl rfl) (by kernel_rfl) ?_
                    refine AwAny.one (i := 21) (by kernel_rfl) ?_
                    refine Ed.eff hT rfl (fun b hb => by injection hb with hb; subst hb; decide) ?_
                    refine AwAny.sayH (b := 2) (B := .box ⟨34, [_, _, _, _, _, _, _, _, _, _], []⟩) rfl rfl ?_
                    refine AwAny.tk (i := 22) (Yd.val hT rfl rfl) (by kernel_rfl) ?_
                    refine AwAny.one (i := 23) (by kernel_rfl) ?_
                    refine Ed.eff hT rfl (fun b hb => by injection hb with hb; subst hb; decide) ?_
                    refine AwAny.sayH (b := 2) (B := .box ⟨34, [_, _, _, _, _, _, _, _, _, _], []⟩) rfl rfl ?_
                    refine AwAny.done (by kernel_rfl) ?_
                    repeat (first | refine AwOps.nil ?_ | refine AwSch.nil ?_ | refine Aw.seq ?_ | refine Aw.region ?_ | refine Aw.block ?_ | refine Aw.skip ?_ | refine Aw.exit ?_ | refine Aw.condT rfl ?_ | refine Aw.condF rfl ?_)
                    exact ⟨trivial, Less.tn ⟨rfl, ⟨rfl, rfl, rfl, trivial⟩, ⟨rfl, rfl, rfl, trivial⟩⟩⟩
                · skip
                  refine Yd.ed (Yd.val hT rfl rfl) ?_
                  refine AwAny.one (i := 5) (by kernel_rfl) ?_
                  refine Ed.cl (F53 _ _) [] rfl ⟨⟨rfl, rfl⟩, ⟨rfl, rfl⟩, trivial⟩ trivial rfl rfl ?_   -- step.least
                  rintro _ _ rfl
                  refine AwAny.one (i := 11) (by kernel_rfl) ?_
                  refine Ed.cl (F53 _ _) [] rfl ⟨⟨rfl, rfl⟩, ⟨rfl, rfl⟩, trivial⟩ trivial rfl rfl ?_   -- step.least
                  rintro _ _ rfl
                  refine AwAny.one (i := 17) (by kernel_rfl) ?_
                  refine Ed.cl (F53 _ _) [] rfl ⟨⟨rfl, rfl⟩, ⟨rfl, rfl⟩, trivial⟩ trivial rfl rfl ?_   -- step.least
                  rintro _ _ rfl
                  refine AwAny.tk (i := 18) (Yd.val hT rfl rfl) (by kernel_rfl) ?_
                  refine AwAny.one (i := 19) (by kernel_rfl) ?_
                  refine Ed.eff hT rfl (fun b hb => by injection hb with hb; subst hb; decide) ?_
                  refine AwAny.sayH (b := 2) (B := .box ⟨34, [_, _, _, _, _, _, _, _, _, _], []⟩) rfl rfl ?_
                  refine AwAny.tk (i := 20) (Yd.val hT rfl rfl) (by kernel_rfl) ?_
                  refine AwAny.one (i := 21) (by kernel_rfl) ?_
                  refine Ed.eff hT rfl (fun b hb => by injection hb with hb; subst hb; decide) ?_
                  refine AwAny.sayH (b := 2) (B := .box ⟨34, [_, _, _, _, _, _, _, _, _, _], []⟩) rfl rfl ?_
                  refine AwAny.tk (i := 22) (Yd.val hT rfl rfl) (by kernel_rfl) ?_
                  refine AwAny.one (i := 23) (by kernel_rfl) ?_
                  refine Ed.eff hT rfl (fun b hb => by injection hb with hb; subst hb; decide) ?_
                  refine AwAny.sayH (b := 2) (B := .box ⟨34, [_, _, _, _, _, _, _, _, _, _], []⟩) rfl rfl ?_
                  refine AwAny.done (by kernel_rfl) ?_
                  repeat (first | refine AwOps.nil ?_ | refine AwSch.nil ?_ | refine Aw.seq ?_ | refine Aw.region ?_ | refine Aw.block ?_ | refine Aw.skip ?_ | refine Aw.exit ?_ | refine Aw.condT rfl ?_ | refine Aw.condF rfl ?_)
                  exact ⟨trivial, Less.tn ⟨rfl, ⟨rfl, rfl, rfl, trivial⟩, ⟨rfl, rfl, rfl, trivial⟩⟩⟩
              · skip
                refine Yd.ed (Yd.val hT rfl rfl) ?_
                refine AwAny.two (i := 5) (j := 7) (by kernel_rfl) ?_ ?_
                · skip
                  refine Ed.cl (F53 _ _) [] rfl ⟨⟨rfl, rfl⟩, ⟨rfl, rfl⟩, trivial⟩ trivial rfl rfl ?_   -- step.least
                  rintro _ _ rfl
                  refine AwAny.one (i := 7) (by kernel_rfl) ?_
                  refine Yd.ed (Yd.val hT rfl rfl) ?_
                  refine AwAny.one (i := 11) (by kernel_rfl) ?_
                  refine Ed.cl (F53 _ _) [] rfl ⟨⟨rfl, rfl⟩, ⟨rfl, rfl⟩, trivial⟩ trivial rfl rfl ?_   -- step.least
                  rintro _ _ rfl
                  refine AwAny.one (i := 17) (by kernel_rfl) ?_
                  refine Ed.cl (F53 _ _) [] rfl ⟨⟨rfl, rfl⟩, ⟨rfl, rfl⟩, trivial⟩ trivial rfl rfl ?_   -- step.least
                  rintro _ _ rfl
                  refine AwAny.tk (i := 18) (Yd.val hT rfl rfl) (by kernel_rfl) ?_
                  refine AwAny.one (i := 19) (by kernel_rfl) ?_
                  refine Ed.eff hT rfl (fun b hb => by injection hb with hb; subst hb; decide) ?_
                  refine AwAny.sayH (b := 2) (B := .box ⟨34, [_, _, _, _, _, _, _, _, _, _], []⟩) rfl rfl ?_
                  refine AwAny.tk (i := 20) (Yd.val hT rfl rfl) (by kernel_rfl) ?_
                  refine AwAny.one (i := 21) (by kernel_rfl) ?_
                  refine Ed.eff hT rfl (fun b hb => by injection hb with hb; subst hb; decide) ?_
                  refine AwAny.sayH (b := 2) (B := .box ⟨34, [_, _, _, _, _, _, _, _, _, _], []⟩) rfl rfl ?_
                  refine AwAny.tk (i := 22) (Yd.val hT rfl rfl) (by kernel_rfl) ?_
                  refine AwAny.one (i := 23) (by kernel_rfl) ?_
                  refine Ed.eff hT rfl (fun b hb => by injection hb with hb; subst hb; decide) ?_
                  refine AwAny.sayH (b := 2) (B := .box ⟨34, [_, _, _, _, _, _, _, _, _, _], []⟩) rfl rfl ?_
                  refine AwAny.done (by kernel_rfl) ?_
                  repeat (first | refine AwOps.nil ?_ | refine AwSch.nil ?_ | refine Aw.seq ?_ | refine Aw.region ?_ | refine Aw.block ?_ | refine Aw.skip ?_ | refine Aw.exit ?_ | refine Aw.condT rfl ?_ | refine Aw.condF rfl ?_)
                  exact ⟨trivial, Less.tn ⟨rfl, ⟨rfl, rfl, rfl, trivial⟩, ⟨rfl, rfl, rfl, trivial⟩⟩⟩
                · skip
                  refine Yd.ed (Yd.val hT rfl rfl) ?_
                  refine AwAny.one (i := 5) (by kernel_rfl) ?_
                  refine Ed.cl (F53 _ _) [] rfl ⟨⟨rfl, rfl⟩, ⟨rfl, rfl⟩, trivial⟩ trivial rfl rfl ?_   -- step.least
                  rintro _ _ rfl
                  refine AwAny.one (i := 11) (by kernel_rfl) ?_
                  refine Ed.cl (F53 _ _) [] rfl ⟨⟨rfl, rfl⟩, ⟨rfl, rfl⟩, trivial⟩ trivial rfl rfl ?_   -- step.least
                  rintro _ _ rfl
                  refine AwAny.one (i := 17) (by kernel_rfl) ?_
                  refine Ed.cl (F53 _ _) [] rfl ⟨⟨rfl, rfl⟩, ⟨rfl, rfl⟩, trivial⟩ trivial rfl rfl ?_   -- step.least
                  rintro _ _ rfl
                  refine AwAny.tk (i := 18) (Yd.val hT rfl rfl) (by kernel_rfl) ?_
                  refine AwAny.one (i := 19) (by kernel_rfl) ?_
                  refine Ed.eff hT rfl (fun b hb => by injection hb with hb; subst hb; decide) ?_
                  refine AwAny.sayH (b := 2) (B := .box ⟨34, [_, _, _, _, _, _, _, _, _, _], []⟩) rfl rfl ?_
                  refine AwAny.tk (i := 20) (Yd.val hT rfl rfl) (by kernel_rfl) ?_
                  refine AwAny.one (i := 21) (by kernel_rfl) ?_
                  refine Ed.eff hT rfl (fun b hb => by injection hb with hb; subst hb; decide) ?_
                  refine AwAny.sayH (b := 2) (B := .box ⟨34, [_, _, _, _, _, _, _, _, _, _], []⟩) rfl rfl ?_
                  refine AwAny.tk (i := 22) (Yd.val hT rfl rfl) (by kernel_rfl) ?_
                  refine AwAny.one (i := 23) (by kernel_rfl) ?_
                  refine Ed.eff hT rfl (fun b hb => by injection hb with hb; subst hb; decide) ?_
                  refine AwAny.sayH (b := 2) (B := .box ⟨34, [_, _, _, _, _, _, _, _, _, _], []⟩) rfl rfl ?_
                  refine AwAny.done (by kernel_rfl) ?_
                  repeat (first | refine AwOps.nil ?_ | refine AwSch.nil ?_ | refine Aw.seq ?_ | refine Aw.region ?_ | refine Aw.block ?_ | refine Aw.skip ?_ | refine Aw.exit ?_ | refine Aw.condT rfl ?_ | refine Aw.condF rfl ?_)
                  exact ⟨trivial, Less.tn ⟨rfl, ⟨rfl, rfl, rfl, trivial⟩, ⟨rfl, rfl, rfl, trivial⟩⟩⟩
            · skip
              refine Yd.ed (Yd.val hT rfl rfl) ?_
              refine AwAny.two (i := 1) (j := 13) (by kernel_rfl) ?_ ?_
              · skip
                refine Yd.ed (Yd.val hT rfl rfl) ?_
                refine AwAny.two (i := 5) (j := 13) (by kernel_rfl) ?_ ?_
                · skip
                  refine Ed.cl (F53 _ _) [] rfl ⟨⟨rfl, rfl⟩, ⟨rfl, rfl⟩, trivial⟩ trivial rfl rfl ?_   -- step.least
                  rintro _ _ rfl
                  refine AwAny.two (i := 11) (j := 13) (by kernel_rfl) ?_ ?_
                  · skip
                    refine Ed.cl (F53 _ _) [] rfl ⟨⟨rfl, rfl⟩, ⟨rfl, rfl⟩, trivial⟩ trivial rfl rfl ?_   -- step.least
                    rintro _ _ rfl
                    refine AwAny.one (i := 13) (by kernel_rfl) ?_
                    refine Yd.ed (Yd.val hT rfl rfl) ?_
                    refine AwAny.one (i := 17) (by kernel_rfl) ?_
                    refine Ed.cl (F53 _ _) [] rfl ⟨⟨rfl, rfl⟩, ⟨rfl, rfl⟩, trivial⟩ trivial rfl rfl ?_   -- step.least
                    rintro _ _ rfl
                    refine AwAny.tk (i := 18) (Yd.val hT rfl rfl) (by kernel_rfl) ?_
                    refine AwAny.one (i := 19) (by kernel_rfl) ?_
                    refine Ed.eff hT rfl (fun b hb => by injection hb with hb; subst hb; decide) ?_
                    refine AwAny.sayH (b := 2) (B := .box ⟨34, [_, _, _, _, _, _, _, _, _, _], []⟩) rfl rfl ?_
                    refine AwAny.tk (i := 20) (Yd.val hT rfl rfl) (by kernel_rfl) ?_
                    refine AwAny.one (i := 21) (by kernel_rfl) ?_
                    refine Ed.eff hT rfl (fun b hb => by injection hb with hb; subst hb; decide) ?_
                    refine AwAny.sayH (b := 2) (B := .box ⟨34, [_, _, _, _, _, _, _, _, _, _], []⟩) rfl rfl ?_
                    refine AwAny.tk (i := 22) (Yd.val hT rfl rfl) (by kernel_rfl) ?_
                    refine AwAny.one (i := 23) (by kernel_rfl) ?_
                    refine Ed.eff hT rfl (fun b hb => by injection hb with hb; subst hb; decide) ?_
                    refine AwAny.sayH (b := 2) (B := .box ⟨34, [_, _, _, _, _, _, _, _, _, _], []⟩) rfl rfl ?_
                    refine AwAny.done (by kernel_rfl) ?_
                    repeat (first | refine AwOps.nil ?_ | refine AwSch.nil ?_ | refine Aw.seq ?_ | refine Aw.region ?_ | refine Aw.block ?_ | refine Aw.skip ?_ | refine Aw.exit ?_ | refine Aw.condT rfl ?_ | refine Aw.condF rfl ?_)
                    exact ⟨trivial, Less.tn ⟨rfl, ⟨rfl, rfl, rfl, trivial⟩, ⟨rfl, rfl, rfl, trivial⟩⟩⟩
                  · skip
                    refine Yd.ed (Yd.val hT rfl rfl) ?_
                    refine AwAny.one (i := 11) (by kernel_rfl) ?_
                    refine Ed.cl (F53 _ _) [] rfl ⟨⟨rfl, rfl⟩, ⟨rfl, rfl⟩, trivial⟩ trivial rfl rfl ?_   -- step.least
                    rintro _ _ rfl
                    refine AwAny.one (i := 17) (by kernel_rfl) ?_
                    refine Ed.cl (F53 _ _) [] rfl ⟨⟨rfl, rfl⟩, ⟨rfl, rfl⟩, trivial⟩ trivial rfl rfl ?_   -- step.least
                    rintro _ _ rfl
                    refine AwAny.tk (i := 18) (Yd.val hT rfl rfl) (by kernel_rfl) ?_
                    refine AwAny.one (i := 19) (by kernel_rfl) ?_
                    refine Ed.eff hT rfl (fun b hb => by injection hb with hb; subst hb; decide) ?_
                    refine AwAny.sayH (b := 2) (B := .box ⟨34, [_, _, _, _, _, _, _, _, _, _], []⟩) rfl rfl ?_
                    refine AwAny.tk (i := 20) (Yd.val hT rfl rfl) (by kernel_rfl) ?_
                    refine AwAny.one (i := 21) (by kernel_rfl) ?_
                    refine Ed.eff hT rfl (fun b hb => by injection hb with hb; subst hb; decide) ?_
                    refine AwAny.sayH (b := 2) (B := .box ⟨34, [_, _, _, _, _, _, _, _, _, _], []⟩) rfl rfl ?_
                    refine AwAny.tk (i := 22) (Yd.val hT rfl rfl) (by kernel_rfl) ?_
                    refine AwAny.one (i := 23) (by kernel_rfl) ?_
                    refine Ed.eff hT rfl (fun b hb => by injection hb with hb; subst hb; decide) ?_
                    refine AwAny.sayH (b := 2) (B := .box ⟨34, [_, _, _, _, _, _, _, _, _, _], []⟩) rfl rfl ?_
                    refine AwAny.done (by kernel_rfl) ?_
                    repeat (first | refine AwOps.nil ?_ | refine AwSch.nil ?_ | refine Aw.seq ?_ | refine Aw.region ?_ | refine Aw.block ?_ | refine Aw.skip ?_ | refine Aw.exit ?_ | refine Aw.condT rfl ?_ | refine Aw.condF rfl ?_)
                    exact ⟨trivial, Less.tn ⟨rfl, ⟨rfl, rfl, rfl, trivial⟩, ⟨rfl, rfl, rfl, trivial⟩⟩⟩
                · skip
                  refine Yd.ed (Yd.val hT rfl rfl) ?_
                  refine AwAny.one (i := 5) (by kernel_rfl) ?_
                  refine Ed.cl (F53 _ _) [] rfl ⟨⟨rfl, rfl⟩, ⟨rfl, rfl⟩, trivial⟩ trivial rfl rfl ?_   -- step.least
                  rintro _ _ rfl
                  refine AwAny.one (i := 11) (by kernel_rfl) ?_
                  refine Ed.cl (F53 _ _) [] rfl ⟨⟨rfl, rfl⟩, ⟨rfl, rfl⟩, trivial⟩ trivial rfl rfl ?_   -- step.least
                  rintro _ _ rfl
                  refine AwAny.one (i := 17) (by kernel_rfl) ?_
                  refine Ed.cl (F53 _ _) [] rfl ⟨⟨rfl, rfl⟩, ⟨rfl, rfl⟩, trivial⟩ trivial rfl rfl ?_   -- step.least
                  rintro _ _ rfl
                  refine AwAny.tk (i := 18) (Yd.val hT rfl rfl) (by kernel_rfl) ?_
                  refine AwAny.one (i := 19) (by kernel_rfl) ?_
                  refine Ed.eff hT rfl (fun b hb => by injection hb with hb; subst hb; decide) ?_
                  refine AwAny.sayH (b := 2) (B := .box ⟨34, [_, _, _, _, _, _, _, _, _, _], []⟩) rfl rfl ?_
                  refine AwAny.tk (i := 20) (Yd.val hT rfl rfl) (by kernel_rfl) ?_
                  refine AwAny.one (i := 21) (by kernel_rfl) ?_
                  refine Ed.eff hT rfl (fun b hb => by injection hb with hb; subst hb; decide) ?_
                  refine AwAny.sayH (b := 2) (B := .box ⟨34, [_, _, _, _, _, _, _, _, _, _], []⟩) rfl rfl ?_
                  refine AwAny.tk (i := 22) (Yd.val hT rfl rfl) (by kernel_rfl) ?_
                  refine AwAny.one (i := 23) (by kernel_rfl) ?_
                  refine Ed.eff hT rfl (fun b hb => by injection hb with hb; subst hb; decide) ?_
                  refine AwAny.sayH (b := 2) (B := .box ⟨34, [_, _, _, _, _, _, _, _, _, _], []⟩) rfl rfl ?_
                  refine AwAny.done (by kernel_rfl) ?_
                  repeat (first | refine AwOps.nil ?_ | refine AwSch.nil ?_ | refine Aw.seq ?_ | refine Aw.region ?_ | refine Aw.block ?_ | refine Aw.skip ?_ | refine Aw.exit ?_ | refine Aw.condT rfl ?_ | refine Aw.condF rfl ?_)
                  exact ⟨trivial, Less.tn ⟨rfl, ⟨rfl, rfl, rfl, trivial⟩, ⟨rfl, rfl, rfl, trivial⟩⟩⟩
              · skip
                refine Yd.ed (Yd.val hT rfl rfl) ?_
                refine AwAny.one (i := 1) (by kernel_rfl) ?_
                refine Yd.ed (Yd.val hT rfl rfl) ?_
                refine AwAny.one (i := 5) (by kernel_rfl) ?_
                refine Ed.cl (F53 _ _) [] rfl ⟨⟨rfl, rfl⟩, ⟨rfl, rfl⟩, trivial⟩ trivial rfl rfl ?_   -- step.least
                rintro _ _ rfl
                refine AwAny.one (i := 11) (by kernel_rfl) ?_
                refine Ed.cl (F53 _ _) [] rfl ⟨⟨rfl, rfl⟩, ⟨rfl, rfl⟩, trivial⟩ trivial rfl rfl ?_   -- step.least
                rintro _ _ rfl
                refine AwAny.one (i := 17) (by kernel_rfl) ?_
                refine Ed.cl (F53 _ _) [] rfl ⟨⟨rfl, rfl⟩, ⟨rfl, rfl⟩, trivial⟩ trivial rfl rfl ?_   -- step.least
                rintro _ _ rfl
                refine AwAny.tk (i := 18) (Yd.val hT rfl rfl) (by kernel_rfl) ?_
                refine AwAny.one (i := 19) (by kernel_rfl) ?_
                refine Ed.eff hT rfl (fun b hb => by injection hb with hb; subst hb; decide) ?_
                refine AwAny.sayH (b := 2) (B := .box ⟨34, [_, _, _, _, _, _, _, _, _, _], []⟩) rfl rfl ?_
                refine AwAny.tk (i := 20) (Yd.val hT rfl rfl) (by kernel_rfl) ?_
                refine AwAny.one (i := 21) (by kernel_rfl) ?_
                refine Ed.eff hT rfl (fun b hb => by injection hb with hb; subst hb; decide) ?_
                refine AwAny.sayH (b := 2) (B := .box ⟨34, [_, _, _, _, _, _, _, _, _, _], []⟩) rfl rfl ?_
                refine AwAny.tk (i := 22) (Yd.val hT rfl rfl) (by kernel_rfl) ?_
                refine AwAny.one (i := 23) (by kernel_rfl) ?_
                refine Ed.eff hT rfl (fun b hb => by injection hb with hb; subst hb; decide) ?_
                refine AwAny.sayH (b := 2) (B := .box ⟨34, [_, _, _, _, _, _, _, _, _, _], []⟩) rfl rfl ?_
                refine AwAny.done (by kernel_rfl) ?_
                repeat (first | refine AwOps.nil ?_ | refine AwSch.nil ?_ | refine Aw.seq ?_ | refine Aw.region ?_ | refine Aw.block ?_ | refine Aw.skip ?_ | refine Aw.exit ?_ | refine Aw.condT rfl ?_ | refine Aw.condF rfl ?_)
                exact ⟨trivial, Less.tn ⟨rfl, ⟨rfl, rfl, rfl, trivial⟩, ⟨rfl, rfl, rfl, trivial⟩⟩⟩
            · skip
              refine Yd.ed (Yd.val hT rfl rfl) ?_
              refine AwAny.two (i := 1) (j := 7) (by kernel_rfl) ?_ ?_
              · skip
                refine Yd.ed (Yd.val hT rfl rfl) ?_
                refine AwAny.two (i := 5) (j := 7) (by kernel_rfl) ?_ ?_
                · skip
                  refine Ed.cl (F53 _ _) [] rfl ⟨⟨rfl, rfl⟩, ⟨rfl, rfl⟩, trivial⟩ trivial rfl rfl ?_   -- step.least
                  rintro _ _ rfl
                  refine AwAny.one (i := 7) (by kernel_rfl) ?_
                  refine Yd.ed (Yd.val hT rfl rfl) ?_
                  refine AwAny.one (i := 11) (by kernel_rfl) ?_
                  refine Ed.cl (F53 _ _) [] rfl ⟨⟨rfl, rfl⟩, ⟨rfl, rfl⟩, trivial⟩ trivial rfl rfl ?_   -- step.least
                  rintro _ _ rfl
                  refine AwAny.one (i := 17) (by kernel_rfl) ?_
                  refine Ed.cl (F53 _ _) [] rfl ⟨⟨rfl, rfl⟩, ⟨rfl, rfl⟩, trivial⟩ trivial rfl rfl ?_   -- step.least
                  rintro _ _ rfl
                  refine AwAny.tk (i := 18) (Yd.val hT rfl rfl) (by kernel_rfl) ?_
                  refine AwAny.one (i := 19) (by kernel_rfl) ?_
                  refine Ed.eff hT rfl (fun b hb => by injection hb with hb; subst hb; decide) ?_
                  refine AwAny.sayH (b := 2) (B := .box ⟨34, [_, _, _, _, _, _, _, _, _, _], []⟩) rfl rfl ?_
                  refine AwAny.tk (i := 20) (Yd.val hT rfl rfl) (by kernel_rfl) ?_
                  refine AwAny.one (i := 21) (by kernel_rfl) ?_
                  refine Ed.eff hT rfl (fun b hb => by injection hb with hb; subst hb; decide) ?_
                  refine AwAny.sayH (b := 2) (B := .box ⟨34, [_, _, _, _, _, _, _, _, _, _], []⟩) rfl rfl ?_
                  refine AwAny.tk (i := 22) (Yd.val hT rfl rfl) (by kernel_rfl) ?_
                  refine AwAny.one (i := 23) (by kernel_rfl) ?_
                  refine Ed.eff hT rfl (fun b hb => by injection hb with hb; subst hb; decide) ?_
                  refine AwAny.sayH (b := 2) (B := .box ⟨34, [_, _, _, _, _, _, _, _, _, _], []⟩) rfl rfl ?_
                  refine AwAny.done (by kernel_rfl) ?_
                  repeat (first | refine AwOps.nil ?_ | refine AwSch.nil ?_ | refine Aw.seq ?_ | refine Aw.region ?_ | refine Aw.block ?_ | refine Aw.skip ?_ | refine Aw.exit ?_ | refine Aw.condT rfl ?_ | refine Aw.condF rfl ?_)
                  exact ⟨trivial, Less.tn ⟨rfl, ⟨rfl, rfl, rfl, trivial⟩, ⟨rfl, rfl, rfl, trivial⟩⟩⟩
                · skip
                  refine Yd.ed (Yd.val hT rfl rfl) ?_
                  refine AwAny.one (i := 5) (by kernel_rfl) ?_
                  refine Ed.cl (F53 _ _) [] rfl ⟨⟨rfl, rfl⟩, ⟨rfl, rfl⟩, trivial⟩ trivial rfl rfl ?_   -- step.least
                  rintro _ _ rfl
                  refine AwAny.one (i := 11) (by kernel_rfl) ?_
                  refine Ed.cl (F53 _ _) [] rfl ⟨⟨rfl, rfl⟩, ⟨rfl, rfl⟩, trivial⟩ trivial rfl rfl ?_   -- step.least
                  rintro _ _ rfl
                  refine AwAny.one (i := 17) (by kernel_rfl) ?_
                  refine Ed.cl (F53 _ _) [] rfl ⟨⟨rfl, rfl⟩, ⟨rfl, rfl⟩, trivial⟩ trivial rfl rfl ?_   -- step.least
                  rintro _ _ rfl
                  refine AwAny.tk (i := 18) (Yd.val hT rfl rfl) (by kernel_rfl) ?_
                  refine AwAny.one (i := 19) (by kernel_rfl) ?_
                  refine Ed.eff hT rfl (fun b hb => by injection hb with hb; subst hb; decide) ?_
                  refine AwAny.sayH (b := 2) (B := .box ⟨34, [_, _, _, _, _, _, _, _, _, _], []⟩) rfl rfl ?_
                  refine AwAny.tk (i := 20) (Yd.val hT rfl rfl) (by kernel_rfl) ?_
                  refine AwAny.one (i := 21) (by kernel_rfl) ?_
                  refine Ed.eff hT rfl (fun b hb => by injection hb with hb; subst hb; decide) ?_
                  refine AwAny.sayH (b := 2) (B := .box ⟨34, [_, _, _, _, _, _, _, _, _, _], []⟩) rfl rfl ?_
                  refine AwAny.tk (i := 22) (Yd.val hT rfl rfl) (by kernel_rfl) ?_
                  refine AwAny.one (i := 23) (by kernel_rfl) ?_
                  refine Ed.eff hT rfl (fun b hb => by injection hb with hb; subst hb; decide) ?_
                  refine AwAny.sayH (b := 2) (B := .box ⟨34, [_, _, _, _, _, _, _, _, _, _], []⟩) rfl rfl ?_
                  refine AwAny.done (by kernel_rfl) ?_
                  repeat (first | refine AwOps.nil ?_ | refine AwSch.nil ?_ | refine Aw.seq ?_ | refine Aw.region ?_ | refine Aw.block ?_ | refine Aw.skip ?_ | refine Aw.exit ?_ | refine Aw.condT rfl ?_ | refine Aw.condF rfl ?_)
                  exact ⟨trivial, Less.tn ⟨rfl, ⟨rfl, rfl, rfl, trivial⟩, ⟨rfl, rfl, rfl, trivial⟩⟩⟩
              · skip
                refine Yd.ed (Yd.val hT rfl rfl) ?_
                refine AwAny.one (i := 1) (by kernel_rfl) ?_
                refine Yd.ed (Yd.val hT rfl rfl) ?_
                refine AwAny.one (i := 5) (by kernel_rfl) ?_
                refine Ed.cl (F53 _ _) [] rfl ⟨⟨rfl, rfl⟩, ⟨rfl, rfl⟩, trivial⟩ trivial rfl rfl ?_   -- step.least
                rintro _ _ rfl
                refine AwAny.one (i := 11) (by kernel_rfl) ?_
                refine Ed.cl (F53 _ _) [] rfl ⟨⟨rfl, rfl⟩, ⟨rfl, rfl⟩, trivial⟩ trivial rfl rfl ?_   -- step.least
                rintro _ _ rfl
                refine AwAny.one (i := 17) (by kernel_rfl) ?_
                refine Ed.cl (F53 _ _) [] rfl ⟨⟨rfl, rfl⟩, ⟨rfl, rfl⟩, trivial⟩ trivial rfl rfl ?_   -- step.least
                rintro _ _ rfl
                refine AwAny.tk (i := 18) (Yd.val hT rfl rfl) (by kernel_rfl) ?_
                refine AwAny.one (i := 19) (by kernel_rfl) ?_
                refine Ed.eff hT rfl (fun b hb => by injection hb with hb; subst hb; decide) ?_
                refine AwAny.sayH (b := 2) (B := .box ⟨34, [_, _, _, _, _, _, _, _, _, _], []⟩) rfl rfl ?_
                refine AwAny.tk (i := 20) (Yd.val hT rfl rfl) (by kernel_rfl) ?_
                refine AwAny.one (i := 21) (by kernel_rfl) ?_
                refine Ed.eff hT rfl (fun b hb => by injection hb with hb; subst hb; decide) ?_
                refine AwAny.sayH (b := 2) (B := .box ⟨34, [_, _, _, _, _, _, _, _, _, _], []⟩) rfl rfl ?_
                refine AwAny.tk (i := 22) (Yd.val hT rfl rfl) (by kernel_rfl) ?_
                refine AwAny.one (i := 23) (by kernel_rfl) ?_
                refine Ed.eff hT rfl (fun b hb => by injection hb with hb; subst hb; decide) ?_
                refine AwAny.sayH (b := 2) (B := .box ⟨34, [_, _, _, _, _, _, _, _, _, _], []⟩) rfl rfl ?_
                refine AwAny.done (by kernel_rfl) ?_
                repeat (first | refine AwOps.nil ?_ | refine AwSch.nil ?_ | refine Aw.seq ?_ | refine Aw.region ?_ | refine Aw.block ?_ | refine Aw.skip ?_ | refine Aw.exit ?_ | refine Aw.condT rfl ?_ | refine Aw.condF rfl ?_)
                exact ⟨trivial, Less.tn ⟨rfl, ⟨rfl, rfl, rfl, trivial⟩, ⟨rfl, rfl, rfl, trivial⟩⟩⟩
          · skip
            refine Aw.turn hj.2 ?_
            repeat (first | refine AwOps.nil ?_ | refine AwSch.nil ?_ | refine Aw.seq ?_ | refine Aw.region ?_ | refine Aw.block ?_ | refine Aw.skip ?_ | refine Aw.exit ?_ | refine Aw.condT rfl ?_ | refine Aw.condF rfl ?_)
            refine AwOps.v hT rfl ?_
            refine AwOps.eff hT rfl ?_
            refine AwOps.v hT rfl ?_
            repeat (first | refine AwOps.nil ?_ | refine AwSch.nil ?_ | refine Aw.seq ?_ | refine Aw.region ?_ | refine Aw.block ?_ | refine Aw.skip ?_ | refine Aw.exit ?_ | refine Aw.condT rfl ?_ | refine Aw.condF rfl ?_)
            refine Aw.ret ?_
            refine ⟨_, [], rfl, trivial, ?_⟩
            exact lvx (n := 0) (p := leaveP s c) hc0 rfl
end Go.Proofs.YthhjfcmkelmobaaGreat.Aw
