
/- The walks of scope: which scopes are the same; which list extends another.
   Conditions: none. -/
import Derived.Test.YtbdgmondalkhlaaDoorWkScope4
import Derived.Test.YtbdgmondalkhlaaDoorAwClo2
namespace Go.Proofs.YtbdgmondalkhlaaDoor.Aw
open Go
set_option maxRecDepth 100000
set_option maxHeartbeats 4000000
set_option linter.unusedSimpArgs false
set_option linter.unusedVariables false

def tB3 : Nat := 89
theorem k3 (a b c : Bool) : Tryd.prog.keyLits 2 tB3 [.bool a, .bool b, .bool c] = some [.bool a, .bool b, .bool c] := by cases a <;> cases b <;> cases c <;> kernel_rfl
theorem fm3 (a b c : Bool) : (Value.agg #[.bool a, .bool b, .bool c]).formed Tryd.prog tB3 = true := by cases a <;> cases b <;> cases c <;> kernel_rfl
theorem eqB3 (a b c d e f : Bool) (w : World) : (Op.equalIn 10000 tB3 (.agg #[.bool a, .bool b, .bool c]) (.agg #[.bool d, .bool e, .bool f])).run Tryd.prog w = .ok ((a == d) && ((b == e) && (c == f))) w := by
  obtain ⟨r, hr, hi⟩ := run_equalIn_deep (P := Tryd.prog) 9998 2 tB3 (by kernel_rfl) w 2 2 _ _ _ _ (fm3 a b c) (fm3 d e f) (k3 a b c) (k3 d e f)
  rw [show (10000 : Nat) = 9998 + 2 from rfl, hr]
  have : r = ((a == d) && ((b == e) && (c == f))) := by
    rw [Bool.eq_iff_iff, hi]
    simp
  rw [this]
theorem eqB3_run {x y : Operand} (a b c d e f : Bool) : BinRun Tryd.prog .eql tB3 x y (.agg #[.bool a, .bool b, .bool c]) (.agg #[.bool d, .bool e, .bool f]) (.bool ((a == d) && ((b == e) && (c == f)))) := fun w => by
  have e1 : ∀ w, (eqGuard .eql tB3 x y (.agg #[.bool a, .bool b, .bool c]) (.agg #[.bool d, .bool e, .bool f])).run Tryd.prog w = .ok () w := fun w => by
    have : Tryd.prog.eqGuardType Tryd.prog.depth tB3 = false := by kernel_rfl
    simp [eqGuard, program, Sem.run, Sem.run_bind, this]
  rw [Sem.run_bind, e1]
  simp only [Result.andThen_ok]
  rw [run_eql_struct, eqB3]
  rfl
def eqL (p : Gn → Gn → Bool) (a b : List Gn) : Bool := (a.length == b.length) && (a.zip b).all fun q => p q.1 q.2
theorem zip_next {p : Gn → Gn → Bool} {a b : List Gn} {i : Nat} (hl : a.length = b.length) (h : i < a.length) (hb : i < b.length) (hi : ((a.zip b).take i).all (fun q => p q.1 q.2) = true) (hx : p a[i] b[i] = true) : ((a.zip b).take (i + 1)).all (fun q => p q.1 q.2) = true := by
  have hz : i < (a.zip b).length := by rw [List.length_zip]; omega
  rw [List.take_succ_eq_append_getElem hz, List.all_append, hi]
  simp [List.getElem_zip, hx]
theorem zip_hit {p : Gn → Gn → Bool} {a b : List Gn} {i : Nat} (h : i < a.length) (hb : i < b.length) (hx : p a[i] b[i] = false) : eqL p a b = false := by
  have hz : i < (a.zip b).length := by rw [List.length_zip]; omega
  have : (a.zip b).all (fun q => p q.1 q.2) = false := by
    rw [List.all_eq_false]
    exact ⟨(a.zip b)[i], List.getElem_mem hz, by simp [List.getElem_zip, hx]⟩
  rw [eqL, this, Bool.and_false]
theorem zip_full {p : Gn → Gn → Bool} {a b : List Gn} {i : Nat} (hl : a.length = b.length) (hi : ((a.zip b).take i).all (fun q => p q.1 q.2) = true) (h : ¬ ((i : Int) < (a.length : Nat))) : eqL p a b = true := by
  rw [List.take_of_length_le (by rw [List.length_zip]; omega)] at hi
  rw [eqL, hi, hl]
  simp
theorem eqL_len {p : Gn → Gn → Bool} {a b : List Gn} (h : ¬ a.length = b.length) : eqL p a b = false := by
  have : (a.length == b.length) = false := by simpa using h
  rw [eqL, this, Bool.false_and]
-- f185 slices.EqualFunc[[]certpath/api.GeneralName,[]certpath/api.GeneralName,certpath/api.GeneralName,certpath/api.GeneralName]
theorem F185c (f : Nat) (p : Gn → Gn → Bool) (a b : List Gn) (hf : ∀ x ∈ a, ∀ y ∈ b, Fn Tryd.prog f [.pv (.agg (eGn x)), .pv (.agg (eGn y))] [] (fun r _ => r = sc (.bool (p x y)))) : Fn Tryd.prog 50 [.pv (.one (.p (.sl (a.map eGn)))), .pv (.one (.p (.sl (b.map eGn)))), .pv (sc (.func (.func f) #[] #[]))] [] (fun r _ => r = sc (.bool (eqL p a b))) := by
  refine Fn.intro (rs := [.tmp 6]) hT Tryd.func50 (by kernel_rfl) rfl rfl rfl rfl fun C => ?_
  refine Aw.seq (Aw.region ?_)
  refine AwOps.v hT rfl ?_
  refine AwOps.nil (Aw.seq (Aw.seq (Aw.region ?_)))
  iterate 5 refine AwOps.v hT rfl ?_
  refine AwOps.nil ?_
  refine Aw.tst rfl (fun hb14 => ?_) (fun hb14 => ?_)
  · skip
    have hl : ¬ a.length = b.length := by simp at hb14; omega
    refine Aw.seq (Aw.region ?_)
    refine AwOps.v hT rfl ?_
    refine AwOps.nil ?_
    refine Aw.ret ?_
    refine ⟨_, [], rfl, trivial, ?_⟩
    exact scb (eqL_len hl).symm
  · skip
    have hl : a.length = b.length := by simp at hb14; omega
    refine Aw.skip (Aw.seq (Aw.seq (Aw.region ?_)))
    iterate 3 refine AwOps.v hT rfl ?_
    refine AwOps.nil (Aw.block ?_)
    refine Aw.bnd 15 rfl fun hB1 => ?_
    replace hB1 : a.length ≤ maxLen := by simpa using hB1
    refine Aw.lp (ι := Nat) (n := 32) [(1, _), (2, _), (15, _), (16, _)] [] (fun gq => [(17, sc (.int .i64 gq))]) (fun gq => []) (fun gq => gq ≤ a.length ∧ (((a.zip b).take gq).all (fun q => p q.1 q.2) = true)) (fun gq => a.length - gq) (0) ?ok1 (Less.tn ⟨rfl, ⟨rfl, rfl, rfl, rfl, rfl, trivial⟩, trivial⟩) ?bd1
    case ok1 =>
      try dsimp only
      exact ⟨Nat.zero_le _, rfl⟩
    case bd1 =>
      intro i1 hi1
      try dsimp only at hi1
      show Aw _ _ _ ⟨32, [(17, sc (.int .i64 i1))] ++ [(1, _), (2, _), (15, _), (16, _)], [] ++ []⟩ _
      have hlb : i1 < a.length → i1 < b.length := fun h => hl ▸ h
      refine Aw.seq (Aw.region ?_)
      refine AwOps.v hT rfl ?_
      refine AwOps.nil (Aw.seq ?_)
      refine Aw.tst rfl (fun hb18 => ?_) (fun hb18 => ?_)
      · skip
        have hlt1 : i1 < a.length := by simpa using hb18
        have hltb := hlb (by simpa using hb18)
        refine Aw.skip (Aw.seq (Aw.block (Aw.seq (Aw.region ?_))))
        refine AwOps.v hT rfl ?_
        refine AwOps.im hT rfl hlt1 rfl ?_
        refine AwOps.v hT rfl ?_
        refine AwOps.eff hT rfl ?_
        refine AwOps.v hT rfl ?_
        refine AwOps.eff hT rfl ?_
        refine AwOps.nil (Aw.seq (Aw.region ?_))
        refine AwOps.v hT rfl ?_
        refine AwOps.v hT rfl ?_
        refine AwOps.im hT rfl (hlb hlt1) rfl ?_
        refine AwOps.v hT rfl ?_
        refine AwOps.eff hT rfl ?_
        refine AwOps.eff hT rfl ?_
        refine AwOps.nil (Aw.seq (Aw.region ?_))
        iterate 3 refine AwOps.v hT rfl ?_
        refine AwOps.cl (hf _ (List.getElem_mem hlt1) _ (List.getElem_mem (hlb hlt1))) [] rfl ⟨⟨rfl, rfl⟩, ⟨rfl, rfl⟩, trivial⟩ trivial rfl ?_   -- fv
        rintro _ _ rfl
        refine AwOps.v hT rfl ?_
        refine AwOps.nil ?_
        refine Aw.tst rfl (fun hb30 => ?_) (fun hb30 => ?_)
        · skip
          refine Aw.seq (Aw.region ?_)
          refine AwOps.v hT rfl ?_
          refine AwOps.nil ?_
          refine Aw.ret ?_
          refine ⟨_, [], rfl, trivial, ?_⟩
          exact scb (zip_hit hlt1 (hlb hlt1) (by simpa using hb30)).symm
        · skip
          refine Aw.skip (Aw.region ?_)
          refine AwOps.v hT rfl ?_
          refine AwOps.v hT rfl ?_
          refine AwOps.nil ?_
          refine ⟨(i1 + 1), ?nx1, ?mu1, Less.tn ⟨rfl, ⟨incS hlt1 hB1, rfl, rfl, rfl, rfl, trivial⟩, trivial⟩⟩
          case nx1 =>
            try dsimp only
            exact ⟨hlt1, zip_next hl hlt1 (hlb hlt1) hi1.2 (by simpa using hb30)⟩
          case mu1 =>
            try dsimp only
            first | omega | (simp only [w64] at *; omega) | (simp [w64] at *; omega)
      · skip
        refine Aw.exit (Aw.seq (Aw.region ?_))
        refine AwOps.v hT rfl ?_
        refine AwOps.nil ?_
        refine Aw.ret ?_
        refine ⟨_, [], rfl, trivial, ?_⟩
        exact scb (zip_full hl hi1.2 (by simpa using hb18)).symm
-- f184 certpath/scope.flags
theorem F184 (s : Scp) : Fn Tryd.prog 49 [.pv (.agg (eScp s))] [] (fun r _ => r = .agg [.v (.bool s.onlyUser), .v (.bool s.onlyCA), .v (.bool s.indirect)]) := by
  refine Fn.intro (rs := [.cell 2 89]) hT Tryd.func49 (by kernel_rfl) rfl rfl rfl rfl fun C => ?_
  refine Aw.seq (Aw.region ?_)
  refine AwOps.eff hT rfl ?_
  refine AwOps.eff hT rfl ?_
  refine AwOps.nil (Aw.seq (Aw.region ?_))
  iterate 6 refine AwOps.v hT rfl ?_
  refine AwOps.buildA hT rfl ?_
  refine AwOps.eff hT rfl ?_
  refine AwOps.nil ?_
  refine Aw.ret ?_
  refine ⟨_, [], rfl, trivial, ?_⟩
  exact rfl
def flagsE (s t : Scp) : Bool := (s.onlyUser == t.onlyUser) && ((s.onlyCA == t.onlyCA) && (s.indirect == t.indirect))
def sameSc (a b : CList) : Bool := (a.hasScope == b.hasScope) && (!a.hasScope || (flagsE a.scope b.scope && (allR a.scope.reasons == allR b.scope.reasons && eqL sameG a.scope.names b.scope.names)))
def extS (a b : CList) : Bool := (a.base == -1) && ((b.base != -1) && (nmatch a.issuer b.issuer && (sameSc a b && (seq a.akey b.akey && (decide (b.base ≤ a.number) && decide (a.number < b.number))))))
theorem ext_irr (a : CList) : extS a a = false := by
  unfold extS
  have : decide (a.number < a.number) = false := by simp
  rw [this]
  simp
theorem bne_t {b : Bool} (h : (!b) = true) : b = false := by simpa using h
theorem bne_f {b : Bool} (h : (!b) = false) : b = true := by simpa using h
-- f176 certpath/scope.Same
theorem F176 (a b : CList) (ha : okCL a) (hb : okCL b) : Fn Tryd.prog 37 [.pv (.agg (eCL a)), .pv (.agg (eCL b))] [] (fun r _ => r = sc (.bool (sameSc a b))) := by
  refine Fn.intro (rs := [.tmp 4]) hT Tryd.func37 (by kernel_rfl) rfl rfl rfl rfl fun C => ?_
  refine Aw.seq (Aw.region ?_)
  refine AwOps.eff hT rfl ?_
  refine AwOps.eff hT rfl ?_
  refine AwOps.v hT rfl ?_
  refine AwOps.nil (Aw.seq (Aw.seq (Aw.region ?_)))
  iterate 5 refine AwOps.v hT rfl ?_
  refine AwOps.nil ?_
  refine Aw.tst rfl (fun hb9 => ?_) (fun hb9 => ?_)
  · skip
    replace hb9 : (a.hasScope == b.hasScope) = false := bne_t hb9
    refine Aw.seq (Aw.region ?_)
    refine AwOps.v hT rfl ?_
    refine AwOps.nil ?_
    refine Aw.ret ?_
    refine ⟨_, [], rfl, trivial, ?_⟩
    exact scb (by rw [sameSc, hb9]; simp only [Bool.true_and, Bool.false_and, Bool.true_or, Bool.false_or, Bool.or_true, Bool.and_true, Bool.or_false, Bool.and_false, Bool.not_true, Bool.not_false] <;> first | done | rfl | (simp; done))
  · skip
    replace hb9 : (a.hasScope == b.hasScope) = true := bne_f hb9
    refine Aw.skip (Aw.seq ?_)
    refine Aw.regionS [] [(true, 0), (true, 1), (true, 2), (true, 3), (true, 4), (true, 5), (true, 7), (true, 8), (false, 6), (false, 9), (true, 10), (true, 11), (true, 12), (true, 13), (true, 14), (true, 16), (true, 17), (true, 18), (false, 15), (false, 19), (true, 20), (true, 21), (true, 22), (true, 23), (true, 24), (true, 25), (true, 26), (true, 27), (true, 28), (false, 29), (true, 30), (true, 31), (true, 32)] (by kernel_rfl) (by kernel_rfl) ?_
    iterate 4 refine AwSch.take (Yd.val hT rfl rfl) ?_
    refine AwSch.split (t := 13) rfl (fun hb13 => ?_) (fun hb13 => ?_)
    · skip
      iterate 4 refine AwSch.take (Yd.val hT rfl rfl) ?_
      refine AwSch.one ?_
      refine Yd.ed (Yd.val hT rfl rfl) ?_
      refine AwSch.one ?_
      refine Yd.ed (Yd.val hT rfl rfl) ?_
      iterate 8 refine AwSch.take (Yd.val hT rfl rfl) ?_
      refine AwSch.one ?_
      refine Yd.ed (Yd.val hT rfl rfl) ?_
      refine AwSch.one ?_
      refine Yd.ed (Yd.val hT rfl rfl) ?_
      iterate 9 refine AwSch.take (Yd.val hT rfl rfl) ?_
      refine AwSch.one ?_
      refine Yd.ed (Yd.val hT rfl rfl) ?_
      iterate 3 refine AwSch.take (Yd.val hT rfl rfl) ?_
      refine AwSch.nil ?_
      refine Aw.ret ?_
      refine ⟨_, [], rfl, trivial, ?_⟩
      exact scb (by rw [sameSc, hb9]; simp only [show (a.hasScope) = false by simpa using hb13, Bool.true_and, Bool.false_and, Bool.true_or, Bool.false_or, Bool.or_true, Bool.and_true, Bool.or_false, Bool.and_false, Bool.not_true, Bool.not_false] <;> first | done | rfl | (simp; done))
    · skip
      iterate 4 refine AwSch.take (Yd.val hT rfl rfl) ?_
      refine AwSch.one ?_
      refine Ed.cl (F184 a.scope) [] rfl ⟨⟨rfl, rfl⟩, trivial⟩ trivial rfl rfl ?_   -- scope.flags
      rintro _ _ rfl
      refine AwSch.one ?_
      refine Ed.cl (F184 b.scope) [] rfl ⟨⟨rfl, rfl⟩, trivial⟩ trivial rfl rfl ?_   -- scope.flags
      rintro _ _ rfl
      refine AwSch.take (Yd.bin rfl _ rfl (eqB3_run _ _ _ _ _ _)) ?_
      refine AwSch.take (Yd.val hT rfl rfl) ?_
      refine AwSch.split (t := 21) rfl (fun hb21 => ?_) (fun hb21 => ?_)
      · skip
        iterate 6 refine AwSch.take (Yd.val hT rfl rfl) ?_
        refine AwSch.one ?_
        refine Ed.cl (F169 _) [] rfl ⟨⟨rfl, rfl⟩, trivial⟩ trivial rfl rfl ?_   -- scope.all
        rintro _ _ rfl
        refine AwSch.one ?_
        refine Ed.cl (F169 _) [] rfl ⟨⟨rfl, rfl⟩, trivial⟩ trivial rfl rfl ?_   -- scope.all
        rintro _ _ rfl
        iterate 3 refine AwSch.take (Yd.val hT rfl rfl) ?_
        refine AwSch.split (t := 32) rfl (fun hb32 => ?_) (fun hb32 => ?_)
        · skip
          iterate 6 refine AwSch.take (Yd.val hT rfl rfl) ?_
          refine AwSch.one ?_
          refine Ed.cl (F185c 44 sameG a.scope.names b.scope.names (fun x hx y hy => F181 x y (ha.2.2 x hx) (hb.2.2 y hy))) [] rfl ⟨⟨rfl, rfl⟩, ⟨rfl, rfl⟩, ⟨rfl, rfl⟩, trivial⟩ trivial rfl rfl ?_   -- api.GeneralName]
          rintro _ _ rfl
          iterate 3 refine AwSch.take (Yd.val hT rfl rfl) ?_
          refine AwSch.nil ?_
          refine Aw.ret ?_
          refine ⟨_, [], rfl, trivial, ?_⟩
          exact scb (by rw [sameSc, hb9]; simp only [show (a.hasScope) = true by simpa using hb13, show (flagsE a.scope b.scope) = true from hb21, show (allR a.scope.reasons == allR b.scope.reasons) = true from hb32, Bool.true_and, Bool.false_and, Bool.true_or, Bool.false_or, Bool.or_true, Bool.and_true, Bool.or_false, Bool.and_false, Bool.not_true, Bool.not_false] <;> first | done | rfl | (simp; done))
        · skip
          iterate 6 refine AwSch.take (Yd.val hT rfl rfl) ?_
          refine AwSch.one ?_
          refine Yd.ed (Yd.val hT rfl rfl) ?_
          iterate 3 refine AwSch.take (Yd.val hT rfl rfl) ?_
          refine AwSch.nil ?_
          refine Aw.ret ?_
          refine ⟨_, [], rfl, trivial, ?_⟩
          exact scb (by rw [sameSc, hb9]; simp only [show (a.hasScope) = true by simpa using hb13, show (flagsE a.scope b.scope) = true from hb21, show (allR a.scope.reasons == allR b.scope.reasons) = false from hb32, Bool.true_and, Bool.false_and, Bool.true_or, Bool.false_or, Bool.or_true, Bool.and_true, Bool.or_false, Bool.and_false, Bool.not_true, Bool.not_false] <;> first | done | rfl | (simp; done))
      · skip
        iterate 6 refine AwSch.take (Yd.val hT rfl rfl) ?_
        refine AwSch.one ?_
        refine Yd.ed (Yd.val hT rfl rfl) ?_
        refine AwSch.one ?_
        refine Yd.ed (Yd.val hT rfl rfl) ?_
        iterate 9 refine AwSch.take (Yd.val hT rfl rfl) ?_
        refine AwSch.one ?_
        refine Yd.ed (Yd.val hT rfl rfl) ?_
        iterate 3 refine AwSch.take (Yd.val hT rfl rfl) ?_
        refine AwSch.nil ?_
        refine Aw.ret ?_
        refine ⟨_, [], rfl, trivial, ?_⟩
        exact scb (by rw [sameSc, hb9]; simp only [show (a.hasScope) = true by simpa using hb13, show (flagsE a.scope b.scope) = false from hb21, Bool.true_and, Bool.false_and, Bool.true_or, Bool.false_or, Bool.or_true, Bool.and_true, Bool.or_false, Bool.and_false, Bool.not_true, Bool.not_false] <;> first | done | rfl | (simp; done))
-- f177 certpath/certpathref26.SameScope
theorem F177 (a b : CList) (ha : okCL a) (hb : okCL b) : Fn Tryd.prog 38 [.pv (.agg (eCL a)), .pv (.agg (eCL b))] [] (fun r _ => r = sc (.bool (sameSc a b))) := by
  refine Fn.intro (rs := [.tmp 4]) hT Tryd.func38 (by kernel_rfl) rfl rfl rfl rfl fun C => ?_
  refine Aw.seq (Aw.region ?_)
  refine AwOps.eff hT rfl ?_
  refine AwOps.eff hT rfl ?_
  refine AwOps.v hT rfl ?_
  refine AwOps.nil (Aw.seq (Aw.seq (Aw.region ?_)))
  iterate 5 refine AwOps.v hT rfl ?_
  refine AwOps.nil ?_
  refine Aw.tst rfl (fun hb12 => ?_) (fun hb12 => ?_)
  · skip
    replace hb12 : (a.hasScope == b.hasScope) = false := bne_t hb12
    refine Aw.seq (Aw.region ?_)
    refine AwOps.v hT rfl ?_
    refine AwOps.nil ?_
    refine Aw.ret ?_
    refine ⟨_, [], rfl, trivial, ?_⟩
    exact scb (by unfold sameSc flagsE; rw [hb12]; simp only [if_true, if_false, Bool.false_eq_true, Bool.true_and, Bool.false_and, Bool.true_or, Bool.false_or, Bool.or_true, Bool.and_true, Bool.or_false, Bool.and_false, Bool.not_true, Bool.not_false] <;> first | done | rfl | (simp; done))
  · skip
    replace hb12 : (a.hasScope == b.hasScope) = true := bne_f hb12
    refine Aw.skip (Aw.seq ?_)
    refine Aw.regionAny [5, 6] (by kernel_rfl) ?_
    refine AwAny.tk (i := 0) (Yd.val hT rfl rfl) (by kernel_rfl) ?_
    refine AwAny.tk (i := 1) (Yd.val hT rfl rfl) (by kernel_rfl) ?_
    refine AwAny.tk (i := 2) (Yd.val hT rfl rfl) (by kernel_rfl) ?_
    refine AwAny.tk (i := 3) (Yd.val hT rfl rfl) (by kernel_rfl) ?_
    refine AwAny.two (i := 4) (j := 5) (by kernel_rfl) ?_ ?_
    · skip
      refine Ed.eff hT rfl (fun b hb => by cases hb) ?_
      refine AwAny.one (i := 5) (by kernel_rfl) ?_
      refine Ed.eff hT rfl (fun b hb => by cases hb) ?_
      refine AwAny.one (i := 6) (by kernel_rfl) ?_
      refine Ed.eff hT rfl (fun b hb => by injection hb with hb; subst hb; decide) ?_
      refine AwAny.one (i := 7) (by kernel_rfl) ?_
      refine Ed.eff hT rfl (fun b hb => by injection hb with hb; subst hb; decide) ?_
      refine AwAny.done (by kernel_rfl) ?_
      refine Aw.seq (Aw.seq (Aw.region ?_))
      iterate 3 refine AwOps.v hT rfl ?_
      refine AwOps.nil ?_
      refine Aw.tst rfl (fun hb19 => ?_) (fun hb19 => ?_)
      · skip
        refine Aw.seq (Aw.region ?_)
        refine AwOps.v hT rfl ?_
        refine AwOps.nil ?_
        refine Aw.ret ?_
        refine ⟨_, [], rfl, trivial, ?_⟩
        exact scb (by unfold sameSc flagsE; rw [hb12]; simp only [show a.hasScope = false by simpa using hb19, if_true, if_false, Bool.false_eq_true, Bool.true_and, Bool.false_and, Bool.true_or, Bool.false_or, Bool.or_true, Bool.and_true, Bool.or_false, Bool.and_false, Bool.not_true, Bool.not_false] <;> first | done | rfl | (simp; done))
      · skip
        refine Aw.skip (Aw.seq (Aw.seq ?_))
        refine Aw.regionS [] [(true, 0), (true, 1), (true, 2), (true, 3), (true, 4), (true, 5), (true, 6), (true, 7), (true, 8), (true, 9), (true, 10), (true, 11), (true, 12), (true, 13), (true, 14), (true, 15), (true, 16), (true, 17), (true, 18), (true, 19), (true, 20), (true, 21), (true, 23), (true, 24), (false, 22), (false, 25), (true, 26), (true, 27), (true, 28), (true, 29), (true, 30), (true, 31), (true, 32), (true, 33), (true, 34), (true, 35), (true, 36)] (by kernel_rfl) (by kernel_rfl) ?_
        iterate 6 refine AwSch.take (Yd.val hT rfl rfl) ?_
        refine AwSch.split (t := 25) rfl (fun hb25 => ?_) (fun hb25 => ?_)
        · skip
          replace hb25 : (a.scope.onlyUser == b.scope.onlyUser) = false := bne_t hb25
          iterate 18 refine AwSch.take (Yd.val hT rfl rfl) ?_
          refine AwSch.one ?_
          refine Yd.ed (Yd.val hT rfl rfl) ?_
          refine AwSch.one ?_
          refine Yd.ed (Yd.val hT rfl rfl) ?_
          iterate 11 refine AwSch.take (Yd.val hT rfl rfl) ?_
          refine AwSch.nil (Aw.condT rfl (Aw.seq (Aw.region ?_)))
          refine AwOps.v hT rfl ?_
          refine AwOps.nil ?_
          refine Aw.ret ?_
          refine ⟨_, [], rfl, trivial, ?_⟩
          exact scb (by unfold sameSc flagsE; rw [hb12]; simp only [show a.hasScope = true by simpa using hb19, show (a.scope.onlyUser == b.scope.onlyUser) = false from hb25, if_true, if_false, Bool.false_eq_true, Bool.true_and, Bool.false_and, Bool.true_or, Bool.false_or, Bool.or_true, Bool.and_true, Bool.or_false, Bool.and_false, Bool.not_true, Bool.not_false] <;> first | done | rfl | (simp; done))
        · skip
          replace hb25 : (a.scope.onlyUser == b.scope.onlyUser) = true := bne_f hb25
          iterate 7 refine AwSch.take (Yd.val hT rfl rfl) ?_
          refine AwSch.split (t := 32) rfl (fun hb32 => ?_) (fun hb32 => ?_)
          · skip
            replace hb32 : (a.scope.onlyCA == b.scope.onlyCA) = false := bne_t hb32
            iterate 11 refine AwSch.take (Yd.val hT rfl rfl) ?_
            refine AwSch.one ?_
            refine Yd.ed (Yd.val hT rfl rfl) ?_
            refine AwSch.one ?_
            refine Yd.ed (Yd.val hT rfl rfl) ?_
            iterate 11 refine AwSch.take (Yd.val hT rfl rfl) ?_
            refine AwSch.nil (Aw.condT rfl (Aw.seq (Aw.region ?_)))
            refine AwOps.v hT rfl ?_
            refine AwOps.nil ?_
            refine Aw.ret ?_
            refine ⟨_, [], rfl, trivial, ?_⟩
            exact scb (by unfold sameSc flagsE; rw [hb12]; simp only [show a.hasScope = true by simpa using hb19, show (a.scope.onlyUser == b.scope.onlyUser) = true from hb25, show (a.scope.onlyCA == b.scope.onlyCA) = false from hb32, if_true, if_false, Bool.false_eq_true, Bool.true_and, Bool.false_and, Bool.true_or, Bool.false_or, Bool.or_true, Bool.and_true, Bool.or_false, Bool.and_false, Bool.not_true, Bool.not_false] <;> first | done | rfl | (simp; done))
          · skip
            replace hb32 : (a.scope.onlyCA == b.scope.onlyCA) = true := bne_f hb32
            iterate 7 refine AwSch.take (Yd.val hT rfl rfl) ?_
            refine AwSch.split (t := 39) rfl (fun hb39 => ?_) (fun hb39 => ?_)
            · skip
              replace hb39 : (a.scope.indirect == b.scope.indirect) = false := bne_t hb39
              iterate 4 refine AwSch.take (Yd.val hT rfl rfl) ?_
              refine AwSch.one ?_
              refine Yd.ed (Yd.val hT rfl rfl) ?_
              refine AwSch.one ?_
              refine Yd.ed (Yd.val hT rfl rfl) ?_
              iterate 11 refine AwSch.take (Yd.val hT rfl rfl) ?_
              refine AwSch.nil (Aw.condT rfl (Aw.seq (Aw.region ?_)))
              refine AwOps.v hT rfl ?_
              refine AwOps.nil ?_
              refine Aw.ret ?_
              refine ⟨_, [], rfl, trivial, ?_⟩
              exact scb (by unfold sameSc flagsE; rw [hb12]; simp only [show a.hasScope = true by simpa using hb19, show (a.scope.onlyUser == b.scope.onlyUser) = true from hb25, show (a.scope.onlyCA == b.scope.onlyCA) = true from hb32, show (a.scope.indirect == b.scope.indirect) = false from hb39, if_true, if_false, Bool.false_eq_true, Bool.true_and, Bool.false_and, Bool.true_or, Bool.false_or, Bool.or_true, Bool.and_true, Bool.or_false, Bool.and_false, Bool.not_true, Bool.not_false] <;> first | done | rfl | (simp; done))
            · skip
              replace hb39 : (a.scope.indirect == b.scope.indirect) = true := bne_f hb39
              iterate 4 refine AwSch.take (Yd.val hT rfl rfl) ?_
              refine AwSch.one ?_
              refine Ed.cl (F173 _) [] rfl ⟨⟨rfl, rfl⟩, trivial⟩ trivial rfl rfl ?_   -- certpathref26.all
              rintro _ _ rfl
              refine AwSch.one ?_
              refine Ed.cl (F173 _) [] rfl ⟨⟨rfl, rfl⟩, trivial⟩ trivial rfl rfl ?_   -- certpathref26.all
              rintro _ _ rfl
              iterate 3 refine AwSch.take (Yd.val hT rfl rfl) ?_
              refine AwSch.split (t := 48) rfl (fun hb48 => ?_) (fun hb48 => ?_)
              · skip
                replace hb48 : (allR a.scope.reasons == allR b.scope.reasons) = false := bne_t hb48
                iterate 8 refine AwSch.take (Yd.val hT rfl rfl) ?_
                refine AwSch.nil (Aw.condT rfl (Aw.seq (Aw.region ?_)))
                refine AwOps.v hT rfl ?_
                refine AwOps.nil ?_
                refine Aw.ret ?_
                refine ⟨_, [], rfl, trivial, ?_⟩
                exact scb (by unfold sameSc flagsE; rw [hb12]; simp only [show a.hasScope = true by simpa using hb19, show (a.scope.onlyUser == b.scope.onlyUser) = true from hb25, show (a.scope.onlyCA == b.scope.onlyCA) = true from hb32, show (a.scope.indirect == b.scope.indirect) = true from hb39, show (allR a.scope.reasons == allR b.scope.reasons) = false from hb48, if_true, if_false, Bool.false_eq_true, Bool.true_and, Bool.false_and, Bool.true_or, Bool.false_or, Bool.or_true, Bool.and_true, Bool.or_false, Bool.and_false, Bool.not_true, Bool.not_false] <;> first | done | rfl | (simp; done))
              · skip
                replace hb48 : (allR a.scope.reasons == allR b.scope.reasons) = true := bne_f hb48
                iterate 8 refine AwSch.take (Yd.val hT rfl rfl) ?_
                refine AwSch.nil ?_
                refine Aw.tst rfl (fun hb56 => ?_) (fun hb56 => ?_)
                · skip
                  have hl : ¬ a.scope.names.length = b.scope.names.length := by simp at hb56; omega
                  refine Aw.seq (Aw.region ?_)
                  refine AwOps.v hT rfl ?_
                  refine AwOps.nil ?_
                  refine Aw.ret ?_
                  refine ⟨_, [], rfl, trivial, ?_⟩
                  exact scb (by unfold sameSc flagsE; rw [hb12]; simp only [show a.hasScope = true by simpa using hb19, show (a.scope.onlyUser == b.scope.onlyUser) = true from hb25, show (a.scope.onlyCA == b.scope.onlyCA) = true from hb32, show (a.scope.indirect == b.scope.indirect) = true from hb39, show (allR a.scope.reasons == allR b.scope.reasons) = true from hb48, eqL_len hl, if_true, if_false, Bool.false_eq_true, Bool.true_and, Bool.false_and, Bool.true_or, Bool.false_or, Bool.or_true, Bool.and_true, Bool.or_false, Bool.and_false, Bool.not_true, Bool.not_false] <;> first | done | rfl | (simp; done))
                · skip
                  have hl : a.scope.names.length = b.scope.names.length := by simp at hb56; omega
                  refine Aw.skip (Aw.seq (Aw.seq (Aw.region ?_)))
                  refine AwOps.v hT rfl ?_
                  refine AwOps.nil (Aw.block ?_)
                  have hB1 : a.scope.names.length ≤ maxLen := by have := ha.2.1; unfold maxLen; omega
                  refine Aw.lp (ι := Nat) (n := 76) [(5, _), (6, _)] [(5, _), (6, _)] (fun gq => [(7, sc (.int .i64 gq))]) (fun gq => []) (fun gq => gq ≤ a.scope.names.length ∧ (((a.scope.names.zip b.scope.names).take gq).all (fun q => sameG q.1 q.2) = true)) (fun gq => a.scope.names.length - gq) (0) ?ok1 (Less.tn ⟨rfl, ⟨rfl, rfl, rfl, trivial⟩, ⟨rfl, rfl, trivial⟩⟩) ?bd1
                  case ok1 =>
                    try dsimp only
                    exact ⟨Nat.zero_le _, rfl⟩
                  case bd1 =>
                    intro i1 hi1
                    try dsimp only at hi1
                    show Aw _ _ _ ⟨76, [(7, sc (.int .i64 i1))] ++ [(5, _), (6, _)], [] ++ [(5, _), (6, _)]⟩ _
                    have hlb : i1 < a.scope.names.length → i1 < b.scope.names.length := fun h => hl ▸ h
                    refine Aw.seq (Aw.seq (Aw.region ?_))
                    iterate 5 refine AwOps.v hT rfl ?_
                    refine AwOps.nil ?_
                    refine Aw.tst rfl (fun hb61 => ?_) (fun hb61 => ?_)
                    · skip
                      have hlt1 : i1 < a.scope.names.length := by simpa using hb61
                      refine Aw.skip (Aw.seq (Aw.block (Aw.seq ?_)))
                      refine Aw.regionS [] [(true, 0), (true, 1), (true, 2), (true, 3), (true, 4), (true, 5), (true, 6), (true, 7), (true, 8), (true, 9), (false, 10), (true, 11)] (by kernel_rfl) (by kernel_rfl) ?_
                      iterate 3 refine AwSch.take (Yd.val hT rfl rfl) ?_
                      refine AwSch.take (Yd.im hT rfl hlt1 rfl) ?_
                      iterate 4 refine AwSch.take (Yd.val hT rfl rfl) ?_
                      refine AwSch.take (Yd.im hT rfl (hlb hlt1) rfl) ?_
                      refine AwSch.take (Yd.val hT rfl rfl) ?_
                      refine AwSch.one ?_
                      refine Ed.cl (F183 _ _ (ha.2.2 _ (List.getElem_mem hlt1)) (hb.2.2 _ (List.getElem_mem (hlb hlt1)))) [] rfl ⟨⟨rfl, rfl⟩, ⟨rfl, rfl⟩, trivial⟩ trivial rfl rfl ?_   -- certpathref07.SameGeneral
                      rintro _ _ rfl
                      refine AwSch.take (Yd.val hT rfl rfl) ?_
                      refine AwSch.nil ?_
                      refine Aw.tst rfl (fun hb75 => ?_) (fun hb75 => ?_)
                      · skip
                        refine Aw.seq (Aw.region ?_)
                        refine AwOps.v hT rfl ?_
                        refine AwOps.nil ?_
                        refine Aw.ret ?_
                        refine ⟨_, [], rfl, trivial, ?_⟩
                        exact scb (by unfold sameSc flagsE; rw [hb12]; simp only [show a.hasScope = true by simpa using hb19, show (a.scope.onlyUser == b.scope.onlyUser) = true from hb25, show (a.scope.onlyCA == b.scope.onlyCA) = true from hb32, show (a.scope.indirect == b.scope.indirect) = true from hb39, show (allR a.scope.reasons == allR b.scope.reasons) = true from hb48, zip_hit hlt1 (hlb hlt1) (bne_t hb75), if_true, if_false, Bool.false_eq_true, Bool.true_and, Bool.false_and, Bool.true_or, Bool.false_or, Bool.or_true, Bool.and_true, Bool.or_false, Bool.and_false, Bool.not_true, Bool.not_false] <;> first | done | rfl | (simp; done))
                      · skip
                        refine Aw.skip (Aw.region ?_)
                        iterate 3 refine AwOps.v hT rfl ?_
                        refine AwOps.nil ?_
                        refine ⟨(i1 + 1), ?nx1, ?mu1, Less.tn ⟨rfl, ⟨incS hlt1 hB1, rfl, rfl, trivial⟩, ⟨rfl, rfl, trivial⟩⟩⟩
                        case nx1 =>
                          try dsimp only
                          exact ⟨hlt1, zip_next hl hlt1 (hlb hlt1) hi1.2 (bne_f hb75)⟩
                        case mu1 =>
                          try dsimp only
                          first | omega | (simp only [w64] at *; omega) | (simp [w64] at *; omega)
                    · skip
                      refine Aw.exit (Aw.seq (Aw.region ?_))
                      refine AwOps.v hT rfl ?_
                      refine AwOps.nil ?_
                      refine Aw.ret ?_
                      refine ⟨_, [], rfl, trivial, ?_⟩
                      exact scb (by unfold sameSc flagsE; rw [hb12]; simp only [show a.hasScope = true by simpa using hb19, show (a.scope.onlyUser == b.scope.onlyUser) = true from hb25, show (a.scope.onlyCA == b.scope.onlyCA) = true from hb32, show (a.scope.indirect == b.scope.indirect) = true from hb39, show (allR a.scope.reasons == allR b.scope.reasons) = true from hb48, zip_full hl hi1.2 (by simpa using hb61), if_true, if_false, Bool.false_eq_true, Bool.true_and, Bool.false_and, Bool.true_or, Bool.false_or, Bool.or_true, Bool.and_true, Bool.or_false, Bool.and_false, Bool.not_true, Bool.not_false] <;> first | done | rfl | (simp; done))
    · skip
      refine Ed.eff hT rfl (fun b hb => by cases hb) ?_
      refine AwAny.one (i := 4) (by kernel_rfl) ?_
      refine Ed.eff hT rfl (fun b hb => by cases hb) ?_
      refine AwAny.one (i := 6) (by kernel_rfl) ?_
      refine Ed.eff hT rfl (fun b hb => by injection hb with hb; subst hb; decide) ?_
      refine AwAny.one (i := 7) (by kernel_rfl) ?_
      refine Ed.eff hT rfl (fun b hb => by injection hb with hb; subst hb; decide) ?_
      refine AwAny.done (by kernel_rfl) ?_
      refine Aw.seq (Aw.seq (Aw.region ?_))
      iterate 3 refine AwOps.v hT rfl ?_
      refine AwOps.nil ?_
      refine Aw.tst rfl (fun hb19 => ?_) (fun hb19 => ?_)
      · skip
        refine Aw.seq (Aw.region ?_)
        refine AwOps.v hT rfl ?_
        refine AwOps.nil ?_
        refine Aw.ret ?_
        refine ⟨_, [], rfl, trivial, ?_⟩
        exact scb (by unfold sameSc flagsE; rw [hb12]; simp only [show a.hasScope = false by simpa using hb19, if_true, if_false, Bool.false_eq_true, Bool.true_and, Bool.false_and, Bool.true_or, Bool.false_or, Bool.or_true, Bool.and_true, Bool.or_false, Bool.and_false, Bool.not_true, Bool.not_false] <;> first | done | rfl | (simp; done))
      · skip
        refine Aw.skip (Aw.seq (Aw.seq ?_))
        refine Aw.regionS [] [(true, 0), (true, 1), (true, 2), (true, 3), (true, 4), (true, 5), (true, 6), (true, 7), (true, 8), (true, 9), (true, 10), (true, 11), (true, 12), (true, 13), (true, 14), (true, 15), (true, 16), (true, 17), (true, 18), (true, 19), (true, 20), (true, 21), (true, 23), (true, 24), (false, 22), (false, 25), (true, 26), (true, 27), (true, 28), (true, 29), (true, 30), (true, 31), (true, 32), (true, 33), (true, 34), (true, 35), (true, 36)] (by kernel_rfl) (by kernel_rfl) ?_
        iterate 6 refine AwSch.take (Yd.val hT rfl rfl) ?_
        refine AwSch.split (t := 25) rfl (fun hb25 => ?_) (fun hb25 => ?_)
        · skip
          replace hb25 : (a.scope.onlyUser == b.scope.onlyUser) = false := bne_t hb25
          iterate 18 refine AwSch.take (Yd.val hT rfl rfl) ?_
          refine AwSch.one ?_
          refine Yd.ed (Yd.val hT rfl rfl) ?_
          refine AwSch.one ?_
          refine Yd.ed (Yd.val hT rfl rfl) ?_
          iterate 11 refine AwSch.take (Yd.val hT rfl rfl) ?_
          refine AwSch.nil (Aw.condT rfl (Aw.seq (Aw.region ?_)))
          refine AwOps.v hT rfl ?_
          refine AwOps.nil ?_
          refine Aw.ret ?_
          refine ⟨_, [], rfl, trivial, ?_⟩
          exact scb (by unfold sameSc flagsE; rw [hb12]; simp only [show a.hasScope = true by simpa using hb19, show (a.scope.onlyUser == b.scope.onlyUser) = false from hb25, if_true, if_false, Bool.false_eq_true, Bool.true_and, Bool.false_and, Bool.true_or, Bool.false_or, Bool.or_true, Bool.and_true, Bool.or_false, Bool.and_false, Bool.not_true, Bool.not_false] <;> first | done | rfl | (simp; done))
        · skip
          replace hb25 : (a.scope.onlyUser == b.scope.onlyUser) = true := bne_f hb25
          iterate 7 refine AwSch.take (Yd.val hT rfl rfl) ?_
          refine AwSch.split (t := 32) rfl (fun hb32 => ?_) (fun hb32 => ?_)
          · skip
            replace hb32 : (a.scope.onlyCA == b.scope.onlyCA) = false := bne_t hb32
            iterate 11 refine AwSch.take (Yd.val hT rfl rfl) ?_
            refine AwSch.one ?_
            refine Yd.ed (Yd.val hT rfl rfl) ?_
            refine AwSch.one ?_
            refine Yd.ed (Yd.val hT rfl rfl) ?_
            iterate 11 refine AwSch.take (Yd.val hT rfl rfl) ?_
            refine AwSch.nil (Aw.condT rfl (Aw.seq (Aw.region ?_)))
            refine AwOps.v hT rfl ?_
            refine AwOps.nil ?_
            refine Aw.ret ?_
            refine ⟨_, [], rfl, trivial, ?_⟩
            exact scb (by unfold sameSc flagsE; rw [hb12]; simp only [show a.hasScope = true by simpa using hb19, show (a.scope.onlyUser == b.scope.onlyUser) = true from hb25, show (a.scope.onlyCA == b.scope.onlyCA) = false from hb32, if_true, if_false, Bool.false_eq_true, Bool.true_and, Bool.false_and, Bool.true_or, Bool.false_or, Bool.or_true, Bool.and_true, Bool.or_false, Bool.and_false, Bool.not_true, Bool.not_false] <;> first | done | rfl | (simp; done))
          · skip
            replace hb32 : (a.scope.onlyCA == b.scope.onlyCA) = true := bne_f hb32
            iterate 7 refine AwSch.take (Yd.val hT rfl rfl) ?_
            refine AwSch.split (t := 39) rfl (fun hb39 => ?_) (fun hb39 => ?_)
            · skip
              replace hb39 : (a.scope.indirect == b.scope.indirect) = false := bne_t hb39
              iterate 4 refine AwSch.take (Yd.val hT rfl rfl) ?_
              refine AwSch.one ?_
              refine Yd.ed (Yd.val hT rfl rfl) ?_
              refine AwSch.one ?_
              refine Yd.ed (Yd.val hT rfl rfl) ?_
              iterate 11 refine AwSch.take (Yd.val hT rfl rfl) ?_
              refine AwSch.nil (Aw.condT rfl (Aw.seq (Aw.region ?_)))
              refine AwOps.v hT rfl ?_
              refine AwOps.nil ?_
              refine Aw.ret ?_
              refine ⟨_, [], rfl, trivial, ?_⟩
              exact scb (by unfold sameSc flagsE; rw [hb12]; simp only [show a.hasScope = true by simpa using hb19, show (a.scope.onlyUser == b.scope.onlyUser) = true from hb25, show (a.scope.onlyCA == b.scope.onlyCA) = true from hb32, show (a.scope.indirect == b.scope.indirect) = false from hb39, if_true, if_false, Bool.false_eq_true, Bool.true_and, Bool.false_and, Bool.true_or, Bool.false_or, Bool.or_true, Bool.and_true, Bool.or_false, Bool.and_false, Bool.not_true, Bool.not_false] <;> first | done | rfl | (simp; done))
            · skip
              replace hb39 : (a.scope.indirect == b.scope.indirect) = true := bne_f hb39
              iterate 4 refine AwSch.take (Yd.val hT rfl rfl) ?_
              refine AwSch.one ?_
              refine Ed.cl (F173 _) [] rfl ⟨⟨rfl, rfl⟩, trivial⟩ trivial rfl rfl ?_   -- certpathref26.all
              rintro _ _ rfl
              refine AwSch.one ?_
              refine Ed.cl (F173 _) [] rfl ⟨⟨rfl, rfl⟩, trivial⟩ trivial rfl rfl ?_   -- certpathref26.all
              rintro _ _ rfl
              iterate 3 refine AwSch.take (Yd.val hT rfl rfl) ?_
              refine AwSch.split (t := 48) rfl (fun hb48 => ?_) (fun hb48 => ?_)
              · skip
                replace hb48 : (allR a.scope.reasons == allR b.scope.reasons) = false := bne_t hb48
                iterate 8 refine AwSch.take (Yd.val hT rfl rfl) ?_
                refine AwSch.nil (Aw.condT rfl (Aw.seq (Aw.region ?_)))
                refine AwOps.v hT rfl ?_
                refine AwOps.nil ?_
                refine Aw.ret ?_
                refine ⟨_, [], rfl, trivial, ?_⟩
                exact scb (by unfold sameSc flagsE; rw [hb12]; simp only [show a.hasScope = true by simpa using hb19, show (a.scope.onlyUser == b.scope.onlyUser) = true from hb25, show (a.scope.onlyCA == b.scope.onlyCA) = true from hb32, show (a.scope.indirect == b.scope.indirect) = true from hb39, show (allR a.scope.reasons == allR b.scope.reasons) = false from hb48, if_true, if_false, Bool.false_eq_true, Bool.true_and, Bool.false_and, Bool.true_or, Bool.false_or, Bool.or_true, Bool.and_true, Bool.or_false, Bool.and_false, Bool.not_true, Bool.not_false] <;> first | done | rfl | (simp; done))
              · skip
                replace hb48 : (allR a.scope.reasons == allR b.scope.reasons) = true := bne_f hb48
                iterate 8 refine AwSch.take (Yd.val hT rfl rfl) ?_
                refine AwSch.nil ?_
                refine Aw.tst rfl (fun hb56 => ?_) (fun hb56 => ?_)
                · skip
                  have hl : ¬ a.scope.names.length = b.scope.names.length := by simp at hb56; omega
                  refine Aw.seq (Aw.region ?_)
                  refine AwOps.v hT rfl ?_
                  refine AwOps.nil ?_
                  refine Aw.ret ?_
                  refine ⟨_, [], rfl, trivial, ?_⟩
                  exact scb (by unfold sameSc flagsE; rw [hb12]; simp only [show a.hasScope = true by simpa using hb19, show (a.scope.onlyUser == b.scope.onlyUser) = true from hb25, show (a.scope.onlyCA == b.scope.onlyCA) = true from hb32, show (a.scope.indirect == b.scope.indirect) = true from hb39, show (allR a.scope.reasons == allR b.scope.reasons) = true from hb48, eqL_len hl, if_true, if_false, Bool.false_eq_true, Bool.true_and, Bool.false_and, Bool.true_or, Bool.false_or, Bool.or_true, Bool.and_true, Bool.or_false, Bool.and_false, Bool.not_true, Bool.not_false] <;> first | done | rfl | (simp; done))
                · skip
                  have hl : a.scope.names.length = b.scope.names.length := by simp at hb56; omega
                  refine Aw.skip (Aw.seq (Aw.seq (Aw.region ?_)))
                  refine AwOps.v hT rfl ?_
                  refine AwOps.nil (Aw.block ?_)
                  have hB1 : a.scope.names.length ≤ maxLen := by have := ha.2.1; unfold maxLen; omega
                  refine Aw.lp (ι := Nat) (n := 76) [(5, _), (6, _)] [(5, _), (6, _)] (fun gq => [(7, sc (.int .i64 gq))]) (fun gq => []) (fun gq => gq ≤ a.scope.names.length ∧ (((a.scope.names.zip b.scope.names).take gq).all (fun q => sameG q.1 q.2) = true)) (fun gq => a.scope.names.length - gq) (0) ?ok1 (Less.tn ⟨rfl, ⟨rfl, rfl, rfl, trivial⟩, ⟨rfl, rfl, trivial⟩⟩) ?bd1
                  case ok1 =>
                    try dsimp only
                    exact ⟨Nat.zero_le _, rfl⟩
                  case bd1 =>
                    intro i1 hi1
                    try dsimp only at hi1
                    show Aw _ _ _ ⟨76, [(7, sc (.int .i64 i1))] ++ [(5, _), (6, _)], [] ++ [(5, _), (6, _)]⟩ _
                    have hlb : i1 < a.scope.names.length → i1 < b.scope.names.length := fun h => hl ▸ h
                    refine Aw.seq (Aw.seq (Aw.region ?_))
                    iterate 5 refine AwOps.v hT rfl ?_
                    refine AwOps.nil ?_
                    refine Aw.tst rfl (fun hb61 => ?_) (fun hb61 => ?_)
                    · skip
                      have hlt1 : i1 < a.scope.names.length := by simpa using hb61
                      refine Aw.skip (Aw.seq (Aw.block (Aw.seq ?_)))
                      refine Aw.regionS [] [(true, 0), (true, 1), (true, 2), (true, 3), (true, 4), (true, 5), (true, 6), (true, 7), (true, 8), (true, 9), (false, 10), (true, 11)] (by kernel_rfl) (by kernel_rfl) ?_
                      iterate 3 refine AwSch.take (Yd.val hT rfl rfl) ?_
                      refine AwSch.take (Yd.im hT rfl hlt1 rfl) ?_
                      iterate 4 refine AwSch.take (Yd.val hT rfl rfl) ?_
                      refine AwSch.take (Yd.im hT rfl (hlb hlt1) rfl) ?_
                      refine AwSch.take (Yd.val hT rfl rfl) ?_
                      refine AwSch.one ?_
                      refine Ed.cl (F183 _ _ (ha.2.2 _ (List.getElem_mem hlt1)) (hb.2.2 _ (List.getElem_mem (hlb hlt1)))) [] rfl ⟨⟨rfl, rfl⟩, ⟨rfl, rfl⟩, trivial⟩ trivial rfl rfl ?_   -- certpathref07.SameGeneral
                      rintro _ _ rfl
                      refine AwSch.take (Yd.val hT rfl rfl) ?_
                      refine AwSch.nil ?_
                      refine Aw.tst rfl (fun hb75 => ?_) (fun hb75 => ?_)
                      · skip
                        refine Aw.seq (Aw.region ?_)
                        refine AwOps.v hT rfl ?_
                        refine AwOps.nil ?_
                        refine Aw.ret ?_
                        refine ⟨_, [], rfl, trivial, ?_⟩
                        exact scb (by unfold sameSc flagsE; rw [hb12]; simp only [show a.hasScope = true by simpa using hb19, show (a.scope.onlyUser == b.scope.onlyUser) = true from hb25, show (a.scope.onlyCA == b.scope.onlyCA) = true from hb32, show (a.scope.indirect == b.scope.indirect) = true from hb39, show (allR a.scope.reasons == allR b.scope.reasons) = true from hb48, zip_hit hlt1 (hlb hlt1) (bne_t hb75), if_true, if_false, Bool.false_eq_true, Bool.true_and, Bool.false_and, Bool.true_or, Bool.false_or, Bool.or_true, Bool.and_true, Bool.or_false, Bool.and_false, Bool.not_true, Bool.not_false] <;> first | done | rfl | (simp; done))
                      · skip
                        refine Aw.skip (Aw.region ?_)
                        iterate 3 refine AwOps.v hT rfl ?_
                        refine AwOps.nil ?_
                        refine ⟨(i1 + 1), ?nx1, ?mu1, Less.tn ⟨rfl, ⟨incS hlt1 hB1, rfl, rfl, trivial⟩, ⟨rfl, rfl, trivial⟩⟩⟩
                        case nx1 =>
                          try dsimp only
                          exact ⟨hlt1, zip_next hl hlt1 (hlb hlt1) hi1.2 (bne_f hb75)⟩
                        case mu1 =>
                          try dsimp only
                          first | omega | (simp only [w64] at *; omega) | (simp [w64] at *; omega)
                    · skip
                      refine Aw.exit (Aw.seq (Aw.region ?_))
                      refine AwOps.v hT rfl ?_
                      refine AwOps.nil ?_
                      refine Aw.ret ?_
                      refine ⟨_, [], rfl, trivial, ?_⟩
                      exact scb (by unfold sameSc flagsE; rw [hb12]; simp only [show a.hasScope = true by simpa using hb19, show (a.scope.onlyUser == b.scope.onlyUser) = true from hb25, show (a.scope.onlyCA == b.scope.onlyCA) = true from hb32, show (a.scope.indirect == b.scope.indirect) = true from hb39, show (allR a.scope.reasons == allR b.scope.reasons) = true from hb48, zip_full hl hi1.2 (by simpa using hb61), if_true, if_false, Bool.false_eq_true, Bool.true_and, Bool.false_and, Bool.true_or, Bool.false_or, Bool.or_true, Bool.and_true, Bool.or_false, Bool.and_false, Bool.not_true, Bool.not_false] <;> first | done | rfl | (simp; done))
-- f166 certpath/scope.Extends
theorem F166 (a b : CList) (ha : okCL a) (hb : okCL b) : Fn Tryd.prog 21 [.pv (.agg (eCL a)), .pv (.agg (eCL b))] [] (fun r _ => r = sc (.bool (extS a b))) := by
  refine Fn.intro (rs := [.tmp 4]) hT Tryd.func21 (by kernel_rfl) rfl rfl rfl rfl fun C => ?_
  refine Aw.seq (Aw.region ?_)
  refine AwOps.eff hT rfl ?_
  refine AwOps.eff hT rfl ?_
  refine AwOps.v hT rfl ?_
  refine AwOps.nil (Aw.seq (Aw.region ?_))
  iterate 4 refine AwOps.v hT rfl ?_
  refine AwOps.split (t := 8) rfl (fun hb8 => ?_) (fun hb8 => ?_)
  · skip
    iterate 5 refine AwOps.v hT rfl ?_
    refine AwOps.split (t := 13) rfl (fun hb13 => ?_) (fun hb13 => ?_)
    · skip
      iterate 4 refine AwOps.v hT rfl ?_
      refine AwOps.cl (Match_ok _ _ ha.1.1 hb.1.1) [] rfl ⟨⟨rfl, rfl⟩, ⟨rfl, rfl⟩, trivial⟩ trivial rfl ?_   -- dname.Match
      rintro _ _ rfl
      refine AwOps.v hT rfl ?_
      refine AwOps.v hT rfl ?_
      refine AwOps.split (t := 20) rfl (fun hb20 => ?_) (fun hb20 => ?_)
      · skip
        refine AwOps.v hT rfl ?_
        refine AwOps.v hT rfl ?_
        refine AwOps.cl (F176 a b ha hb) [] rfl ⟨⟨rfl, rfl⟩, ⟨rfl, rfl⟩, trivial⟩ trivial rfl ?_   -- scope.Same
        rintro _ _ rfl
        refine AwOps.v hT rfl ?_
        refine AwOps.v hT rfl ?_
        refine AwOps.split (t := 25) rfl (fun hb25 => ?_) (fun hb25 => ?_)
        · skip
          iterate 7 refine AwOps.v hT rfl ?_
          refine AwOps.split (t := 32) rfl (fun hb32 => ?_) (fun hb32 => ?_)
          · skip
            iterate 7 refine AwOps.v hT rfl ?_
            refine AwOps.split (t := 39) rfl (fun hb39 => ?_) (fun hb39 => ?_)
            · skip
              iterate 7 refine AwOps.v hT rfl ?_
              refine AwOps.nil ?_
              refine Aw.ret ?_
              refine ⟨_, [], rfl, trivial, ?_⟩
              exact scb (by rw [extS]; simp only [show (a.base == -1) = true from hb8, show (b.base != -1) = true from hb13, show (nmatch a.issuer b.issuer) = true from hb20, show (sameSc a b) = true from hb25, show (seq a.akey b.akey) = true from hb32, show (decide (b.base ≤ a.number)) = true from hb39, Bool.true_and, Bool.false_and, Bool.true_or, Bool.false_or, Bool.or_true, Bool.and_true, Bool.or_false, Bool.and_false, Bool.not_true, Bool.not_false] <;> first | done | rfl | (simp; done))
            · skip
              iterate 7 refine AwOps.v hT rfl ?_
              refine AwOps.nil ?_
              refine Aw.ret ?_
              refine ⟨_, [], rfl, trivial, ?_⟩
              exact scb (by rw [extS]; simp only [show (a.base == -1) = true from hb8, show (b.base != -1) = true from hb13, show (nmatch a.issuer b.issuer) = true from hb20, show (sameSc a b) = true from hb25, show (seq a.akey b.akey) = true from hb32, show (decide (b.base ≤ a.number)) = false from hb39, Bool.true_and, Bool.false_and, Bool.true_or, Bool.false_or, Bool.or_true, Bool.and_true, Bool.or_false, Bool.and_false, Bool.not_true, Bool.not_false] <;> first | done | rfl | (simp; done))
          · skip
            iterate 14 refine AwOps.v hT rfl ?_
            refine AwOps.nil ?_
            refine Aw.ret ?_
            refine ⟨_, [], rfl, trivial, ?_⟩
            exact scb (by rw [extS]; simp only [show (a.base == -1) = true from hb8, show (b.base != -1) = true from hb13, show (nmatch a.issuer b.issuer) = true from hb20, show (sameSc a b) = true from hb25, show (seq a.akey b.akey) = false from hb32, Bool.true_and, Bool.false_and, Bool.true_or, Bool.false_or, Bool.or_true, Bool.and_true, Bool.or_false, Bool.and_false, Bool.not_true, Bool.not_false] <;> first | done | rfl | (simp; done))
        · skip
          iterate 21 refine AwOps.v hT rfl ?_
          refine AwOps.nil ?_
          refine Aw.ret ?_
          refine ⟨_, [], rfl, trivial, ?_⟩
          exact scb (by rw [extS]; simp only [show (a.base == -1) = true from hb8, show (b.base != -1) = true from hb13, show (nmatch a.issuer b.issuer) = true from hb20, show (sameSc a b) = false from hb25, Bool.true_and, Bool.false_and, Bool.true_or, Bool.false_or, Bool.or_true, Bool.and_true, Bool.or_false, Bool.and_false, Bool.not_true, Bool.not_false] <;> first | done | rfl | (simp; done))
      · skip
        iterate 26 refine AwOps.v hT rfl ?_
        refine AwOps.nil ?_
        refine Aw.ret ?_
        refine ⟨_, [], rfl, trivial, ?_⟩
        exact scb (by rw [extS]; simp only [show (a.base == -1) = true from hb8, show (b.base != -1) = true from hb13, show (nmatch a.issuer b.issuer) = false from hb20, Bool.true_and, Bool.false_and, Bool.true_or, Bool.false_or, Bool.or_true, Bool.and_true, Bool.or_false, Bool.and_false, Bool.not_true, Bool.not_false] <;> first | done | rfl | (simp; done))
    · skip
      iterate 33 refine AwOps.v hT rfl ?_
      refine AwOps.nil ?_
      refine Aw.ret ?_
      refine ⟨_, [], rfl, trivial, ?_⟩
      exact scb (by rw [extS]; simp only [show (a.base == -1) = true from hb8, show (b.base != -1) = false from hb13, Bool.true_and, Bool.false_and, Bool.true_or, Bool.false_or, Bool.or_true, Bool.and_true, Bool.or_false, Bool.and_false, Bool.not_true, Bool.not_false] <;> first | done | rfl | (simp; done))
  · skip
    iterate 38 refine AwOps.v hT rfl ?_
    refine AwOps.nil ?_
    refine Aw.ret ?_
    refine ⟨_, [], rfl, trivial, ?_⟩
    exact scb (by rw [extS]; simp only [show (a.base == -1) = false from hb8, Bool.true_and, Bool.false_and, Bool.true_or, Bool.false_or, Bool.or_true, Bool.and_true, Bool.or_false, Bool.and_false, Bool.not_true, Bool.not_false] <;> first | done | rfl | (simp; done))
-- f167 certpath/certpathref26.Extends
theorem F167 (a b : CList) (ha : okCL a) (hb : okCL b) : Fn Tryd.prog 22 [.pv (.agg (eCL a)), .pv (.agg (eCL b))] [] (fun r _ => r = sc (.bool (extS a b))) := by
  refine Fn.intro (rs := [.tmp 4]) hT Tryd.func22 (by kernel_rfl) rfl rfl rfl rfl fun C => ?_
  refine Aw.seq (Aw.region ?_)
  refine AwOps.eff hT rfl ?_
  refine AwOps.eff hT rfl ?_
  refine AwOps.v hT rfl ?_
  refine AwOps.nil (Aw.seq (Aw.region ?_))
  iterate 4 refine AwOps.v hT rfl ?_
  refine AwOps.split (t := 8) rfl (fun hb8 => ?_) (fun hb8 => ?_)
  · skip
    iterate 5 refine AwOps.v hT rfl ?_
    refine AwOps.split (t := 13) rfl (fun hb13 => ?_) (fun hb13 => ?_)
    · skip
      iterate 4 refine AwOps.v hT rfl ?_
      refine AwOps.cl (MatchName_ok _ _ ha.1.1 hb.1.1) [] rfl ⟨⟨rfl, rfl⟩, ⟨rfl, rfl⟩, trivial⟩ trivial rfl ?_   -- certpathref07.MatchName
      rintro _ _ rfl
      refine AwOps.v hT rfl ?_
      refine AwOps.v hT rfl ?_
      refine AwOps.split (t := 20) rfl (fun hb20 => ?_) (fun hb20 => ?_)
      · skip
        refine AwOps.v hT rfl ?_
        refine AwOps.v hT rfl ?_
        refine AwOps.cl (F177 a b ha hb) [] rfl ⟨⟨rfl, rfl⟩, ⟨rfl, rfl⟩, trivial⟩ trivial rfl ?_   -- certpathref26.SameScope
        rintro _ _ rfl
        refine AwOps.v hT rfl ?_
        refine AwOps.v hT rfl ?_
        refine AwOps.split (t := 25) rfl (fun hb25 => ?_) (fun hb25 => ?_)
        · skip
          iterate 7 refine AwOps.v hT rfl ?_
          refine AwOps.split (t := 32) rfl (fun hb32 => ?_) (fun hb32 => ?_)
          · skip
            iterate 7 refine AwOps.v hT rfl ?_
            refine AwOps.split (t := 39) rfl (fun hb39 => ?_) (fun hb39 => ?_)
            · skip
              iterate 7 refine AwOps.v hT rfl ?_
              refine AwOps.nil ?_
              refine Aw.ret ?_
              refine ⟨_, [], rfl, trivial, ?_⟩
              exact scb (by rw [extS]; simp only [show (a.base == -1) = true from hb8, show (b.base != -1) = true from hb13, show (nmatch a.issuer b.issuer) = true from hb20, show (sameSc a b) = true from hb25, show (seq a.akey b.akey) = true from hb32, show (decide (b.base ≤ a.number)) = true from hb39, Bool.true_and, Bool.false_and, Bool.true_or, Bool.false_or, Bool.or_true, Bool.and_true, Bool.or_false, Bool.and_false, Bool.not_true, Bool.not_false] <;> first | done | rfl | (simp; done))
            · skip
              iterate 7 refine AwOps.v hT rfl ?_
              refine AwOps.nil ?_
              refine Aw.ret ?_
              refine ⟨_, [], rfl, trivial, ?_⟩
              exact scb (by rw [extS]; simp only [show (a.base == -1) = true from hb8, show (b.base != -1) = true from hb13, show (nmatch a.issuer b.issuer) = true from hb20, show (sameSc a b) = true from hb25, show (seq a.akey b.akey) = true from hb32, show (decide (b.base ≤ a.number)) = false from hb39, Bool.true_and, Bool.false_and, Bool.true_or, Bool.false_or, Bool.or_true, Bool.and_true, Bool.or_false, Bool.and_false, Bool.not_true, Bool.not_false] <;> first | done | rfl | (simp; done))
          · skip
            iterate 14 refine AwOps.v hT rfl ?_
            refine AwOps.nil ?_
            refine Aw.ret ?_
            refine ⟨_, [], rfl, trivial, ?_⟩
            exact scb (by rw [extS]; simp only [show (a.base == -1) = true from hb8, show (b.base != -1) = true from hb13, show (nmatch a.issuer b.issuer) = true from hb20, show (sameSc a b) = true from hb25, show (seq a.akey b.akey) = false from hb32, Bool.true_and, Bool.false_and, Bool.true_or, Bool.false_or, Bool.or_true, Bool.and_true, Bool.or_false, Bool.and_false, Bool.not_true, Bool.not_false] <;> first | done | rfl | (simp; done))
        · skip
          iterate 21 refine AwOps.v hT rfl ?_
          refine AwOps.nil ?_
          refine Aw.ret ?_
          refine ⟨_, [], rfl, trivial, ?_⟩
          exact scb (by rw [extS]; simp only [show (a.base == -1) = true from hb8, show (b.base != -1) = true from hb13, show (nmatch a.issuer b.issuer) = true from hb20, show (sameSc a b) = false from hb25, Bool.true_and, Bool.false_and, Bool.true_or, Bool.false_or, Bool.or_true, Bool.and_true, Bool.or_false, Bool.and_false, Bool.not_true, Bool.not_false] <;> first | done | rfl | (simp; done))
      · skip
        iterate 26 refine AwOps.v hT rfl ?_
        refine AwOps.nil ?_
        refine Aw.ret ?_
        refine ⟨_, [], rfl, trivial, ?_⟩
        exact scb (by rw [extS]; simp only [show (a.base == -1) = true from hb8, show (b.base != -1) = true from hb13, show (nmatch a.issuer b.issuer) = false from hb20, Bool.true_and, Bool.false_and, Bool.true_or, Bool.false_or, Bool.or_true, Bool.and_true, Bool.or_false, Bool.and_false, Bool.not_true, Bool.not_false] <;> first | done | rfl | (simp; done))
    · skip
      iterate 33 refine AwOps.v hT rfl ?_
      refine AwOps.nil ?_
      refine Aw.ret ?_
      refine ⟨_, [], rfl, trivial, ?_⟩
      exact scb (by rw [extS]; simp only [show (a.base == -1) = true from hb8, show (b.base != -1) = false from hb13, Bool.true_and, Bool.false_and, Bool.true_or, Bool.false_or, Bool.or_true, Bool.and_true, Bool.or_false, Bool.and_false, Bool.not_true, Bool.not_false] <;> first | done | rfl | (simp; done))
  · skip
    iterate 38 refine AwOps.v hT rfl ?_
    refine AwOps.nil ?_
    refine Aw.ret ?_
    refine ⟨_, [], rfl, trivial, ?_⟩
    exact scb (by rw [extS]; simp only [show (a.base == -1) = false from hb8, Bool.true_and, Bool.false_and, Bool.true_or, Bool.false_or, Bool.or_true, Bool.and_true, Bool.or_false, Bool.and_false, Bool.not_true, Bool.not_false] <;> first | done | rfl | (simp; done))
-- f156 certpath/certpathlaw27.ScopeExtends
theorem F156 (l : List Int) (b : Bool) : Fn Tryd.prog 7 [.pv (.one (.p (.sl (l.map eI)))), .pv (sc (.bool b))] [] (fun r _ => r = sc (.bool (true))) := by
  refine Fn.intro (rs := [.tmp 4]) hT Tryd.func7 (by kernel_rfl) rfl rfl rfl rfl fun C => ?_
  refine Aw.seq (Aw.region ?_)
  refine AwOps.v hT rfl ?_
  refine AwOps.nil (Aw.seq (Aw.region ?_))
  refine AwOps.v hT rfl ?_
  refine AwOps.ed (N := []) (Ed.callO (F8 _) rfl rfl rfl rfl ?_)
  rintro _ rfl
  refine AwOps.v hT rfl ?_
  refine AwOps.nil (Aw.seq (Aw.region ?_))
  refine AwOps.v hT rfl ?_
  refine AwOps.cl (F165 _) [11] rfl ⟨⟨11, rfl, rfl⟩, trivial⟩ ⟨rfl, trivial⟩ rfl ?_   -- certpathlaw27.list
  rintro _ _ ⟨l1, d1, rfl, rfl, ho1, hr1⟩
  refine AwOps.v hT rfl ?_
  refine AwOps.cl (F165 _) [11] rfl ⟨⟨11, rfl, rfl⟩, trivial⟩ ⟨rfl, trivial⟩ rfl ?_   -- certpathlaw27.list
  rintro _ _ ⟨l2, d2, rfl, rfl, ho2, hr2⟩
  iterate 3 refine AwOps.eff hT rfl ?_
  refine AwOps.turn (Tn.sayH (b := 6) (B := .box ⟨43, [_, _, _, _, _, _, _, _, _, _, _, _, _, _, _, _, _], []⟩) rfl rfl) ?_
  refine AwOps.eff hT rfl ?_
  refine AwOps.turn (Tn.sayH (b := 7) (B := .box ⟨43, [_, _, _, _, _, _, _, _, _, _, _, _, _, _, _, _, _], []⟩) rfl rfl) ?_
  refine AwOps.nil (Aw.seq (Aw.seq (Aw.region ?_)))
  refine AwOps.v hT rfl ?_
  refine AwOps.nil ?_
  refine Aw.tst rfl (fun hb16 => ?_) (fun hb16 => ?_)
  · skip
    refine Aw.seq ?_
    refine Aw.regionS [] [(true, 0), (true, 1), (true, 2), (true, 3), (true, 4), (true, 5)] (by kernel_rfl) (by kernel_rfl) ?_
    iterate 6 refine AwSch.take (Yd.val hT rfl rfl) ?_
    refine AwSch.nil (Aw.seq (Aw.region ?_))
    refine AwOps.v hT rfl ?_
    refine AwOps.eff hT rfl ?_
    refine AwOps.turn (Tn.sayH (b := 7) (B := .box ⟨43, [_, _, _, _, _, _, _, _, _, _, _, _, _, _, _, _, _], []⟩) rfl rfl) ?_
    refine AwOps.nil (Aw.seq (Aw.region ?_))
    iterate 3 refine AwOps.v hT rfl ?_
    refine AwOps.eff hT rfl ?_
    refine AwOps.turn (Tn.sayH (b := 7) (B := .box ⟨43, [_, _, _, _, _, _, _, _, _, _, _, _, _, _, _, _, _], []⟩) rfl rfl) ?_
    refine AwOps.v hT rfl ?_
    refine AwOps.eff hT rfl ?_
    refine AwOps.turn (Tn.sayH (b := 7) (B := .box ⟨43, [_, _, _, _, _, _, _, _, _, _, _, _, _, _, _, _, _], []⟩) rfl rfl) ?_
    refine AwOps.nil (Aw.seq (Aw.seq (Aw.region ?_)))
    refine AwOps.v hT rfl ?_
    refine AwOps.cl (F10 _ _ (by first | omega | (simp only [w64] at *; omega) | (simp [w64] at *; omega)) (by first | omega | (simp only [w64] at *; omega) | (simp [w64] at *; omega))) [11] rfl ⟨⟨11, rfl, rfl⟩, ⟨rfl, rfl⟩, trivial⟩ ⟨rfl, trivial⟩ rfl ?_   -- certpathmade.Deck).Next
    rintro _ _ ⟨v4, d4, rfl, rfl, hv4, hw4⟩
    refine AwOps.v hT rfl ?_
    refine AwOps.nil ?_
    refine Aw.tst rfl (fun hb28 => ?_) (fun hb28 => ?_)
    · skip
      refine Aw.region ?_
      refine AwOps.cl (F25 _ (by first | omega | (simp only [w64] at *; omega) | (simp [w64] at *; omega))) [] rfl ⟨⟨rfl, rfl⟩, trivial⟩ trivial rfl ?_   -- certpathmade.Authority
      rintro _ _ rfl
      refine AwOps.v hT rfl ?_
      refine AwOps.eff hT rfl ?_
      refine AwOps.turn (Tn.sayH (b := 7) (B := .box ⟨43, [_, _, _, _, _, _, _, _, _, _, _, _, _, _, _, _, _], []⟩) rfl rfl) ?_
      refine AwOps.nil (Aw.region ?_)
      refine AwOps.v hT rfl ?_
      refine AwOps.eff hT rfl ?_
      refine AwOps.turn (Tn.sayH (b := 6) (B := .box ⟨43, [_, _, _, _, _, _, _, _, _, _, _, _, _, _, _, _, _], []⟩) rfl rfl) ?_
      refine AwOps.nil (Aw.seq ?_)
      refine Aw.regionS [] [(true, 0), (true, 1), (true, 3), (true, 4), (false, 2), (false, 5), (true, 6), (true, 7), (true, 8), (true, 9), (true, 11), (true, 12), (false, 10), (false, 13), (true, 14), (true, 15), (true, 16), (true, 17), (true, 18), (false, 19), (true, 20), (true, 21), (true, 22), (false, 23), (true, 24), (true, 25)] (by kernel_rfl) (by kernel_rfl) ?_
      iterate 4 refine AwSch.take (Yd.val hT rfl rfl) ?_
      refine AwSch.one ?_
      refine Ed.cl (F166 { l1 with base := -1 } { l1 with number := l2.number, base := l2.base, issuer := authS 8 } ⟨ho1.1, ho1.2⟩ ⟨okNm_auth 8, ho1.2⟩) [] rfl ⟨⟨rfl, rfl⟩, ⟨rfl, rfl⟩, trivial⟩ trivial rfl rfl ?_   -- scope.Extends
      rintro _ _ rfl
      refine AwSch.one ?_
      refine Ed.cl (F167 { l1 with base := -1 } { l1 with number := l2.number, base := l2.base, issuer := authS 8 } ⟨ho1.1, ho1.2⟩ ⟨okNm_auth 8, ho1.2⟩) [] rfl ⟨⟨rfl, rfl⟩, ⟨rfl, rfl⟩, trivial⟩ trivial rfl rfl ?_   -- certpathref26.Extends
      rintro _ _ rfl
      refine AwSch.take (Yd.val hT rfl rfl) ?_
      refine AwSch.take (Yd.val hT rfl rfl) ?_
      refine AwSch.split (t := 39) rfl (fun hb39 => ?_) (fun hb39 => ?_)
      · skip
        iterate 4 refine AwSch.take (Yd.val hT rfl rfl) ?_
        refine AwSch.one ?_
        refine Ed.cl (F166 { l1 with number := l2.number, base := l2.base, issuer := authS 8 } { l1 with base := -1 } ⟨okNm_auth 8, ho1.2⟩ ⟨ho1.1, ho1.2⟩) [] rfl ⟨⟨rfl, rfl⟩, ⟨rfl, rfl⟩, trivial⟩ trivial rfl rfl ?_   -- scope.Extends
        rintro _ _ rfl
        refine AwSch.one ?_
        refine Ed.cl (F167 { l1 with number := l2.number, base := l2.base, issuer := authS 8 } { l1 with base := -1 } ⟨okNm_auth 8, ho1.2⟩ ⟨ho1.1, ho1.2⟩) [] rfl ⟨⟨rfl, rfl⟩, ⟨rfl, rfl⟩, trivial⟩ trivial rfl rfl ?_   -- certpathref26.Extends
        rintro _ _ rfl
        iterate 3 refine AwSch.take (Yd.val hT rfl rfl) ?_
        refine AwSch.split (t := 48) rfl (fun hb48 => ?_) (fun hb48 => ?_)
        · skip
          refine AwSch.take (Yd.val hT rfl rfl) ?_
          refine AwSch.take (Yd.val hT rfl rfl) ?_
          refine AwSch.one ?_
          refine Ed.cl (F166 { l1 with base := -1 } { l1 with base := -1 } ⟨ho1.1, ho1.2⟩ ⟨ho1.1, ho1.2⟩) [] rfl ⟨⟨rfl, rfl⟩, ⟨rfl, rfl⟩, trivial⟩ trivial rfl rfl ?_   -- scope.Extends
          rintro _ _ rfl
          iterate 3 refine AwSch.take (Yd.val hT rfl rfl) ?_
          refine AwSch.split (t := 54) rfl (fun hb54 => ?_) (fun hb54 => ?_)
          · skip
            refine AwSch.one ?_
            refine Ed.cl (F162) [] rfl trivial trivial rfl rfl ?_   -- certpathlaw27.awake
            rintro _ _ rfl
            refine AwSch.take (Yd.val hT rfl rfl) ?_
            refine AwSch.take (Yd.val hT rfl rfl) ?_
            refine AwSch.nil ?_
            refine Aw.ret ?_
            refine ⟨_, [], rfl, trivial, ?_⟩
            exact rfl
          · skip
            rw [ext_irr] at hb54; simp at hb54
        · skip
          simp at hb48
      · skip
        simp at hb39
    · skip
      refine Aw.skip (Aw.region ?_)
      refine AwOps.v hT rfl ?_
      refine AwOps.eff hT rfl ?_
      refine AwOps.turn (Tn.sayH (b := 6) (B := .box ⟨43, [_, _, _, _, _, _, _, _, _, _, _, _, _, _, _, _, _], []⟩) rfl rfl) ?_
      refine AwOps.nil (Aw.seq ?_)
      refine Aw.regionS [] [(true, 0), (true, 1), (true, 3), (true, 4), (false, 2), (false, 5), (true, 6), (true, 7), (true, 8), (true, 9), (true, 11), (true, 12), (false, 10), (false, 13), (true, 14), (true, 15), (true, 16), (true, 17), (true, 18), (false, 19), (true, 20), (true, 21), (true, 22), (false, 23), (true, 24), (true, 25)] (by kernel_rfl) (by kernel_rfl) ?_
      iterate 4 refine AwSch.take (Yd.val hT rfl rfl) ?_
      refine AwSch.one ?_
      refine Ed.cl (F166 { l1 with base := -1 } { l1 with number := l2.number, base := l2.base } ⟨ho1.1, ho1.2⟩ ⟨ho1.1, ho1.2⟩) [] rfl ⟨⟨rfl, rfl⟩, ⟨rfl, rfl⟩, trivial⟩ trivial rfl rfl ?_   -- scope.Extends
      rintro _ _ rfl
      refine AwSch.one ?_
      refine Ed.cl (F167 { l1 with base := -1 } { l1 with number := l2.number, base := l2.base } ⟨ho1.1, ho1.2⟩ ⟨ho1.1, ho1.2⟩) [] rfl ⟨⟨rfl, rfl⟩, ⟨rfl, rfl⟩, trivial⟩ trivial rfl rfl ?_   -- certpathref26.Extends
      rintro _ _ rfl
      refine AwSch.take (Yd.val hT rfl rfl) ?_
      refine AwSch.take (Yd.val hT rfl rfl) ?_
      refine AwSch.split (t := 39) rfl (fun hb39 => ?_) (fun hb39 => ?_)
      · skip
        iterate 4 refine AwSch.take (Yd.val hT rfl rfl) ?_
        refine AwSch.one ?_
        refine Ed.cl (F166 { l1 with number := l2.number, base := l2.base } { l1 with base := -1 } ⟨ho1.1, ho1.2⟩ ⟨ho1.1, ho1.2⟩) [] rfl ⟨⟨rfl, rfl⟩, ⟨rfl, rfl⟩, trivial⟩ trivial rfl rfl ?_   -- scope.Extends
        rintro _ _ rfl
        refine AwSch.one ?_
        refine Ed.cl (F167 { l1 with number := l2.number, base := l2.base } { l1 with base := -1 } ⟨ho1.1, ho1.2⟩ ⟨ho1.1, ho1.2⟩) [] rfl ⟨⟨rfl, rfl⟩, ⟨rfl, rfl⟩, trivial⟩ trivial rfl rfl ?_   -- certpathref26.Extends
        rintro _ _ rfl
        iterate 3 refine AwSch.take (Yd.val hT rfl rfl) ?_
        refine AwSch.split (t := 48) rfl (fun hb48 => ?_) (fun hb48 => ?_)
        · skip
          refine AwSch.take (Yd.val hT rfl rfl) ?_
          refine AwSch.take (Yd.val hT rfl rfl) ?_
          refine AwSch.one ?_
          refine Ed.cl (F166 { l1 with base := -1 } { l1 with base := -1 } ⟨ho1.1, ho1.2⟩ ⟨ho1.1, ho1.2⟩) [] rfl ⟨⟨rfl, rfl⟩, ⟨rfl, rfl⟩, trivial⟩ trivial rfl rfl ?_   -- scope.Extends
          rintro _ _ rfl
          iterate 3 refine AwSch.take (Yd.val hT rfl rfl) ?_
          refine AwSch.split (t := 54) rfl (fun hb54 => ?_) (fun hb54 => ?_)
          · skip
            refine AwSch.one ?_
            refine Ed.cl (F162) [] rfl trivial trivial rfl rfl ?_   -- certpathlaw27.awake
            rintro _ _ rfl
            refine AwSch.take (Yd.val hT rfl rfl) ?_
            refine AwSch.take (Yd.val hT rfl rfl) ?_
            refine AwSch.nil ?_
            refine Aw.ret ?_
            refine ⟨_, [], rfl, trivial, ?_⟩
            exact rfl
          · skip
            rw [ext_irr] at hb54; simp at hb54
        · skip
          simp at hb48
      · skip
        simp at hb39
  · skip
    refine Aw.skip (Aw.seq ?_)
    refine Aw.regionS [] [(true, 0), (true, 1), (true, 3), (true, 4), (false, 2), (false, 5), (true, 6), (true, 7), (true, 8), (true, 9), (true, 11), (true, 12), (false, 10), (false, 13), (true, 14), (true, 15), (true, 16), (true, 17), (true, 18), (false, 19), (true, 20), (true, 21), (true, 22), (false, 23), (true, 24), (true, 25)] (by kernel_rfl) (by kernel_rfl) ?_
    iterate 4 refine AwSch.take (Yd.val hT rfl rfl) ?_
    refine AwSch.one ?_
    refine Ed.cl (F166 l1 l2 ho1 ho2) [] rfl ⟨⟨rfl, rfl⟩, ⟨rfl, rfl⟩, trivial⟩ trivial rfl rfl ?_   -- scope.Extends
    rintro _ _ rfl
    refine AwSch.one ?_
    refine Ed.cl (F167 l1 l2 ho1 ho2) [] rfl ⟨⟨rfl, rfl⟩, ⟨rfl, rfl⟩, trivial⟩ trivial rfl rfl ?_   -- certpathref26.Extends
    rintro _ _ rfl
    refine AwSch.take (Yd.val hT rfl rfl) ?_
    refine AwSch.take (Yd.val hT rfl rfl) ?_
    refine AwSch.split (t := 39) rfl (fun hb39 => ?_) (fun hb39 => ?_)
    · skip
      iterate 4 refine AwSch.take (Yd.val hT rfl rfl) ?_
      refine AwSch.one ?_
      refine Ed.cl (F166 l2 l1 ho2 ho1) [] rfl ⟨⟨rfl, rfl⟩, ⟨rfl, rfl⟩, trivial⟩ trivial rfl rfl ?_   -- scope.Extends
      rintro _ _ rfl
      refine AwSch.one ?_
      refine Ed.cl (F167 l2 l1 ho2 ho1) [] rfl ⟨⟨rfl, rfl⟩, ⟨rfl, rfl⟩, trivial⟩ trivial rfl rfl ?_   -- certpathref26.Extends
      rintro _ _ rfl
      iterate 3 refine AwSch.take (Yd.val hT rfl rfl) ?_
      refine AwSch.split (t := 48) rfl (fun hb48 => ?_) (fun hb48 => ?_)
      · skip
        refine AwSch.take (Yd.val hT rfl rfl) ?_
        refine AwSch.take (Yd.val hT rfl rfl) ?_
        refine AwSch.one ?_
        refine Ed.cl (F166 l1 l1 ho1 ho1) [] rfl ⟨⟨rfl, rfl⟩, ⟨rfl, rfl⟩, trivial⟩ trivial rfl rfl ?_   -- scope.Extends
        rintro _ _ rfl
        iterate 3 refine AwSch.take (Yd.val hT rfl rfl) ?_
        refine AwSch.split (t := 54) rfl (fun hb54 => ?_) (fun hb54 => ?_)
        · skip
          refine AwSch.one ?_
          refine Ed.cl (F162) [] rfl trivial trivial rfl rfl ?_   -- certpathlaw27.awake
          rintro _ _ rfl
          refine AwSch.take (Yd.val hT rfl rfl) ?_
          refine AwSch.take (Yd.val hT rfl rfl) ?_
          refine AwSch.nil ?_
          refine Aw.ret ?_
          refine ⟨_, [], rfl, trivial, ?_⟩
          exact rfl
        · skip
          rw [ext_irr] at hb54; simp at hb54
      · skip
        simp at hb48
    · skip
      simp at hb39
end Go.Proofs.YtbdgmondalkhlaaDoor.Aw
