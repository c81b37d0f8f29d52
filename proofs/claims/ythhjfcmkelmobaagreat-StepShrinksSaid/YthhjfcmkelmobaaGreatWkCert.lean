
/- The walks of the makers of certificates, queries, states.
   Conditions: none. -/
import Derived.Test.YthhjfcmkelmobaaGreatWkHash
import Derived.Laws.StructEq
import Derived.KernelRfl
namespace Go.Proofs.YthhjfcmkelmobaaGreat.Aw
open Go
set_option maxRecDepth 100000
set_option maxHeartbeats 4000000
set_option linter.unusedSimpArgs false
set_option linter.unusedVariables false

/-- Extensions that are not too long. -/
def okI (i : Info) : Prop := i.policies.length ≤ 1000 ∧ i.mappings.length ≤ 1000 ∧ i.purposes.length ≤ 1000 ∧ i.unknown.length ≤ 1000 ∧ okGs i.names ∧ okSub i.constraints ∧ okPts i.points ∧ okPts i.freshest
/-- The numbers of the extensions are -1 or more. -/
def okE (i : Info) : Prop := -1 ≤ i.requireExplicit ∧ -1 ≤ i.inhibitMapping ∧ -1 ≤ i.inhibitAny
theorem okI_none : okI noneS := ⟨by decide, by decide, by decide, by decide, okGs_nil, ⟨okGs_nil, okGs_nil⟩, okPts_nil, okPts_nil⟩
theorem okGs_take {l : List Gn} (k : Nat) (h : okGs l) : okGs (l.take k) := ⟨by have := h.1; rw [List.length_take]; omega, fun g hg => h.2 g (List.mem_of_mem_take hg)⟩
theorem okGs_two {a b : Gn} (ha : okG a) (hb : okG b) : okGs [a, b] := ⟨by simp, fun g hg => by simp at hg; rcases hg with rfl | rfl <;> assumption⟩
def meq (a b : Mapp) : Bool := seq a.i b.i && seq a.s b.s
def keq (a b : Key) : Bool := (a.h == b.h) && (seq a.id b.id && seq a.root b.root)
def aeq (a b : Attr) : Bool := seq a.t b.t && ((a.k == b.k) && seq a.v b.v)
theorem run_part' {P : Program} {t : TypeId} {d : TypeDesc} (h : P.underlying t = some d) (ha : aggT P t = false) (cs : Array Value) (o : Nat) (v : Value) (hv : cs[o]? = some v) (w : World) : (part t cs o).run P w = .ok v w := by
  simp [part, Sem.run_bind, run_isAgg' h, ha, hv]
theorem run_eqs {P : Program} {d : Nat} {t : TypeId} (h : P.underlying t = some .string) (a b : ByteArray) (w : World) : (Op.equalIn (d + 1) t (.string a) (.string b)).run P w = .ok (seq a b) w := run_equalIn_string w d t a b h
theorem run_eqi {P : Program} {d : Nat} {t : TypeId} (h : P.underlying t = some (.int .i64)) (a b : Int) (w : World) : (Op.equalIn (d + 1) t (.int .i64 a) (.int .i64 b)).run P w = .ok (a == b) w := run_equalIn_int w d t .i64 .i64 a b h
theorem und9 : Tryz.prog.underlying 9 = some .string := by kernel_rfl
theorem und3 : Tryz.prog.underlying 3 = some (.int .i64) := by kernel_rfl
theorem ag9 : aggT Tryz.prog 9 = false := by kernel_rfl
theorem ag3 : aggT Tryz.prog 3 = false := by kernel_rfl
theorem eqg_eMapp : Tryz.prog.eqGuardType Tryz.prog.depth 72 = false := by kernel_rfl
theorem stood_eMapp : Tryz.prog.stoodInHeld 72 = false := by kernel_rfl
theorem und_eMapp : Tryz.prog.underlying 72 = some (.struct #[{ name := "Issuer", type := 9, offset := 0, byteOffset := 0, embedded := false, tag := "", pkgPath := "" }, { name := "Subject", type := 9, offset := 1, byteOffset := 16, embedded := false, tag := "", pkgPath := "" }]) := by kernel_rfl
theorem eqin_eMapp (a b : Mapp) (w : World) : (Op.equalIn (9999 + 1) 72 (.agg #[.string a.i, .string a.s]) (.agg #[.string b.i, .string b.s])).run Tryz.prog w = .ok (meq a b) w := by
  rw [Op.equalIn, Sem.run_bind, run_underlying' und_eMapp]
  simp only [Result.andThen_ok]
  simp [program, Sem.run, Sem.run_bind, stood_eMapp, run_part' und9 ag9 #[.string a.i, .string a.s] 0 _ rfl, run_part' und9 ag9 #[.string a.i, .string a.s] 1 _ rfl, run_part' und9 ag9 #[.string b.i, .string b.s] 0 _ rfl, run_part' und9 ag9 #[.string b.i, .string b.s] 1 _ rfl, run_eqs und9, run_eqi und3]
  unfold meq
  (repeat' split) <;> simp_all
theorem eql_eMapp {x y : Operand} (a b : Mapp) : BinRun Tryz.prog .eql 72 x y (.agg #[.string a.i, .string a.s]) (.agg #[.string b.i, .string b.s]) (.bool ((meq a b))) := fun w => by
  have e1 : ∀ w, (eqGuard .eql 72 x y (.agg #[.string a.i, .string a.s]) (.agg #[.string b.i, .string b.s])).run Tryz.prog w = .ok () w := fun w => by simp [eqGuard, program, Sem.run, Sem.run_bind, eqg_eMapp]
  rw [Sem.run_bind, e1]
  simp only [Result.andThen_ok]
  rw [run_eql_struct]
  rw [eqin_eMapp]
  rfl
theorem neq_eMapp {x y : Operand} (a b : Mapp) : BinRun Tryz.prog .neq 72 x y (.agg #[.string a.i, .string a.s]) (.agg #[.string b.i, .string b.s]) (.bool (!(meq a b))) := fun w => by
  have e1 : ∀ w, (eqGuard .neq 72 x y (.agg #[.string a.i, .string a.s]) (.agg #[.string b.i, .string b.s])).run Tryz.prog w = .ok () w := fun w => by simp [eqGuard, program, Sem.run, Sem.run_bind, eqg_eMapp]
  rw [Sem.run_bind, e1]
  simp only [Result.andThen_ok]
  rw [run_neq_struct]
  rw [eqin_eMapp]
  rfl
theorem eqg_eKey : Tryz.prog.eqGuardType Tryz.prog.depth 29 = false := by kernel_rfl
theorem stood_eKey : Tryz.prog.stoodInHeld 29 = false := by kernel_rfl
theorem und_eKey : Tryz.prog.underlying 29 = some (.struct #[{ name := "Height", type := 3, offset := 0, byteOffset := 0, embedded := false, tag := "", pkgPath := "" }, { name := "ID", type := 9, offset := 1, byteOffset := 8, embedded := false, tag := "", pkgPath := "" }, { name := "Root", type := 9, offset := 2, byteOffset := 24, embedded := false, tag := "", pkgPath := "" }]) := by kernel_rfl
theorem eqin_eKey (a b : Key) (w : World) : (Op.equalIn (9999 + 1) 29 (.agg #[.int .i64 a.h, .string a.id, .string a.root]) (.agg #[.int .i64 b.h, .string b.id, .string b.root])).run Tryz.prog w = .ok (keq a b) w := by
  rw [Op.equalIn, Sem.run_bind, run_underlying' und_eKey]
  simp only [Result.andThen_ok]
  simp [program, Sem.run, Sem.run_bind, stood_eKey, run_part' und3 ag3 #[.int .i64 a.h, .string a.id, .string a.root] 0 _ rfl, run_part' und9 ag9 #[.int .i64 a.h, .string a.id, .string a.root] 1 _ rfl, run_part' und9 ag9 #[.int .i64 a.h, .string a.id, .string a.root] 2 _ rfl, run_part' und3 ag3 #[.int .i64 b.h, .string b.id, .string b.root] 0 _ rfl, run_part' und9 ag9 #[.int .i64 b.h, .string b.id, .string b.root] 1 _ rfl, run_part' und9 ag9 #[.int .i64 b.h, .string b.id, .string b.root] 2 _ rfl, run_eqs und9, run_eqi und3]
  unfold keq
  (repeat' split) <;> simp_all
theorem eql_eKey {x y : Operand} (a b : Key) : BinRun Tryz.prog .eql 29 x y (.agg #[.int .i64 a.h, .string a.id, .string a.root]) (.agg #[.int .i64 b.h, .string b.id, .string b.root]) (.bool ((keq a b))) := fun w => by
  have e1 : ∀ w, (eqGuard .eql 29 x y (.agg #[.int .i64 a.h, .string a.id, .string a.root]) (.agg #[.int .i64 b.h, .string b.id, .string b.root])).run Tryz.prog w = .ok () w := fun w => by simp [eqGuard, program, Sem.run, Sem.run_bind, eqg_eKey]
  rw [Sem.run_bind, e1]
  simp only [Result.andThen_ok]
  rw [run_eql_struct]
  rw [eqin_eKey]
  rfl
theorem neq_eKey {x y : Operand} (a b : Key) : BinRun Tryz.prog .neq 29 x y (.agg #[.int .i64 a.h, .string a.id, .string a.root]) (.agg #[.int .i64 b.h, .string b.id, .string b.root]) (.bool (!(keq a b))) := fun w => by
  have e1 : ∀ w, (eqGuard .neq 29 x y (.agg #[.int .i64 a.h, .string a.id, .string a.root]) (.agg #[.int .i64 b.h, .string b.id, .string b.root])).run Tryz.prog w = .ok () w := fun w => by simp [eqGuard, program, Sem.run, Sem.run_bind, eqg_eKey]
  rw [Sem.run_bind, e1]
  simp only [Result.andThen_ok]
  rw [run_neq_struct]
  rw [eqin_eKey]
  rfl
theorem eqg_eAttr : Tryz.prog.eqGuardType Tryz.prog.depth 95 = false := by kernel_rfl
theorem stood_eAttr : Tryz.prog.stoodInHeld 95 = false := by kernel_rfl
theorem und_eAttr : Tryz.prog.underlying 95 = some (.struct #[{ name := "Type", type := 9, offset := 0, byteOffset := 0, embedded := false, tag := "", pkgPath := "" }, { name := "Kind", type := 3, offset := 1, byteOffset := 16, embedded := false, tag := "", pkgPath := "" }, { name := "Value", type := 9, offset := 2, byteOffset := 24, embedded := false, tag := "", pkgPath := "" }]) := by kernel_rfl
theorem eqin_eAttr (a b : Attr) (w : World) : (Op.equalIn (9999 + 1) 95 (.agg #[.string a.t, .int .i64 a.k, .string a.v]) (.agg #[.string b.t, .int .i64 b.k, .string b.v])).run Tryz.prog w = .ok (aeq a b) w := by
  rw [Op.equalIn, Sem.run_bind, run_underlying' und_eAttr]
  simp only [Result.andThen_ok]
  simp [program, Sem.run, Sem.run_bind, stood_eAttr, run_part' und9 ag9 #[.string a.t, .int .i64 a.k, .string a.v] 0 _ rfl, run_part' und3 ag3 #[.string a.t, .int .i64 a.k, .string a.v] 1 _ rfl, run_part' und9 ag9 #[.string a.t, .int .i64 a.k, .string a.v] 2 _ rfl, run_part' und9 ag9 #[.string b.t, .int .i64 b.k, .string b.v] 0 _ rfl, run_part' und3 ag3 #[.string b.t, .int .i64 b.k, .string b.v] 1 _ rfl, run_part' und9 ag9 #[.string b.t, .int .i64 b.k, .string b.v] 2 _ rfl, run_eqs und9, run_eqi und3]
  unfold aeq
  (repeat' split) <;> simp_all
theorem eql_eAttr {x y : Operand} (a b : Attr) : BinRun Tryz.prog .eql 95 x y (.agg #[.string a.t, .int .i64 a.k, .string a.v]) (.agg #[.string b.t, .int .i64 b.k, .string b.v]) (.bool ((aeq a b))) := fun w => by
  have e1 : ∀ w, (eqGuard .eql 95 x y (.agg #[.string a.t, .int .i64 a.k, .string a.v]) (.agg #[.string b.t, .int .i64 b.k, .string b.v])).run Tryz.prog w = .ok () w := fun w => by simp [eqGuard, program, Sem.run, Sem.run_bind, eqg_eAttr]
  rw [Sem.run_bind, e1]
  simp only [Result.andThen_ok]
  rw [run_eql_struct]
  rw [eqin_eAttr]
  rfl
theorem neq_eAttr {x y : Operand} (a b : Attr) : BinRun Tryz.prog .neq 95 x y (.agg #[.string a.t, .int .i64 a.k, .string a.v]) (.agg #[.string b.t, .int .i64 b.k, .string b.v]) (.bool (!(aeq a b))) := fun w => by
  have e1 : ∀ w, (eqGuard .neq 95 x y (.agg #[.string a.t, .int .i64 a.k, .string a.v]) (.agg #[.string b.t, .int .i64 b.k, .string b.v])).run Tryz.prog w = .ok () w := fun w => by simp [eqGuard, program, Sem.run, Sem.run_bind, eqg_eAttr]
  rw [Sem.run_bind, e1]
  simp only [Result.andThen_ok]
  rw [run_neq_struct]
  rw [eqin_eAttr]
  rfl
-- f46 certpath/certpathmade2.extend
theorem F46 (d : Dk) (c : Cert) (hok : okI c.info) : Fn Tryz.prog 20 [.ptr 0 0, .ptr 1 10] [(59, eDk d), (46, eCert c)] (fun r H' => ∃ (d' : Dk) (c' : Cert), r = .tup [] ∧ H' = [eDk d', eCert c'] ∧ okI c'.info ∧ c'.issuer = c.issuer ∧ c'.subject = c.subject ∧ (okE c.info → okE c'.info)) := by
  refine Fn.intro (rs := []) hT Tryz.func20 (by kernel_rfl) rfl rfl rfl rfl fun C => ?_
  obtain ⟨y0, y1, y2, y3, y4, y5, y6, ⟨y7, y8, y9⟩, ⟨y10, y11, y12, y13, y14, y15, y16, y17, y18, y19, y20, y21, ⟨y22, y23⟩, y24, y25, y26, y27, y28⟩, y29⟩ := c
  refine Aw.turn (Tn.sayH (b := 1001) (B := .box ⟨46, [.v (.string y0), .v (.string y1), .v (.int .i64 y2), .sl (List.map eRdn y3), .sl (List.map eRdn y4), .v (.int .i64 y5), .v (.int .i64 y6), .v (.int .i64 y7), .v (.string y8), .v (.string y9), .v (.bool y10), .v (.bool y11), .v (.int .i64 y12), .v (.int .i64 y13), .sl (List.map eStr y14), .sl (List.map eStr y15), .sl (List.map eMapp y16), .v (.int .i64 y17), .v (.int .i64 y18), .v (.int .i64 y19), .sl (List.map eGn y20), .v (.bool y21), .sl (List.map eGn y22), .sl (List.map eGn y23), .v (.string y24), .v (.string y25), .sl (List.map ePoint y26), .sl (List.map ePoint y27), .sl (List.map eExt y28), .v (.string y29)], []⟩) rfl rfl) ?_
  repeat (first | refine AwOps.nil ?_ | refine AwSch.nil ?_ | refine Aw.seq ?_ | refine Aw.region ?_ | refine Aw.block ?_ | refine Aw.skip ?_ | refine Aw.exit ?_ | refine Aw.condT rfl ?_ | refine Aw.condF rfl ?_)
  refine AwOps.v hT rfl ?_
  refine AwOps.cl (F10 _ _ (by first | omega | (simp only [w64] at *; omega) | (simp [w64] at *; omega)) (by first | omega | (simp only [w64] at *; omega) | (simp [w64] at *; omega))) [1000] rfl ⟨⟨1000, rfl, rfl⟩, ⟨rfl, rfl⟩, trivial⟩ ⟨rfl, trivial⟩ rfl ?_   -- certpathmade.Deck).Next
  rintro _ _ ⟨v1, d1, rfl, rfl, hv1, hw1⟩
  repeat (first | refine AwOps.nil ?_ | refine AwSch.nil ?_ | refine Aw.seq ?_ | refine Aw.region ?_ | refine Aw.block ?_ | refine Aw.skip ?_ | refine Aw.exit ?_ | refine Aw.condT rfl ?_ | refine Aw.condF rfl ?_)
  refine AwOps.v hT rfl ?_
  refine AwOps.v hT rfl ?_
  repeat (first | refine AwOps.nil ?_ | refine AwSch.nil ?_ | refine Aw.seq ?_ | refine Aw.region ?_ | refine Aw.block ?_ | refine Aw.skip ?_ | refine Aw.exit ?_ | refine Aw.condT rfl ?_ | refine Aw.condF rfl ?_)
  refine Aw.tst rfl (fun hb33 => ?_) (fun hb33 => ?_)
  · skip
    repeat (first | refine AwOps.nil ?_ | refine AwSch.nil ?_ | refine Aw.seq ?_ | refine Aw.region ?_ | refine Aw.block ?_ | refine Aw.skip ?_ | refine Aw.exit ?_ | refine Aw.condT rfl ?_ | refine Aw.condF rfl ?_)
    refine AwOps.v hT rfl ?_
    refine AwOps.v hT rfl ?_
    refine AwOps.cl (F36 _ _ (by first | omega | (simp only [w64] at *; omega) | (simp [w64] at *; omega)) (by first | omega | (simp only [w64] at *; omega) | (simp [w64] at *; omega))) [1000] rfl ⟨⟨1000, rfl, rfl⟩, ⟨rfl, rfl⟩, trivial⟩ ⟨rfl, trivial⟩ rfl ?_   -- certpathmade2.Policies
    rintro _ _ ⟨l2, d2, rfl, rfl, hl2⟩
    refine AwOps.cl (F35 _ (by first | omega | (simp only [w64] at *; omega) | (simp [w64] at *; omega))) [] rfl ⟨⟨rfl, rfl⟩, trivial⟩ trivial rfl ?_   -- certpathmade2.once
    rintro _ _ ⟨l3, rfl, hl3⟩
    refine AwOps.v hT rfl ?_
    refine AwOps.v hT rfl ?_
    refine AwOps.eff hT rfl ?_
    repeat (first | refine AwOps.nil ?_ | refine AwSch.nil ?_ | refine Aw.seq ?_ | refine Aw.region ?_ | refine Aw.block ?_ | refine Aw.skip ?_ | refine Aw.exit ?_ | refine Aw.condT rfl ?_ | refine Aw.condF rfl ?_)
    refine ⟨_, [_, _], rfl, ⟨rfl, rfl, trivial⟩, ?_⟩
    obtain ⟨o1, o2, o3, o4, o5, o6, o7, o8⟩ := hok
    dsimp only at o1 o2 o3 o4 o5 o6 o7 o8
    refine ⟨_, ⟨_, _, _, _, _, _, _, ⟨_, _, _⟩, ⟨_, _, _, _, _, _, _, _, _, _, _, _, ⟨_, _⟩, _, _, _, _, _⟩, _⟩, rfl, rfl, ⟨?_, ?_, ?_, ?_, ?_, ?_, ?_, ?_⟩, rfl, rfl, fun he => ?_⟩
    all_goals dsimp only
    all_goals (first | (obtain ⟨e1, e2, e3⟩ := he; dsimp only at e1 e2 e3; exact ⟨by dsimp only; omega, by dsimp only; omega, by dsimp only; omega⟩) | assumption | exact (by assumption : _ ∧ _).1 | exact okGs_take _ (okGs_two (by assumption) (by assumption)) | (simp; done) | omega | (simp only [List.length_append, List.length_cons, List.length_nil]; omega))
  · skip
    repeat (first | refine AwOps.nil ?_ | refine AwSch.nil ?_ | refine Aw.seq ?_ | refine Aw.region ?_ | refine Aw.block ?_ | refine Aw.skip ?_ | refine Aw.exit ?_ | refine Aw.condT rfl ?_ | refine Aw.condF rfl ?_)
    refine AwOps.v hT rfl ?_
    refine AwOps.v hT rfl ?_
    repeat (first | refine AwOps.nil ?_ | refine AwSch.nil ?_ | refine Aw.seq ?_ | refine Aw.region ?_ | refine Aw.block ?_ | refine Aw.skip ?_ | refine Aw.exit ?_ | refine Aw.condT rfl ?_ | refine Aw.condF rfl ?_)
    refine Aw.tst rfl (fun hb33 => ?_) (fun hb33 => ?_)
    · skip
      repeat (first | refine AwOps.nil ?_ | refine AwSch.nil ?_ | refine Aw.seq ?_ | refine Aw.region ?_ | refine Aw.block ?_ | refine Aw.skip ?_ | refine Aw.exit ?_ | refine Aw.condT rfl ?_ | refine Aw.condF rfl ?_)
      refine AwOps.v hT rfl ?_
      refine AwOps.v hT rfl ?_
      refine AwOps.cl (F36 _ _ (by first | omega | (simp only [w64] at *; omega) | (simp [w64] at *; omega)) (by first | omega | (simp only [w64] at *; omega) | (simp [w64] at *; omega))) [1000] rfl ⟨⟨1000, rfl, rfl⟩, ⟨rfl, rfl⟩, trivial⟩ ⟨rfl, trivial⟩ rfl ?_   -- certpathmade2.Policies
      rintro _ _ ⟨l4, d4, rfl, rfl, hl4⟩
      refine AwOps.cl (F35 _ (by first | omega | (simp only [w64] at *; omega) | (simp [w64] at *; omega))) [] rfl ⟨⟨rfl, rfl⟩, trivial⟩ trivial rfl ?_   -- certpathmade2.once
      rintro _ _ ⟨l5, rfl, hl5⟩
      refine AwOps.v hT rfl ?_
      refine AwOps.v hT rfl ?_
      refine AwOps.eff hT rfl ?_
      repeat (first | refine AwOps.nil ?_ | refine AwSch.nil ?_ | refine Aw.seq ?_ | refine Aw.region ?_ | refine Aw.block ?_ | refine Aw.skip ?_ | refine Aw.exit ?_ | refine Aw.condT rfl ?_ | refine Aw.condF rfl ?_)
      refine ⟨_, [_, _], rfl, ⟨rfl, rfl, trivial⟩, ?_⟩
      obtain ⟨o1, o2, o3, o4, o5, o6, o7, o8⟩ := hok
      dsimp only at o1 o2 o3 o4 o5 o6 o7 o8
      refine ⟨_, ⟨_, _, _, _, _, _, _, ⟨_, _, _⟩, ⟨_, _, _, _, _, _, _, _, _, _, _, _, ⟨_, _⟩, _, _, _, _, _⟩, _⟩, rfl, rfl, ⟨?_, ?_, ?_, ?_, ?_, ?_, ?_, ?_⟩, rfl, rfl, fun he => ?_⟩
      all_goals dsimp only
      all_goals (first | (obtain ⟨e1, e2, e3⟩ := he; dsimp only at e1 e2 e3; exact ⟨by dsimp only; omega, by dsimp only; omega, by dsimp only; omega⟩) | assumption | exact (by assumption : _ ∧ _).1 | exact okGs_take _ (okGs_two (by assumption) (by assumption)) | (simp; done) | omega | (simp only [List.length_append, List.length_cons, List.length_nil]; omega))
    · skip
      repeat (first | refine AwOps.nil ?_ | refine AwSch.nil ?_ | refine Aw.seq ?_ | refine Aw.region ?_ | refine Aw.block ?_ | refine Aw.skip ?_ | refine Aw.exit ?_ | refine Aw.condT rfl ?_ | refine Aw.condF rfl ?_)
      refine AwOps.v hT rfl ?_
      refine AwOps.v hT rfl ?_
      repeat (first | refine AwOps.nil ?_ | refine AwSch.nil ?_ | refine Aw.seq ?_ | refine Aw.region ?_ | refine Aw.block ?_ | refine Aw.skip ?_ | refine Aw.exit ?_ | refine Aw.condT rfl ?_ | refine Aw.condF rfl ?_)
      refine Aw.tst rfl (fun hb33 => ?_) (fun hb33 => ?_)
      · skip
        repeat (first | refine AwOps.nil ?_ | refine AwSch.nil ?_ | refine Aw.seq ?_ | refine Aw.region ?_ | refine Aw.block ?_ | refine Aw.skip ?_ | refine Aw.exit ?_ | refine Aw.condT rfl ?_ | refine Aw.condF rfl ?_)
        refine AwOps.v hT rfl ?_
        refine AwOps.v hT rfl ?_
        refine AwOps.cl (F36 _ _ (by first | omega | (simp only [w64] at *; omega) | (simp [w64] at *; omega)) (by first | omega | (simp only [w64] at *; omega) | (simp [w64] at *; omega))) [1000] rfl ⟨⟨1000, rfl, rfl⟩, ⟨rfl, rfl⟩, trivial⟩ ⟨rfl, trivial⟩ rfl ?_   -- certpathmade2.Policies
        rintro _ _ ⟨l6, d6, rfl, rfl, hl6⟩
        refine AwOps.cl (F35 _ (by first | omega | (simp only [w64] at *; omega) | (simp [w64] at *; omega))) [] rfl ⟨⟨rfl, rfl⟩, trivial⟩ trivial rfl ?_   -- certpathmade2.once
        rintro _ _ ⟨l7, rfl, hl7⟩
        refine AwOps.v hT rfl ?_
        refine AwOps.v hT rfl ?_
        refine AwOps.eff hT rfl ?_
        repeat (first | refine AwOps.nil ?_ | refine AwSch.nil ?_ | refine Aw.seq ?_ | refine Aw.region ?_ | refine Aw.block ?_ | refine Aw.skip ?_ | refine Aw.exit ?_ | refine Aw.condT rfl ?_ | refine Aw.condF rfl ?_)
        refine ⟨_, [_, _], rfl, ⟨rfl, rfl, trivial⟩, ?_⟩
        obtain ⟨o1, o2, o3, o4, o5, o6, o7, o8⟩ := hok
        dsimp only at o1 o2 o3 o4 o5 o6 o7 o8
        refine ⟨_, ⟨_, _, _, _, _, _, _, ⟨_, _, _⟩, ⟨_, _, _, _, _, _, _, _, _, _, _, _, ⟨_, _⟩, _, _, _, _, _⟩, _⟩, rfl, rfl, ⟨?_, ?_, ?_, ?_, ?_, ?_, ?_, ?_⟩, rfl, rfl, fun he => ?_⟩
        all_goals dsimp only
        all_goals (first | (obtain ⟨e1, e2, e3⟩ := he; dsimp only at e1 e2 e3; exact ⟨by dsimp only; omega, by dsimp only; omega, by dsimp only; omega⟩) | assumption | exact (by assumption : _ ∧ _).1 | exact okGs_take _ (okGs_two (by assumption) (by assumption)) | (simp; done) | omega | (simp only [List.length_append, List.length_cons, List.length_nil]; omega))
      · skip
        repeat (first | refine AwOps.nil ?_ | refine AwSch.nil ?_ | refine Aw.seq ?_ | refine Aw.region ?_ | refine Aw.block ?_ | refine Aw.skip ?_ | refine Aw.exit ?_ | refine Aw.condT rfl ?_ | refine Aw.condF rfl ?_)
        refine AwOps.v hT rfl ?_
        refine AwOps.v hT rfl ?_
        repeat (first | refine AwOps.nil ?_ | refine AwSch.nil ?_ | refine Aw.seq ?_ | refine Aw.region ?_ | refine Aw.block ?_ | refine Aw.skip ?_ | refine Aw.exit ?_ | refine Aw.condT rfl ?_ | refine Aw.condF rfl ?_)
        refine Aw.tst rfl (fun hb43 => ?_) (fun hb43 => ?_)
        · skip
          repeat (first | refine AwOps.nil ?_ | refine AwSch.nil ?_ | refine Aw.seq ?_ | refine Aw.region ?_ | refine Aw.block ?_ | refine Aw.skip ?_ | refine Aw.exit ?_ | refine Aw.condT rfl ?_ | refine Aw.condF rfl ?_)
          iterate 3 refine AwOps.v hT rfl ?_
          refine AwOps.eff hT rfl ?_
          repeat (first | refine AwOps.nil ?_ | refine AwSch.nil ?_ | refine Aw.seq ?_ | refine Aw.region ?_ | refine Aw.block ?_ | refine Aw.skip ?_ | refine Aw.exit ?_ | refine Aw.condT rfl ?_ | refine Aw.condF rfl ?_)
          refine AwOps.v hT rfl ?_
          refine AwOps.cl (F70 _ _ (by first | omega | (simp only [w64] at *; omega) | (simp [w64] at *; omega)) (by first | omega | (simp only [w64] at *; omega) | (simp [w64] at *; omega))) [1000] rfl ⟨⟨1000, rfl, rfl⟩, ⟨rfl, rfl⟩, trivial⟩ ⟨rfl, trivial⟩ rfl ?_   -- certpathmade2.Mappings
          rintro _ _ ⟨lm, dm, rfl, rfl, hlm⟩
          refine AwOps.v hT rfl ?_
          refine AwOps.v hT rfl ?_
          repeat (first | refine AwOps.nil ?_ | refine AwSch.nil ?_ | refine Aw.seq ?_ | refine Aw.region ?_ | refine Aw.block ?_ | refine Aw.skip ?_ | refine Aw.exit ?_ | refine Aw.condT rfl ?_ | refine Aw.condF rfl ?_)
          refine Aw.bnd 50 rfl fun hB1 => ?_
          replace hB1 : lm.length ≤ maxLen := by simpa using hB1
          repeat (first | refine AwOps.nil ?_ | refine AwSch.nil ?_ | refine Aw.seq ?_ | refine Aw.region ?_ | refine Aw.block ?_ | refine Aw.skip ?_ | refine Aw.exit ?_ | refine Aw.condT rfl ?_ | refine Aw.condF rfl ?_)
          refine Aw.turn (Tn.ownC 1001 16 926 72 2 rfl rfl (by decide) (by decide) rfl rfl) ?_
          refine Aw.lp (ι := Nat × List (Mapp)) (n := 173) [(1, _), (50, _), (51, _)] [(1000, _)] (fun gq => [(52, sc (.int .i64 gq.1))]) (fun gq => [(926, .row 72 2 true (List.map eMapp gq.2)), (1001, .box ⟨46, [.v (.string y0), .v (.string y1), .v (.int .i64 y2), .sl (List.map eRdn y3), .sl (List.map eRdn y4), .v (.int .i64 y5), .v (.int .i64 y6), .v (.int .i64 y7), .v (.string y8), .v (.string y9), .v (.bool y10), .v (.bool y11), .v (.int .i64 y12), .v (.int .i64 y13), .sl (List.map eStr y14), .sl (List.map eStr y15), .sl [], .v (.int .i64 y17), .v (.int .i64 y18), .v (.int .i64 y19), .sl (List.map eGn y20), .v (.bool y21), .sl (List.map eGn y22), .sl (List.map eGn y23), .v (.string y24), .v (.string y25), .sl (List.map ePoint y26), .sl (List.map ePoint y27), .sl (List.map eExt y28), .v (.string y29)], [(16, .own 926 gq.2.length)]⟩)]) (fun gq => gq.1 ≤ lm.length ∧ (gq.2.length ≤ gq.1)) (fun gq => lm.length - gq.1) (0, []) ?ok1 (Less.tn ⟨rfl, ⟨rfl, rfl, rfl, rfl, trivial⟩, ⟨rfl, rfl, rfl, trivial⟩⟩) ?bd1
          case ok1 =>
            try dsimp only
            exact ⟨Nat.zero_le _, Nat.le_refl _⟩
          case bd1 =>
            rintro ⟨i1, l926⟩ hi1
            try dsimp only at hi1
            show Aw _ _ _ ⟨173, [(52, sc (.int .i64 i1))] ++ [(1, _), (50, _), (51, _)], [(926, .row 72 2 true (List.map eMapp l926)), (1001, .box ⟨46, [.v (.string y0), .v (.string y1), .v (.int .i64 y2), .sl (List.map eRdn y3), .sl (List.map eRdn y4), .v (.int .i64 y5), .v (.int .i64 y6), .v (.int .i64 y7), .v (.string y8), .v (.string y9), .v (.bool y10), .v (.bool y11), .v (.int .i64 y12), .v (.int .i64 y13), .sl (List.map eStr y14), .sl (List.map eStr y15), .sl [], .v (.int .i64 y17), .v (.int .i64 y18), .v (.int .i64 y19), .sl (List.map eGn y20), .v (.bool y21), .sl (List.map eGn y22), .sl (List.map eGn y23), .v (.string y24), .v (.string y25), .sl (List.map ePoint y26), .sl (List.map ePoint y27), .sl (List.map eExt y28), .v (.string y29)], [(16, .own 926 l926.length)]⟩)] ++ [(1000, _)]⟩ _
            have hl4 : lm.length ≤ 1000 := by omega
            repeat (first | refine AwOps.nil ?_ | refine AwSch.nil ?_ | refine Aw.seq ?_ | refine Aw.region ?_ | refine Aw.block ?_ | refine Aw.skip ?_ | refine Aw.exit ?_ | refine Aw.condT rfl ?_ | refine Aw.condF rfl ?_)
            refine AwOps.v hT rfl ?_
            repeat (first | refine AwOps.nil ?_ | refine AwSch.nil ?_ | refine Aw.seq ?_ | refine Aw.region ?_ | refine Aw.block ?_ | refine Aw.skip ?_ | refine Aw.exit ?_ | refine Aw.condT rfl ?_ | refine Aw.condF rfl ?_)
            refine Aw.tst rfl (fun hb53 => ?_) (fun hb53 => ?_)
            · skip
              have hlt1 : i1 < lm.length := by simpa using hb53
              repeat (first | refine AwOps.nil ?_ | refine AwSch.nil ?_ | refine Aw.seq ?_ | refine Aw.region ?_ | refine Aw.block ?_ | refine Aw.skip ?_ | refine Aw.exit ?_ | refine Aw.condT rfl ?_ | refine Aw.condF rfl ?_)
              refine AwOps.im hT rfl hlt1 rfl ?_
              refine AwOps.v hT rfl ?_
              refine AwOps.eff hT rfl ?_
              refine AwOps.eff hT rfl ?_
              repeat (first | refine AwOps.nil ?_ | refine AwSch.nil ?_ | refine Aw.seq ?_ | refine Aw.region ?_ | refine Aw.block ?_ | refine Aw.skip ?_ | refine Aw.exit ?_ | refine Aw.condT rfl ?_ | refine Aw.condF rfl ?_)
              refine AwOps.v hT rfl ?_
              repeat (first | refine AwOps.nil ?_ | refine AwSch.nil ?_ | refine Aw.seq ?_ | refine Aw.region ?_ | refine Aw.block ?_ | refine Aw.skip ?_ | refine Aw.exit ?_ | refine Aw.condT rfl ?_ | refine Aw.condF rfl ?_)
              iterate 6 refine AwOps.v hT rfl ?_
              repeat (first | refine AwOps.nil ?_ | refine AwSch.nil ?_ | refine Aw.seq ?_ | refine Aw.region ?_ | refine Aw.block ?_ | refine Aw.skip ?_ | refine Aw.exit ?_ | refine Aw.condT rfl ?_ | refine Aw.condF rfl ?_)
              refine Aw.lp (ι := Bool × Nat) (n := 173) [(1, _), (5, _), (50, _), (51, _), (52, _), (59, _), (60, _)] [(5, _), (926, _), (1000, _), (1001, _)] (fun gq => [(6, sc (.bool gq.1)), (61, sc (.int .i64 gq.2))]) (fun gq => []) (fun gq => gq.2 ≤ l926.length ∧ (True)) (fun gq => l926.length - gq.2) (_, 0) ?ok2 (Less.tn ⟨rfl, ⟨rfl, rfl, rfl, rfl, rfl, rfl, rfl, rfl, rfl, trivial⟩, ⟨rfl, rfl, rfl, rfl, trivial⟩⟩) ?bd2
              case ok2 =>
                try dsimp only
                first | trivial | exact ⟨Nat.zero_le _, trivial⟩ | (simp; done) | (refine ⟨by simp, ?_⟩; (first | trivial | (simp; done))) | (simp; first | omega | (simp only [w64] at *; omega) | (simp [w64] at *; omega))
              case bd2 =>
                rintro ⟨b6, i2⟩ hi2
                try dsimp only at hi2
                show Aw _ _ _ ⟨173, [(6, sc (.bool b6)), (61, sc (.int .i64 i2))] ++ [(1, _), (5, _), (50, _), (51, _), (52, _), (59, _), (60, _)], [] ++ [(5, _), (926, _), (1000, _), (1001, _)]⟩ _
                have hB2 : l926.length ≤ maxLen := by unfold maxLen; omega
                repeat (first | refine AwOps.nil ?_ | refine AwSch.nil ?_ | refine Aw.seq ?_ | refine Aw.region ?_ | refine Aw.block ?_ | refine Aw.skip ?_ | refine Aw.exit ?_ | refine Aw.condT rfl ?_ | refine Aw.condF rfl ?_)
                refine AwOps.v hT rfl ?_
                repeat (first | refine AwOps.nil ?_ | refine AwSch.nil ?_ | refine Aw.seq ?_ | refine Aw.region ?_ | refine Aw.block ?_ | refine Aw.skip ?_ | refine Aw.exit ?_ | refine Aw.condT rfl ?_ | refine Aw.condF rfl ?_)
                refine Aw.tst rfl (fun hb62 => ?_) (fun hb62 => ?_)
                · skip
                  have hlt2 : i2 < l926.length := by simpa using hb62
                  repeat (first | refine AwOps.nil ?_ | refine AwSch.nil ?_ | refine Aw.seq ?_ | refine Aw.region ?_ | refine Aw.block ?_ | refine Aw.skip ?_ | refine Aw.exit ?_ | refine Aw.condT rfl ?_ | refine Aw.condF rfl ?_)
                  refine AwOps.idxo hT rfl rfl (by omega) hlt2 ?_
                  refine AwOps.ldo hT rfl rfl (eMapp l926[i2]) (by simp [hlt2]) rfl ?_
                  refine AwOps.eff hT rfl ?_
                  refine AwOps.eff hT rfl ?_
                  repeat (first | refine AwOps.nil ?_ | refine AwSch.nil ?_ | refine Aw.seq ?_ | refine Aw.region ?_ | refine Aw.block ?_ | refine Aw.skip ?_ | refine Aw.exit ?_ | refine Aw.condT rfl ?_ | refine Aw.condF rfl ?_)
                  refine AwOps.v hT rfl ?_
                  refine AwOps.v hT rfl ?_
                  refine AwOps.split (t := 66) rfl (fun hb66 => ?_) (fun hb66 => ?_)
                  · skip
                    iterate 5 refine AwOps.v hT rfl ?_
                    repeat (first | refine AwOps.nil ?_ | refine AwSch.nil ?_ | refine Aw.seq ?_ | refine Aw.region ?_ | refine Aw.block ?_ | refine Aw.skip ?_ | refine Aw.exit ?_ | refine Aw.condT rfl ?_ | refine Aw.condF rfl ?_)
                    refine AwOps.v hT rfl ?_
                    refine AwOps.v hT rfl ?_
                    repeat (first | refine AwOps.nil ?_ | refine AwSch.nil ?_ | refine Aw.seq ?_ | refine Aw.region ?_ | refine Aw.block ?_ | refine Aw.skip ?_ | refine Aw.exit ?_ | refine Aw.condT rfl ?_ | refine Aw.condF rfl ?_)
                    refine ⟨(_, i2 + 1), ?nx2, ?mu2, Less.tn ⟨rfl, ⟨rfl, incS hlt2 hB2, rfl, rfl, rfl, rfl, rfl, rfl, rfl, trivial⟩, ⟨rfl, rfl, rfl, rfl, trivial⟩⟩⟩
                    case nx2 =>
                      try dsimp only
                      first | exact ⟨hlt2, trivial⟩ | trivial
                    case mu2 =>
                      try dsimp only
                      first | omega | (simp only [w64] at *; omega) | (simp [w64] at *; omega)
                  · skip
                    refine AwOps.v hT rfl ?_
                    refine AwOps.v hT rfl ?_
                    refine AwOps.bin rfl _ rfl (eql_eMapp _ _) ?_
                    refine AwOps.v hT rfl ?_
                    refine AwOps.v hT rfl ?_
                    repeat (first | refine AwOps.nil ?_ | refine AwSch.nil ?_ | refine Aw.seq ?_ | refine Aw.region ?_ | refine Aw.block ?_ | refine Aw.skip ?_ | refine Aw.exit ?_ | refine Aw.condT rfl ?_ | refine Aw.condF rfl ?_)
                    refine AwOps.v hT rfl ?_
                    refine AwOps.v hT rfl ?_
                    repeat (first | refine AwOps.nil ?_ | refine AwSch.nil ?_ | refine Aw.seq ?_ | refine Aw.region ?_ | refine Aw.block ?_ | refine Aw.skip ?_ | refine Aw.exit ?_ | refine Aw.condT rfl ?_ | refine Aw.condF rfl ?_)
                    refine ⟨(_, i2 + 1), ?nx2, ?mu2, Less.tn ⟨rfl, ⟨rfl, incS hlt2 hB2, rfl, rfl, rfl, rfl, rfl, rfl, rfl, trivial⟩, ⟨rfl, rfl, rfl, rfl, trivial⟩⟩⟩
                    case nx2 =>
                      try dsimp only
                      first | exact ⟨hlt2, trivial⟩ | trivial
                    case mu2 =>
                      try dsimp only
                      first | omega | (simp only [w64] at *; omega) | (simp [w64] at *; omega)
                · skip
                  repeat (first | refine AwOps.nil ?_ | refine AwSch.nil ?_ | refine Aw.seq ?_ | refine Aw.region ?_ | refine Aw.block ?_ | refine Aw.skip ?_ | refine Aw.exit ?_ | refine Aw.condT rfl ?_ | refine Aw.condF rfl ?_)
                  refine AwOps.v hT rfl ?_
                  refine AwOps.v hT rfl ?_
                  repeat (first | refine AwOps.nil ?_ | refine AwSch.nil ?_ | refine Aw.seq ?_ | refine Aw.region ?_ | refine Aw.block ?_ | refine Aw.skip ?_ | refine Aw.exit ?_ | refine Aw.condT rfl ?_ | refine Aw.condF rfl ?_)
                  refine Aw.tst rfl (fun hb73 => ?_) (fun hb73 => ?_)
                  · skip
                    repeat (first | refine AwOps.nil ?_ | refine AwSch.nil ?_ | refine Aw.seq ?_ | refine Aw.region ?_ | refine Aw.block ?_ | refine Aw.skip ?_ | refine Aw.exit ?_ | refine Aw.condT rfl ?_ | refine Aw.condF rfl ?_)
                    refine Aw.regionAny [926, 1001] (by kernel_rfl) ?_
                    refine AwAny.tk (i := 0) (Yd.val hT rfl rfl) (by kernel_rfl) ?_
                    refine AwAny.tk (i := 1) (Yd.val hT rfl rfl) (by kernel_rfl) ?_
                    refine AwAny.tk (i := 2) (Yd.val hT rfl rfl) (by kernel_rfl) ?_
                    refine AwAny.tk (i := 3) (Yd.val hT rfl rfl) (by kernel_rfl) ?_
                    refine AwAny.tk (i := 5) (Yd.val hT rfl rfl) (by kernel_rfl) ?_
                    refine AwAny.two (i := 4) (j := 6) (by kernel_rfl) ?_ ?_
                    · skip
                      refine Yd.ed (Yd.val hT rfl rfl) ?_
                      refine AwAny.one (i := 6) (by kernel_rfl) ?_
                      refine Ed.lit hT rfl ?_
                      refine AwAny.freeze 80 rfl rfl (by first | rfl | (simp; done)) rfl ?_
                      refine AwAny.say (t := 80) (B := .one (.p (.sl (List.map eMapp [⟨_, _⟩])))) rfl rfl ?_
                      refine AwAny.one (i := 7) (by kernel_rfl) ?_
                      refine Ed.appm  hT rfl rfl rfl (by first | rfl | (simp; done)) (by first | rfl | (simp; done)) (fun _ => rfl) (by first | exact Nat.le_of_ble_eq_true rfl | (simp only [List.length_cons, List.length_nil]; omega) | (dsimp only; omega) | (simp; omega) | omega) (by intro b hb; cases hb <;> first | decide | (simp; done)) ?_
                      refine AwAny.tk (i := 8) (Yd.val hT rfl rfl) (by kernel_rfl) ?_
                      refine AwAny.tk (i := 9) (Yd.val hT rfl rfl) (by kernel_rfl) ?_
                      refine AwAny.one (i := 10) (by kernel_rfl) ?_
                      refine Ed.eff hT rfl (fun b hb => by injection hb with hb; subst hb; decide) ?_
                      refine AwAny.done (by kernel_rfl) ?_
                      repeat (first | refine AwOps.nil ?_ | refine AwSch.nil ?_ | refine Aw.seq ?_ | refine Aw.region ?_ | refine Aw.block ?_ | refine Aw.skip ?_ | refine Aw.exit ?_ | refine Aw.condT rfl ?_ | refine Aw.condF rfl ?_)
                      refine AwOps.v hT rfl ?_
                      refine AwOps.v hT rfl ?_
                      repeat (first | refine AwOps.nil ?_ | refine AwSch.nil ?_ | refine Aw.seq ?_ | refine Aw.region ?_ | refine Aw.block ?_ | refine Aw.skip ?_ | refine Aw.exit ?_ | refine Aw.condT rfl ?_ | refine Aw.condF rfl ?_)
                      refine ⟨(i1 + 1, _), ?nx1, ?mu1, Tn.trans (Less.tn (τ := ⟨173, [(52, _), (1, _), (50, _), (51, _)], [(81, _), (1001, _), (1000, _)]⟩) ⟨rfl, ⟨rfl, rfl, rfl, rfl, trivial⟩, ⟨rfl, rfl, rfl, trivial⟩⟩) (Tn.trans (Tn.ren 81 926 rfl rfl rfl) (Less.tn ⟨rfl, ⟨incS hlt1 hB1, rfl, rfl, rfl, trivial⟩, ⟨rfl, rfl, rfl, trivial⟩⟩))⟩
                      case nx1 =>
                        try dsimp only
                        first
                          | exact ⟨hlt1, by omega⟩
                          | exact ⟨hlt1, by simp only [List.length_append, List.length_cons, List.length_nil]; omega⟩
                      case mu1 =>
                        try dsimp only
                        first | omega | (simp only [w64] at *; omega) | (simp [w64] at *; omega)
                    · skip
                      refine Ed.lit hT rfl ?_
                      refine AwAny.freeze 80 rfl rfl (by first | rfl | (simp; done)) rfl ?_
                      refine AwAny.say (t := 80) (B := .one (.p (.sl (List.map eMapp [⟨_, _⟩])))) rfl rfl ?_
                      refine AwAny.one (i := 4) (by kernel_rfl) ?_
                      refine Yd.ed (Yd.val hT rfl rfl) ?_
                      refine AwAny.one (i := 7) (by kernel_rfl) ?_
                      refine Ed.appm  hT rfl rfl rfl (by first | rfl | (simp; done)) (by first | rfl | (simp; done)) (fun _ => rfl) (by first | exact Nat.le_of_ble_eq_true rfl | (simp only [List.length_cons, List.length_nil]; omega) | (dsimp only; omega) | (simp; omega) | omega) (by intro b hb; cases hb <;> first | decide | (simp; done)) ?_
                      refine AwAny.tk (i := 8) (Yd.val hT rfl rfl) (by kernel_rfl) ?_
                      refine AwAny.tk (i := 9) (Yd.val hT rfl rfl) (by kernel_rfl) ?_
                      refine AwAny.one (i := 10) (by kernel_rfl) ?_
                      refine Ed.eff hT rfl (fun b hb => by injection hb with hb; subst hb; decide) ?_
                      refine AwAny.done (by kernel_rfl) ?_
                      repeat (first | refine AwOps.nil ?_ | refine AwSch.nil ?_ | refine Aw.seq ?_ | refine Aw.region ?_ | refine Aw.block ?_ | refine Aw.skip ?_ | refine Aw.exit ?_ | refine Aw.condT rfl ?_ | refine Aw.condF rfl ?_)
                      refine AwOps.v hT rfl ?_
                      refine AwOps.v hT rfl ?_
                      repeat (first | refine AwOps.nil ?_ | refine AwSch.nil ?_ | refine Aw.seq ?_ | refine Aw.region ?_ | refine Aw.block ?_ | refine Aw.skip ?_ | refine Aw.exit ?_ | refine Aw.condT rfl ?_ | refine Aw.condF rfl ?_)
                      refine ⟨(i1 + 1, _), ?nx1, ?mu1, Tn.trans (Less.tn (τ := ⟨173, [(52, _), (1, _), (50, _), (51, _)], [(81, _), (1001, _), (1000, _)]⟩) ⟨rfl, ⟨rfl, rfl, rfl, rfl, trivial⟩, ⟨rfl, rfl, rfl, trivial⟩⟩) (Tn.trans (Tn.ren 81 926 rfl rfl rfl) (Less.tn ⟨rfl, ⟨incS hlt1 hB1, rfl, rfl, rfl, trivial⟩, ⟨rfl, rfl, rfl, trivial⟩⟩))⟩
                      case nx1 =>
                        try dsimp only
                        first
                          | exact ⟨hlt1, by omega⟩
                          | exact ⟨hlt1, by simp only [List.length_append, List.length_cons, List.length_nil]; omega⟩
                      case mu1 =>
                        try dsimp only
                        first | omega | (simp only [w64] at *; omega) | (simp [w64] at *; omega)
                  · skip
                    repeat (first | refine AwOps.nil ?_ | refine AwSch.nil ?_ | refine Aw.seq ?_ | refine Aw.region ?_ | refine Aw.block ?_ | refine Aw.skip ?_ | refine Aw.exit ?_ | refine Aw.condT rfl ?_ | refine Aw.condF rfl ?_)
                    refine AwOps.v hT rfl ?_
                    refine AwOps.v hT rfl ?_
                    repeat (first | refine AwOps.nil ?_ | refine AwSch.nil ?_ | refine Aw.seq ?_ | refine Aw.region ?_ | refine Aw.block ?_ | refine Aw.skip ?_ | refine Aw.exit ?_ | refine Aw.condT rfl ?_ | refine Aw.condF rfl ?_)
                    refine ⟨(i1 + 1, _), ?nx1, ?mu1, Less.tn ⟨rfl, ⟨incS hlt1 hB1, rfl, rfl, rfl, trivial⟩, ⟨rfl, rfl, rfl, trivial⟩⟩⟩
                    case nx1 =>
                      try dsimp only
                      first
                        | exact ⟨hlt1, by omega⟩
                        | exact ⟨hlt1, by simp only [List.length_append, List.length_cons, List.length_nil]; omega⟩
                    case mu1 =>
                      try dsimp only
                      first | omega | (simp only [w64] at *; omega) | (simp [w64] at *; omega)
            · skip
              refine Aw.turn (Tn.freezeC 1001 16 rfl rfl rfl (by first | rfl | (simp; done)) rfl rfl) ?_
              repeat (first | refine AwOps.nil ?_ | refine AwSch.nil ?_ | refine Aw.seq ?_ | refine Aw.region ?_ | refine Aw.block ?_ | refine Aw.skip ?_ | refine Aw.exit ?_ | refine Aw.condT rfl ?_ | refine Aw.condF rfl ?_)
              refine ⟨_, [_, _], rfl, ⟨rfl, rfl, trivial⟩, ?_⟩
              obtain ⟨o1, o2, o3, o4, o5, o6, o7, o8⟩ := hok
              dsimp only at o1 o2 o3 o4 o5 o6 o7 o8
              refine ⟨_, ⟨_, _, _, _, _, _, _, ⟨_, _, _⟩, ⟨_, _, _, _, _, _, _, _, _, _, _, _, ⟨_, _⟩, _, _, _, _, _⟩, _⟩, rfl, rfl, ⟨?_, ?_, ?_, ?_, ?_, ?_, ?_, ?_⟩, rfl, rfl, fun he => ?_⟩
              all_goals dsimp only
              all_goals (first | (obtain ⟨e1, e2, e3⟩ := he; dsimp only at e1 e2 e3; exact ⟨by dsimp only; omega, by dsimp only; omega, by dsimp only; omega⟩) | assumption | exact (by assumption : _ ∧ _).1 | exact okGs_take _ (okGs_two (by assumption) (by assumption)) | (simp; done) | omega | (simp only [List.length_append, List.length_cons, List.length_nil]; omega))
        · skip
          repeat (first | refine AwOps.nil ?_ | refine AwSch.nil ?_ | refine Aw.seq ?_ | refine Aw.region ?_ | refine Aw.block ?_ | refine Aw.skip ?_ | refine Aw.exit ?_ | refine Aw.condT rfl ?_ | refine Aw.condF rfl ?_)
          refine AwOps.v hT rfl ?_
          refine AwOps.v hT rfl ?_
          repeat (first | refine AwOps.nil ?_ | refine AwSch.nil ?_ | refine Aw.seq ?_ | refine Aw.region ?_ | refine Aw.block ?_ | refine Aw.skip ?_ | refine Aw.exit ?_ | refine Aw.condT rfl ?_ | refine Aw.condF rfl ?_)
          refine Aw.tst rfl (fun hb43 => ?_) (fun hb43 => ?_)
          · skip
            repeat (first | refine AwOps.nil ?_ | refine AwSch.nil ?_ | refine Aw.seq ?_ | refine Aw.region ?_ | refine Aw.block ?_ | refine Aw.skip ?_ | refine Aw.exit ?_ | refine Aw.condT rfl ?_ | refine Aw.condF rfl ?_)
            iterate 3 refine AwOps.v hT rfl ?_
            refine AwOps.eff hT rfl ?_
            repeat (first | refine AwOps.nil ?_ | refine AwSch.nil ?_ | refine Aw.seq ?_ | refine Aw.region ?_ | refine Aw.block ?_ | refine Aw.skip ?_ | refine Aw.exit ?_ | refine Aw.condT rfl ?_ | refine Aw.condF rfl ?_)
            refine AwOps.v hT rfl ?_
            refine AwOps.cl (F70 _ _ (by first | omega | (simp only [w64] at *; omega) | (simp [w64] at *; omega)) (by first | omega | (simp only [w64] at *; omega) | (simp [w64] at *; omega))) [1000] rfl ⟨⟨1000, rfl, rfl⟩, ⟨rfl, rfl⟩, trivial⟩ ⟨rfl, trivial⟩ rfl ?_   -- certpathmade2.Mappings
            rintro _ _ ⟨lm, dm, rfl, rfl, hlm⟩
            refine AwOps.v hT rfl ?_
            refine AwOps.v hT rfl ?_
            repeat (first | refine AwOps.nil ?_ | refine AwSch.nil ?_ | refine Aw.seq ?_ | refine Aw.region ?_ | refine Aw.block ?_ | refine Aw.skip ?_ | refine Aw.exit ?_ | refine Aw.condT rfl ?_ | refine Aw.condF rfl ?_)
            refine Aw.bnd 50 rfl fun hB1 => ?_
            replace hB1 : lm.length ≤ maxLen := by simpa using hB1
            repeat (first | refine AwOps.nil ?_ | refine AwSch.nil ?_ | refine Aw.seq ?_ | refine Aw.region ?_ | refine Aw.block ?_ | refine Aw.skip ?_ | refine Aw.exit ?_ | refine Aw.condT rfl ?_ | refine Aw.condF rfl ?_)
            refine Aw.turn (Tn.ownC 1001 16 926 72 2 rfl rfl (by decide) (by decide) rfl rfl) ?_
            refine Aw.lp (ι := Nat × List (Mapp)) (n := 173) [(1, _), (50, _), (51, _)] [(1000, _)] (fun gq => [(52, sc (.int .i64 gq.1))]) (fun gq => [(926, .row 72 2 true (List.map eMapp gq.2)), (1001, .box ⟨46, [.v (.string y0), .v (.string y1), .v (.int .i64 y2), .sl (List.map eRdn y3), .sl (List.map eRdn y4), .v (.int .i64 y5), .v (.int .i64 y6), .v (.int .i64 y7), .v (.string y8), .v (.string y9), .v (.bool y10), .v (.bool y11), .v (.int .i64 y12), .v (.int .i64 y13), .sl (List.map eStr y14), .sl (List.map eStr y15), .sl [], .v (.int .i64 y17), .v (.int .i64 y18), .v (.int .i64 y19), .sl (List.map eGn y20), .v (.bool y21), .sl (List.map eGn y22), .sl (List.map eGn y23), .v (.string y24), .v (.string y25), .sl (List.map ePoint y26), .sl (List.map ePoint y27), .sl (List.map eExt y28), .v (.string y29)], [(16, .own 926 gq.2.length)]⟩)]) (fun gq => gq.1 ≤ lm.length ∧ (gq.2.length ≤ gq.1)) (fun gq => lm.length - gq.1) (0, []) ?ok1 (Less.tn ⟨rfl, ⟨rfl, rfl, rfl, rfl, trivial⟩, ⟨rfl, rfl, rfl, trivial⟩⟩) ?bd1
            case ok1 =>
              try dsimp only
              exact ⟨Nat.zero_le _, Nat.le_refl _⟩
            case bd1 =>
              rintro ⟨i1, l926⟩ hi1
              try dsimp only at hi1
              show Aw _ _ _ ⟨173, [(52, sc (.int .i64 i1))] ++ [(1, _), (50, _), (51, _)], [(926, .row 72 2 true (List.map eMapp l926)), (1001, .box ⟨46, [.v (.string y0), .v (.string y1), .v (.int .i64 y2), .sl (List.map eRdn y3), .sl (List.map eRdn y4), .v (.int .i64 y5), .v (.int .i64 y6), .v (.int .i64 y7), .v (.string y8), .v (.string y9), .v (.bool y10), .v (.bool y11), .v (.int .i64 y12), .v (.int .i64 y13), .sl (List.map eStr y14), .sl (List.map eStr y15), .sl [], .v (.int .i64 y17), .v (.int .i64 y18), .v (.int .i64 y19), .sl (List.map eGn y20), .v (.bool y21), .sl (List.map eGn y22), .sl (List.map eGn y23), .v (.string y24), .v (.string y25), .sl (List.map ePoint y26), .sl (List.map ePoint y27), .sl (List.map eExt y28), .v (.string y29)], [(16, .own 926 l926.length)]⟩)] ++ [(1000, _)]⟩ _
              have hl4 : lm.length ≤ 1000 := by omega
              repeat (first | refine AwOps.nil ?_ | refine AwSch.nil ?_ | refine Aw.seq ?_ | refine Aw.region ?_ | refine Aw.block ?_ | refine Aw.skip ?_ | refine Aw.exit ?_ | refine Aw.condT rfl ?_ | refine Aw.condF rfl ?_)
              refine AwOps.v hT rfl ?_
              repeat (first | refine AwOps.nil ?_ | refine AwSch.nil ?_ | refine Aw.seq ?_ | refine Aw.region ?_ | refine Aw.block ?_ | refine Aw.skip ?_ | refine Aw.exit ?_ | refine Aw.condT rfl ?_ | refine Aw.condF rfl ?_)
              refine Aw.tst rfl (fun hb53 => ?_) (fun hb53 => ?_)
              · skip
                have hlt1 : i1 < lm.length := by simpa using hb53
                repeat (first | refine AwOps.nil ?_ | refine AwSch.nil ?_ | refine Aw.seq ?_ | refine Aw.region ?_ | refine Aw.block ?_ | refine Aw.skip ?_ | refine Aw.exit ?_ | refine Aw.condT rfl ?_ | refine Aw.condF rfl ?_)
                refine AwOps.im hT rfl hlt1 rfl ?_
                refine AwOps.v hT rfl ?_
                refine AwOps.eff hT rfl ?_
                refine AwOps.eff hT rfl ?_
                repeat (first | refine AwOps.nil ?_ | refine AwSch.nil ?_ | refine Aw.seq ?_ | refine Aw.region ?_ | refine Aw.block ?_ | refine Aw.skip ?_ | refine Aw.exit ?_ | refine Aw.condT rfl ?_ | refine Aw.condF rfl ?_)
                refine AwOps.v hT rfl ?_
                repeat (first | refine AwOps.nil ?_ | refine AwSch.nil ?_ | refine Aw.seq ?_ | refine Aw.region ?_ | refine Aw.block ?_ | refine Aw.skip ?_ | refine Aw.exit ?_ | refine Aw.condT rfl ?_ | refine Aw.condF rfl ?_)
                iterate 6 refine AwOps.v hT rfl ?_
                repeat (first | refine AwOps.nil ?_ | refine AwSch.nil ?_ | refine Aw.seq ?_ | refine Aw.region ?_ | refine Aw.block ?_ | refine Aw.skip ?_ | refine Aw.exit ?_ | refine Aw.condT rfl ?_ | refine Aw.condF rfl ?_)
                refine Aw.lp (ι := Bool × Nat) (n := 173) [(1, _), (5, _), (50, _), (51, _), (52, _), (59, _), (60, _)] [(5, _), (926, _), (1000, _), (1001, _)] (fun gq => [(6, sc (.bool gq.1)), (61, sc (.int .i64 gq.2))]) (fun gq => []) (fun gq => gq.2 ≤ l926.length ∧ (True)) (fun gq => l926.length - gq.2) (_, 0) ?ok2 (Less.tn ⟨rfl, ⟨rfl, rfl, rfl, rfl, rfl, rfl, rfl, rfl, rfl, trivial⟩, ⟨rfl, rfl, rfl, rfl, trivial⟩⟩) ?bd2
                case ok2 =>
                  try dsimp only
                  first | trivial | exact ⟨Nat.zero_le _, trivial⟩ | (simp; done) | (refine ⟨by simp, ?_⟩; (first | trivial | (simp; done))) | (simp; first | omega | (simp only [w64] at *; omega) | (simp [w64] at *; omega))
                case bd2 =>
                  rintro ⟨b6, i2⟩ hi2
                  try dsimp only at hi2
                  show Aw _ _ _ ⟨173, [(6, sc (.bool b6)), (61, sc (.int .i64 i2))] ++ [(1, _), (5, _), (50, _), (51, _), (52, _), (59, _), (60, _)], [] ++ [(5, _), (926, _), (1000, _), (1001, _)]⟩ _
                  have hB2 : l926.length ≤ maxLen := by unfold maxLen; omega
                  repeat (first | refine AwOps.nil ?_ | refine AwSch.nil ?_ | refine Aw.seq ?_ | refine Aw.region ?_ | refine Aw.block ?_ | refine Aw.skip ?_ | refine Aw.exit ?_ | refine Aw.condT rfl ?_ | refine Aw.condF rfl ?_)
                  refine AwOps.v hT rfl ?_
                  repeat (first | refine AwOps.nil ?_ | refine AwSch.nil ?_ | refine Aw.seq ?_ | refine Aw.region ?_ | refine Aw.block ?_ | refine Aw.skip ?_ | refine Aw.exit ?_ | refine Aw.condT rfl ?_ | refine Aw.condF rfl ?_)
                  refine Aw.tst rfl (fun hb62 => ?_) (fun hb62 => ?_)
                  · skip
                    have hlt2 : i2 < l926.length := by simpa using hb62
                    repeat (first | refine AwOps.nil ?_ | refine AwSch.nil ?_ | refine Aw.seq ?_ | refine Aw.region ?_ | refine Aw.block ?_ | refine Aw.skip ?_ | refine Aw.exit ?_ | refine Aw.condT rfl ?_ | refine Aw.condF rfl ?_)
                    refine AwOps.idxo hT rfl rfl (by omega) hlt2 ?_
                    refine AwOps.ldo hT rfl rfl (eMapp l926[i2]) (by simp [hlt2]) rfl ?_
                    refine AwOps.eff hT rfl ?_
                    refine AwOps.eff hT rfl ?_
                    repeat (first | refine AwOps.nil ?_ | refine AwSch.nil ?_ | refine Aw.seq ?_ | refine Aw.region ?_ | refine Aw.block ?_ | refine Aw.skip ?_ | refine Aw.exit ?_ | refine Aw.condT rfl ?_ | refine Aw.condF rfl ?_)
                    refine AwOps.v hT rfl ?_
                    refine AwOps.v hT rfl ?_
                    refine AwOps.split (t := 66) rfl (fun hb66 => ?_) (fun hb66 => ?_)
                    · skip
                      iterate 5 refine AwOps.v hT rfl ?_
                      repeat (first | refine AwOps.nil ?_ | refine AwSch.nil ?_ | refine Aw.seq ?_ | refine Aw.region ?_ | refine Aw.block ?_ | refine Aw.skip ?_ | refine Aw.exit ?_ | refine Aw.condT rfl ?_ | refine Aw.condF rfl ?_)
                      refine AwOps.v hT rfl ?_
                      refine AwOps.v hT rfl ?_
                      repeat (first | refine AwOps.nil ?_ | refine AwSch.nil ?_ | refine Aw.seq ?_ | refine Aw.region ?_ | refine Aw.block ?_ | refine Aw.skip ?_ | refine Aw.exit ?_ | refine Aw.condT rfl ?_ | refine Aw.condF rfl ?_)
                      refine ⟨(_, i2 + 1), ?nx2, ?mu2, Less.tn ⟨rfl, ⟨rfl, incS hlt2 hB2, rfl, rfl, rfl, rfl, rfl, rfl, rfl, trivial⟩, ⟨rfl, rfl, rfl, rfl, trivial⟩⟩⟩
                      case nx2 =>
                        try dsimp only
                        first | exact ⟨hlt2, trivial⟩ | trivial
                      case mu2 =>
                        try dsimp only
                        first | omega | (simp only [w64] at *; omega) | (simp [w64] at *; omega)
                    · skip
                      refine AwOps.v hT rfl ?_
                      refine AwOps.v hT rfl ?_
                      refine AwOps.bin rfl _ rfl (eql_eMapp _ _) ?_
                      refine AwOps.v hT rfl ?_
                      refine AwOps.v hT rfl ?_
                      repeat (first | refine AwOps.nil ?_ | refine AwSch.nil ?_ | refine Aw.seq ?_ | refine Aw.region ?_ | refine Aw.block ?_ | refine Aw.skip ?_ | refine Aw.exit ?_ | refine Aw.condT rfl ?_ | refine Aw.condF rfl ?_)
                      refine AwOps.v hT rfl ?_
                      refine AwOps.v hT rfl ?_
                      repeat (first | refine AwOps.nil ?_ | refine AwSch.nil ?_ | refine Aw.seq ?_ | refine Aw.region ?_ | refine Aw.block ?_ | refine Aw.skip ?_ | refine Aw.exit ?_ | refine Aw.condT rfl ?_ | refine Aw.condF rfl ?_)
                      refine ⟨(_, i2 + 1), ?nx2, ?mu2, Less.tn ⟨rfl, ⟨rfl, incS hlt2 hB2, rfl, rfl, rfl, rfl, rfl, rfl, rfl, trivial⟩, ⟨rfl, rfl, rfl, rfl, trivial⟩⟩⟩
                      case nx2 =>
                        try dsimp only
                        first | exact ⟨hlt2, trivial⟩ | trivial
                      case mu2 =>
                        try dsimp only
                        first | omega | (simp only [w64] at *; omega) | (simp [w64] at *; omega)
                  · skip
                    repeat (first | refine AwOps.nil ?_ | refine AwSch.nil ?_ | refine Aw.seq ?_ | refine Aw.region ?_ | refine Aw.block ?_ | refine Aw.skip ?_ | refine Aw.exit ?_ | refine Aw.condT rfl ?_ | refine Aw.condF rfl ?_)
                    refine AwOps.v hT rfl ?_
                    refine AwOps.v hT rfl ?_
                    repeat (first | refine AwOps.nil ?_ | refine AwSch.nil ?_ | refine Aw.seq ?_ | refine Aw.region ?_ | refine Aw.block ?_ | refine Aw.skip ?_ | refine Aw.exit ?_ | refine Aw.condT rfl ?_ | refine Aw.condF rfl ?_)
                    refine Aw.tst rfl (fun hb73 => ?_) (fun hb73 => ?_)
                    · skip
                      repeat (first | refine AwOps.nil ?_ | refine AwSch.nil ?_ | refine Aw.seq ?_ | refine Aw.region ?_ | refine Aw.block ?_ | refine Aw.skip ?_ | refine Aw.exit ?_ | refine Aw.condT rfl ?_ | refine Aw.condF rfl ?_)
                      refine Aw.regionAny [926, 1001] (by kernel_rfl) ?_
                      refine AwAny.tk (i := 0) (Yd.val hT rfl rfl) (by kernel_rfl) ?_
                      refine AwAny.tk (i := 1) (Yd.val hT rfl rfl) (by kernel_rfl) ?_
                      refine AwAny.tk (i := 2) (Yd.val hT rfl rfl) (by kernel_rfl) ?_
                      refine AwAny.tk (i := 3) (Yd.val hT rfl rfl) (by kernel_rfl) ?_
                      refine AwAny.tk (i := 5) (Yd.val hT rfl rfl) (by kernel_rfl) ?_
                      refine AwAny.two (i := 4) (j := 6) (by kernel_rfl) ?_ ?_
                      · skip
                        refine Yd.ed (Yd.val hT rfl rfl) ?_
                        refine AwAny.one (i := 6) (by kernel_rfl) ?_
                        refine Ed.lit hT rfl ?_
                        refine AwAny.freeze 80 rfl rfl (by first | rfl | (simp; done)) rfl ?_
                        refine AwAny.say (t := 80) (B := .one (.p (.sl (List.map eMapp [⟨_, _⟩])))) rfl rfl ?_
                        refine AwAny.one (i := 7) (by kernel_rfl) ?_
                        refine Ed.appm  hT rfl rfl rfl (by first | rfl | (simp; done)) (by first | rfl | (simp; done)) (fun _ => rfl) (by first | exact Nat.le_of_ble_eq_true rfl | (simp only [List.length_cons, List.length_nil]; omega) | (dsimp only; omega) | (simp; omega) | omega) (by intro b hb; cases hb <;> first | decide | (simp; done)) ?_
                        refine AwAny.tk (i := 8) (Yd.val hT rfl rfl) (by kernel_rfl) ?_
                        refine AwAny.tk (i := 9) (Yd.val hT rfl rfl) (by kernel_rfl) ?_
                        refine AwAny.one (i := 10) (by kernel_rfl) ?_
                        refine Ed.eff hT rfl (fun b hb => by injection hb with hb; subst hb; decide) ?_
                        refine AwAny.done (by kernel_rfl) ?_
                        repeat (first | refine AwOps.nil ?_ | refine AwSch.nil ?_ | refine Aw.seq ?_ | refine Aw.region ?_ | refine Aw.block ?_ | refine Aw.skip ?_ | refine Aw.exit ?_ | refine Aw.condT rfl ?_ | refine Aw.condF rfl ?_)
                        refine AwOps.v hT rfl ?_
                        refine AwOps.v hT rfl ?_
                        repeat (first | refine AwOps.nil ?_ | refine AwSch.nil ?_ | refine Aw.seq ?_ | refine Aw.region ?_ | refine Aw.block ?_ | refine Aw.skip ?_ | refine Aw.exit ?_ | refine Aw.condT rfl ?_ | refine Aw.condF rfl ?_)
                        refine ⟨(i1 + 1, _), ?nx1, ?mu1, Tn.trans (Less.tn (τ := ⟨173, [(52, _), (1, _), (50, _), (51, _)], [(81, _), (1001, _), (1000, _)]⟩) ⟨rfl, ⟨rfl, rfl, rfl, rfl, trivial⟩, ⟨rfl, rfl, rfl, trivial⟩⟩) (Tn.trans (Tn.ren 81 926 rfl rfl rfl) (Less.tn ⟨rfl, ⟨incS hlt1 hB1, rfl, rfl, rfl, trivial⟩, ⟨rfl, rfl, rfl, trivial⟩⟩))⟩
                        case nx1 =>
                          try dsimp only
                          first
                            | exact ⟨hlt1, by omega⟩
                            | exact ⟨hlt1, by simp only [List.length_append, List.length_cons, List.length_nil]; omega⟩
                        case mu1 =>
                          try dsimp only
                          first | omega | (simp only [w64] at *; omega) | (simp [w64] at *; omega)
                      · skip
                        refine Ed.lit hT rfl ?_
                        refine AwAny.freeze 80 rfl rfl (by first | rfl | (simp; done)) rfl ?_
                        refine AwAny.say (t := 80) (B := .one (.p (.sl (List.map eMapp [⟨_, _⟩])))) rfl rfl ?_
                        refine AwAny.one (i := 4) (by kernel_rfl) ?_
                        refine Yd.ed (Yd.val hT rfl rfl) ?_
                        refine AwAny.one (i := 7) (by kernel_rfl) ?_
                        refine Ed.appm  hT rfl rfl rfl (by first | rfl | (simp; done)) (by first | rfl | (simp; done)) (fun _ => rfl) (by first | exact Nat.le_of_ble_eq_true rfl | (simp only [List.length_cons, List.length_nil]; omega) | (dsimp only; omega) | (simp; omega) | omega) (by intro b hb; cases hb <;> first | decide | (simp; done)) ?_
                        refine AwAny.tk (i := 8) (Yd.val hT rfl rfl) (by kernel_rfl) ?_
                        refine AwAny.tk (i := 9) (Yd.val hT rfl rfl) (by kernel_rfl) ?_
                        refine AwAny.one (i := 10) (by kernel_rfl) ?_
                        refine Ed.eff hT rfl (fun b hb => by injection hb with hb; subst hb; decide) ?_
                        refine AwAny.done (by kernel_rfl) ?_
                        repeat (first | refine AwOps.nil ?_ | refine AwSch.nil ?_ | refine Aw.seq ?_ | refine Aw.region ?_ | refine Aw.block ?_ | refine Aw.skip ?_ | refine Aw.exit ?_ | refine Aw.condT rfl ?_ | refine Aw.condF rfl ?_)
                        refine AwOps.v hT rfl ?_
                        refine AwOps.v hT rfl ?_
                        repeat (first | refine AwOps.nil ?_ | refine AwSch.nil ?_ | refine Aw.seq ?_ | refine Aw.region ?_ | refine Aw.block ?_ | refine Aw.skip ?_ | refine Aw.exit ?_ | refine Aw.condT rfl ?_ | refine Aw.condF rfl ?_)
                        refine ⟨(i1 + 1, _), ?nx1, ?mu1, Tn.trans (Less.tn (τ := ⟨173, [(52, _), (1, _), (50, _), (51, _)], [(81, _), (1001, _), (1000, _)]⟩) ⟨rfl, ⟨rfl, rfl, rfl, rfl, trivial⟩, ⟨rfl, rfl, rfl, trivial⟩⟩) (Tn.trans (Tn.ren 81 926 rfl rfl rfl) (Less.tn ⟨rfl, ⟨incS hlt1 hB1, rfl, rfl, rfl, trivial⟩, ⟨rfl, rfl, rfl, trivial⟩⟩))⟩
                        case nx1 =>
                          try dsimp only
                          first
                            | exact ⟨hlt1, by omega⟩
                            | exact ⟨hlt1, by simp only [List.length_append, List.length_cons, List.length_nil]; omega⟩
                        case mu1 =>
                          try dsimp only
                          first | omega | (simp only [w64] at *; omega) | (simp [w64] at *; omega)
                    · skip
                      repeat (first | refine AwOps.nil ?_ | refine AwSch.nil ?_ | refine Aw.seq ?_ | refine Aw.region ?_ | refine Aw.block ?_ | refine Aw.skip ?_ | refine Aw.exit ?_ | refine Aw.condT rfl ?_ | refine Aw.condF rfl ?_)
                      refine AwOps.v hT rfl ?_
                      refine AwOps.v hT rfl ?_
                      repeat (first | refine AwOps.nil ?_ | refine AwSch.nil ?_ | refine Aw.seq ?_ | refine Aw.region ?_ | refine Aw.block ?_ | refine Aw.skip ?_ | refine Aw.exit ?_ | refine Aw.condT rfl ?_ | refine Aw.condF rfl ?_)
                      refine ⟨(i1 + 1, _), ?nx1, ?mu1, Less.tn ⟨rfl, ⟨incS hlt1 hB1, rfl, rfl, rfl, trivial⟩, ⟨rfl, rfl, rfl, trivial⟩⟩⟩
                      case nx1 =>
                        try dsimp only
                        first
                          | exact ⟨hlt1, by omega⟩
                          | exact ⟨hlt1, by simp only [List.length_append, List.length_cons, List.length_nil]; omega⟩
                      case mu1 =>
                        try dsimp only
                        first | omega | (simp only [w64] at *; omega) | (simp [w64] at *; omega)
              · skip
                refine Aw.turn (Tn.freezeC 1001 16 rfl rfl rfl (by first | rfl | (simp; done)) rfl rfl) ?_
                repeat (first | refine AwOps.nil ?_ | refine AwSch.nil ?_ | refine Aw.seq ?_ | refine Aw.region ?_ | refine Aw.block ?_ | refine Aw.skip ?_ | refine Aw.exit ?_ | refine Aw.condT rfl ?_ | refine Aw.condF rfl ?_)
                refine ⟨_, [_, _], rfl, ⟨rfl, rfl, trivial⟩, ?_⟩
                obtain ⟨o1, o2, o3, o4, o5, o6, o7, o8⟩ := hok
                dsimp only at o1 o2 o3 o4 o5 o6 o7 o8
                refine ⟨_, ⟨_, _, _, _, _, _, _, ⟨_, _, _⟩, ⟨_, _, _, _, _, _, _, _, _, _, _, _, ⟨_, _⟩, _, _, _, _, _⟩, _⟩, rfl, rfl, ⟨?_, ?_, ?_, ?_, ?_, ?_, ?_, ?_⟩, rfl, rfl, fun he => ?_⟩
                all_goals dsimp only
                all_goals (first | (obtain ⟨e1, e2, e3⟩ := he; dsimp only at e1 e2 e3; exact ⟨by dsimp only; omega, by dsimp only; omega, by dsimp only; omega⟩) | assumption | exact (by assumption : _ ∧ _).1 | exact okGs_take _ (okGs_two (by assumption) (by assumption)) | (simp; done) | omega | (simp only [List.length_append, List.length_cons, List.length_nil]; omega))
          · skip
            repeat (first | refine AwOps.nil ?_ | refine AwSch.nil ?_ | refine Aw.seq ?_ | refine Aw.region ?_ | refine Aw.block ?_ | refine Aw.skip ?_ | refine Aw.exit ?_ | refine Aw.condT rfl ?_ | refine Aw.condF rfl ?_)
            refine AwOps.v hT rfl ?_
            refine AwOps.v hT rfl ?_
            repeat (first | refine AwOps.nil ?_ | refine AwSch.nil ?_ | refine Aw.seq ?_ | refine Aw.region ?_ | refine Aw.block ?_ | refine Aw.skip ?_ | refine Aw.exit ?_ | refine Aw.condT rfl ?_ | refine Aw.condF rfl ?_)
            refine Aw.tst rfl (fun hb85 => ?_) (fun hb85 => ?_)
            · skip
              repeat (first | refine AwOps.nil ?_ | refine AwSch.nil ?_ | refine Aw.seq ?_ | refine Aw.region ?_ | refine Aw.block ?_ | refine Aw.skip ?_ | refine Aw.exit ?_ | refine Aw.condT rfl ?_ | refine Aw.condF rfl ?_)
              refine AwOps.v hT rfl ?_
              refine AwOps.v hT rfl ?_
              refine AwOps.cl (F10 _ _ (by first | omega | (simp only [w64] at *; omega) | (simp [w64] at *; omega)) (by first | omega | (simp only [w64] at *; omega) | (simp [w64] at *; omega))) [1000] rfl ⟨⟨1000, rfl, rfl⟩, ⟨rfl, rfl⟩, trivial⟩ ⟨rfl, trivial⟩ rfl ?_   -- certpathmade.Deck).Next
              rintro _ _ ⟨v10, d10, rfl, rfl, hv10, hw10⟩
              refine AwOps.v hT rfl ?_
              first | refine AwOps.nm 90 rfl (by omega) (by omega) ?_ | skip
              refine AwOps.v hT rfl ?_
              refine AwOps.v hT rfl ?_
              refine AwOps.eff hT rfl ?_
              repeat (first | refine AwOps.nil ?_ | refine AwSch.nil ?_ | refine Aw.seq ?_ | refine Aw.region ?_ | refine Aw.block ?_ | refine Aw.skip ?_ | refine Aw.exit ?_ | refine Aw.condT rfl ?_ | refine Aw.condF rfl ?_)
              refine ⟨_, [_, _], rfl, ⟨rfl, rfl, trivial⟩, ?_⟩
              obtain ⟨o1, o2, o3, o4, o5, o6, o7, o8⟩ := hok
              dsimp only at o1 o2 o3 o4 o5 o6 o7 o8
              refine ⟨_, ⟨_, _, _, _, _, _, _, ⟨_, _, _⟩, ⟨_, _, _, _, _, _, _, _, _, _, _, _, ⟨_, _⟩, _, _, _, _, _⟩, _⟩, rfl, rfl, ⟨?_, ?_, ?_, ?_, ?_, ?_, ?_, ?_⟩, rfl, rfl, fun he => ?_⟩
              all_goals dsimp only
              all_goals (first | (obtain ⟨e1, e2, e3⟩ := he; dsimp only at e1 e2 e3; exact ⟨by dsimp only; omega, by dsimp only; omega, by dsimp only; omega⟩) | assumption | exact (by assumption : _ ∧ _).1 | exact okGs_take _ (okGs_two (by assumption) (by assumption)) | (simp; done) | omega | (simp only [List.length_append, List.length_cons, List.length_nil]; omega))
            · skip
              repeat (first | refine AwOps.nil ?_ | refine AwSch.nil ?_ | refine Aw.seq ?_ | refine Aw.region ?_ | refine Aw.block ?_ | refine Aw.skip ?_ | refine Aw.exit ?_ | refine Aw.condT rfl ?_ | refine Aw.condF rfl ?_)
              refine AwOps.v hT rfl ?_
              refine AwOps.v hT rfl ?_
              repeat (first | refine AwOps.nil ?_ | refine AwSch.nil ?_ | refine Aw.seq ?_ | refine Aw.region ?_ | refine Aw.block ?_ | refine Aw.skip ?_ | refine Aw.exit ?_ | refine Aw.condT rfl ?_ | refine Aw.condF rfl ?_)
              refine Aw.tst rfl (fun hb93 => ?_) (fun hb93 => ?_)
              · skip
                repeat (first | refine AwOps.nil ?_ | refine AwSch.nil ?_ | refine Aw.seq ?_ | refine Aw.region ?_ | refine Aw.block ?_ | refine Aw.skip ?_ | refine Aw.exit ?_ | refine Aw.condT rfl ?_ | refine Aw.condF rfl ?_)
                refine AwOps.v hT rfl ?_
                refine AwOps.v hT rfl ?_
                refine AwOps.cl (F10 _ _ (by first | omega | (simp only [w64] at *; omega) | (simp [w64] at *; omega)) (by first | omega | (simp only [w64] at *; omega) | (simp [w64] at *; omega))) [1000] rfl ⟨⟨1000, rfl, rfl⟩, ⟨rfl, rfl⟩, trivial⟩ ⟨rfl, trivial⟩ rfl ?_   -- certpathmade.Deck).Next
                rintro _ _ ⟨v11, d11, rfl, rfl, hv11, hw11⟩
                refine AwOps.v hT rfl ?_
                first | refine AwOps.nm 98 rfl (by omega) (by omega) ?_ | skip
                refine AwOps.v hT rfl ?_
                refine AwOps.v hT rfl ?_
                refine AwOps.eff hT rfl ?_
                repeat (first | refine AwOps.nil ?_ | refine AwSch.nil ?_ | refine Aw.seq ?_ | refine Aw.region ?_ | refine Aw.block ?_ | refine Aw.skip ?_ | refine Aw.exit ?_ | refine Aw.condT rfl ?_ | refine Aw.condF rfl ?_)
                refine ⟨_, [_, _], rfl, ⟨rfl, rfl, trivial⟩, ?_⟩
                obtain ⟨o1, o2, o3, o4, o5, o6, o7, o8⟩ := hok
                dsimp only at o1 o2 o3 o4 o5 o6 o7 o8
                refine ⟨_, ⟨_, _, _, _, _, _, _, ⟨_, _, _⟩, ⟨_, _, _, _, _, _, _, _, _, _, _, _, ⟨_, _⟩, _, _, _, _, _⟩, _⟩, rfl, rfl, ⟨?_, ?_, ?_, ?_, ?_, ?_, ?_, ?_⟩, rfl, rfl, fun he => ?_⟩
                all_goals dsimp only
                all_goals (first | (obtain ⟨e1, e2, e3⟩ := he; dsimp only at e1 e2 e3; exact ⟨by dsimp only; omega, by dsimp only; omega, by dsimp only; omega⟩) | assumption | exact (by assumption : _ ∧ _).1 | exact okGs_take _ (okGs_two (by assumption) (by assumption)) | (simp; done) | omega | (simp only [List.length_append, List.length_cons, List.length_nil]; omega))
              · skip
                repeat (first | refine AwOps.nil ?_ | refine AwSch.nil ?_ | refine Aw.seq ?_ | refine Aw.region ?_ | refine Aw.block ?_ | refine Aw.skip ?_ | refine Aw.exit ?_ | refine Aw.condT rfl ?_ | refine Aw.condF rfl ?_)
                refine AwOps.v hT rfl ?_
                refine AwOps.v hT rfl ?_
                repeat (first | refine AwOps.nil ?_ | refine AwSch.nil ?_ | refine Aw.seq ?_ | refine Aw.region ?_ | refine Aw.block ?_ | refine Aw.skip ?_ | refine Aw.exit ?_ | refine Aw.condT rfl ?_ | refine Aw.condF rfl ?_)
                refine Aw.tst rfl (fun hb101 => ?_) (fun hb101 => ?_)
                · skip
                  repeat (first | refine AwOps.nil ?_ | refine AwSch.nil ?_ | refine Aw.seq ?_ | refine Aw.region ?_ | refine Aw.block ?_ | refine Aw.skip ?_ | refine Aw.exit ?_ | refine Aw.condT rfl ?_ | refine Aw.condF rfl ?_)
                  refine AwOps.v hT rfl ?_
                  refine AwOps.v hT rfl ?_
                  refine AwOps.cl (F10 _ _ (by first | omega | (simp only [w64] at *; omega) | (simp [w64] at *; omega)) (by first | omega | (simp only [w64] at *; omega) | (simp [w64] at *; omega))) [1000] rfl ⟨⟨1000, rfl, rfl⟩, ⟨rfl, rfl⟩, trivial⟩ ⟨rfl, trivial⟩ rfl ?_   -- certpathmade.Deck).Next
                  rintro _ _ ⟨v12, d12, rfl, rfl, hv12, hw12⟩
                  refine AwOps.v hT rfl ?_
                  first | refine AwOps.nm 106 rfl (by omega) (by omega) ?_ | skip
                  refine AwOps.v hT rfl ?_
                  refine AwOps.v hT rfl ?_
                  refine AwOps.eff hT rfl ?_
                  repeat (first | refine AwOps.nil ?_ | refine AwSch.nil ?_ | refine Aw.seq ?_ | refine Aw.region ?_ | refine Aw.block ?_ | refine Aw.skip ?_ | refine Aw.exit ?_ | refine Aw.condT rfl ?_ | refine Aw.condF rfl ?_)
                  refine ⟨_, [_, _], rfl, ⟨rfl, rfl, trivial⟩, ?_⟩
                  obtain ⟨o1, o2, o3, o4, o5, o6, o7, o8⟩ := hok
                  dsimp only at o1 o2 o3 o4 o5 o6 o7 o8
                  refine ⟨_, ⟨_, _, _, _, _, _, _, ⟨_, _, _⟩, ⟨_, _, _, _, _, _, _, _, _, _, _, _, ⟨_, _⟩, _, _, _, _, _⟩, _⟩, rfl, rfl, ⟨?_, ?_, ?_, ?_, ?_, ?_, ?_, ?_⟩, rfl, rfl, fun he => ?_⟩
                  all_goals dsimp only
                  all_goals (first | (obtain ⟨e1, e2, e3⟩ := he; dsimp only at e1 e2 e3; exact ⟨by dsimp only; omega, by dsimp only; omega, by dsimp only; omega⟩) | assumption | exact (by assumption : _ ∧ _).1 | exact okGs_take _ (okGs_two (by assumption) (by assumption)) | (simp; done) | omega | (simp only [List.length_append, List.length_cons, List.length_nil]; omega))
                · skip
                  repeat (first | refine AwOps.nil ?_ | refine AwSch.nil ?_ | refine Aw.seq ?_ | refine Aw.region ?_ | refine Aw.block ?_ | refine Aw.skip ?_ | refine Aw.exit ?_ | refine Aw.condT rfl ?_ | refine Aw.condF rfl ?_)
                  refine AwOps.v hT rfl ?_
                  refine AwOps.v hT rfl ?_
                  repeat (first | refine AwOps.nil ?_ | refine AwSch.nil ?_ | refine Aw.seq ?_ | refine Aw.region ?_ | refine Aw.block ?_ | refine Aw.skip ?_ | refine Aw.exit ?_ | refine Aw.condT rfl ?_ | refine Aw.condF rfl ?_)
                  refine Aw.tst rfl (fun hb109 => ?_) (fun hb109 => ?_)
                  · skip
                    repeat (first | refine AwOps.nil ?_ | refine AwSch.nil ?_ | refine Aw.seq ?_ | refine Aw.region ?_ | refine Aw.block ?_ | refine Aw.skip ?_ | refine Aw.exit ?_ | refine Aw.condT rfl ?_ | refine Aw.condF rfl ?_)
                    iterate 4 refine AwOps.v hT rfl ?_
                    repeat (first | refine AwOps.nil ?_ | refine AwSch.nil ?_ | refine Aw.seq ?_ | refine Aw.region ?_ | refine Aw.block ?_ | refine Aw.skip ?_ | refine Aw.exit ?_ | refine Aw.condT rfl ?_ | refine Aw.condF rfl ?_)
                    refine Aw.tst rfl (fun hb114 => ?_) (fun hb114 => ?_)
                    · skip
                      repeat (first | refine AwOps.nil ?_ | refine AwSch.nil ?_ | refine Aw.seq ?_ | refine Aw.region ?_ | refine Aw.block ?_ | refine Aw.skip ?_ | refine Aw.exit ?_ | refine Aw.condT rfl ?_ | refine Aw.condF rfl ?_)
                      refine AwOps.v hT rfl ?_
                      refine AwOps.v hT rfl ?_
                      refine AwOps.cl (F10 _ _ (by first | omega | (simp only [w64] at *; omega) | (simp [w64] at *; omega)) (by first | omega | (simp only [w64] at *; omega) | (simp [w64] at *; omega))) [1000] rfl ⟨⟨1000, rfl, rfl⟩, ⟨rfl, rfl⟩, trivial⟩ ⟨rfl, trivial⟩ rfl ?_   -- certpathmade.Deck).Next
                      rintro _ _ ⟨v13, d13, rfl, rfl, hv13, hw13⟩
                      refine AwOps.v hT rfl ?_
                      first | refine AwOps.nm 118 rfl (by omega) (by omega) ?_ | skip
                      refine AwOps.v hT rfl ?_
                      refine AwOps.v hT rfl ?_
                      refine AwOps.eff hT rfl ?_
                      repeat (first | refine AwOps.nil ?_ | refine AwSch.nil ?_ | refine Aw.seq ?_ | refine Aw.region ?_ | refine Aw.block ?_ | refine Aw.skip ?_ | refine Aw.exit ?_ | refine Aw.condT rfl ?_ | refine Aw.condF rfl ?_)
                      refine ⟨_, [_, _], rfl, ⟨rfl, rfl, trivial⟩, ?_⟩
                      obtain ⟨o1, o2, o3, o4, o5, o6, o7, o8⟩ := hok
                      dsimp only at o1 o2 o3 o4 o5 o6 o7 o8
                      refine ⟨_, ⟨_, _, _, _, _, _, _, ⟨_, _, _⟩, ⟨_, _, _, _, _, _, _, _, _, _, _, _, ⟨_, _⟩, _, _, _, _, _⟩, _⟩, rfl, rfl, ⟨?_, ?_, ?_, ?_, ?_, ?_, ?_, ?_⟩, rfl, rfl, fun he => ?_⟩
                      all_goals dsimp only
                      all_goals (first | (obtain ⟨e1, e2, e3⟩ := he; dsimp only at e1 e2 e3; exact ⟨by dsimp only; omega, by dsimp only; omega, by dsimp only; omega⟩) | assumption | exact (by assumption : _ ∧ _).1 | exact okGs_take _ (okGs_two (by assumption) (by assumption)) | (simp; done) | omega | (simp only [List.length_append, List.length_cons, List.length_nil]; omega))
                    · skip
                      repeat (first | refine AwOps.nil ?_ | refine AwSch.nil ?_ | refine Aw.seq ?_ | refine Aw.region ?_ | refine Aw.block ?_ | refine Aw.skip ?_ | refine Aw.exit ?_ | refine Aw.condT rfl ?_ | refine Aw.condF rfl ?_)
                      refine ⟨_, [_, _], rfl, ⟨rfl, rfl, trivial⟩, ?_⟩
                      obtain ⟨o1, o2, o3, o4, o5, o6, o7, o8⟩ := hok
                      dsimp only at o1 o2 o3 o4 o5 o6 o7 o8
                      refine ⟨_, ⟨_, _, _, _, _, _, _, ⟨_, _, _⟩, ⟨_, _, _, _, _, _, _, _, _, _, _, _, ⟨_, _⟩, _, _, _, _, _⟩, _⟩, rfl, rfl, ⟨?_, ?_, ?_, ?_, ?_, ?_, ?_, ?_⟩, rfl, rfl, fun he => ?_⟩
                      all_goals dsimp only
                      all_goals (first | (obtain ⟨e1, e2, e3⟩ := he; dsimp only at e1 e2 e3; exact ⟨by dsimp only; omega, by dsimp only; omega, by dsimp only; omega⟩) | assumption | exact (by assumption : _ ∧ _).1 | exact okGs_take _ (okGs_two (by assumption) (by assumption)) | (simp; done) | omega | (simp only [List.length_append, List.length_cons, List.length_nil]; omega))
                  · skip
                    repeat (first | refine AwOps.nil ?_ | refine AwSch.nil ?_ | refine Aw.seq ?_ | refine Aw.region ?_ | refine Aw.block ?_ | refine Aw.skip ?_ | refine Aw.exit ?_ | refine Aw.condT rfl ?_ | refine Aw.condF rfl ?_)
                    refine AwOps.v hT rfl ?_
                    refine AwOps.v hT rfl ?_
                    repeat (first | refine AwOps.nil ?_ | refine AwSch.nil ?_ | refine Aw.seq ?_ | refine Aw.region ?_ | refine Aw.block ?_ | refine Aw.skip ?_ | refine Aw.exit ?_ | refine Aw.condT rfl ?_ | refine Aw.condF rfl ?_)
                    refine Aw.tst rfl (fun hb121 => ?_) (fun hb121 => ?_)
                    · skip
                      repeat (first | refine AwOps.nil ?_ | refine AwSch.nil ?_ | refine Aw.seq ?_ | refine Aw.region ?_ | refine Aw.block ?_ | refine Aw.skip ?_ | refine Aw.exit ?_ | refine Aw.condT rfl ?_ | refine Aw.condF rfl ?_)
                      refine AwOps.v hT rfl ?_
                      refine AwOps.lit hT rfl ?_
                      refine AwOps.turn (Tn.fz 124 rfl rfl (by first | rfl | (simp; done)) rfl) ?_
                      refine AwOps.turn (Less.say (t := 124) (B := .one (.p (.sl (List.map eI [_, _, _, _])))) rfl rfl) ?_
                      refine AwOps.v hT rfl ?_
                      refine AwOps.cl (F10 _ _ (by first | omega | (simp only [w64] at *; omega) | (simp [w64] at *; omega)) (by first | omega | (simp only [w64] at *; omega) | (simp [w64] at *; omega))) [1000] rfl ⟨⟨1000, rfl, rfl⟩, ⟨rfl, rfl⟩, trivial⟩ ⟨rfl, trivial⟩ rfl ?_   -- certpathmade.Deck).Next
                      rintro _ _ ⟨v14, d14, rfl, rfl, hv14, hw14⟩
                      refine AwOps.imI hT rfl (by first | omega | (simp only [w64] at *; omega) | (simp [w64] at *; omega)) (by first | omega | (simp only [List.length_cons, List.length_nil, List.length_map]; omega) | (simp only [List.length_cons, List.length_nil, List.length_map, w64] at *; omega) | (simp [w64] at *; omega)) rfl ?_
                      iterate 3 refine AwOps.v hT rfl ?_
                      refine AwOps.eff hT rfl ?_
                      repeat (first | refine AwOps.nil ?_ | refine AwSch.nil ?_ | refine Aw.seq ?_ | refine Aw.region ?_ | refine Aw.block ?_ | refine Aw.skip ?_ | refine Aw.exit ?_ | refine Aw.condT rfl ?_ | refine Aw.condF rfl ?_)
                      refine ⟨_, [_, _], rfl, ⟨rfl, rfl, trivial⟩, ?_⟩
                      obtain ⟨o1, o2, o3, o4, o5, o6, o7, o8⟩ := hok
                      dsimp only at o1 o2 o3 o4 o5 o6 o7 o8
                      refine ⟨_, ⟨_, _, _, _, _, _, _, ⟨_, _, _⟩, ⟨_, _, _, _, _, _, _, _, _, _, _, _, ⟨_, _⟩, _, _, _, _, _⟩, _⟩, rfl, rfl, ⟨?_, ?_, ?_, ?_, ?_, ?_, ?_, ?_⟩, rfl, rfl, fun he => ?_⟩
                      all_goals dsimp only
                      all_goals (first | (obtain ⟨e1, e2, e3⟩ := he; dsimp only at e1 e2 e3; exact ⟨by dsimp only; omega, by dsimp only; omega, by dsimp only; omega⟩) | assumption | exact (by assumption : _ ∧ _).1 | exact okGs_take _ (okGs_two (by assumption) (by assumption)) | (simp; done) | omega | (simp only [List.length_append, List.length_cons, List.length_nil]; omega))
                    · skip
                      repeat (first | refine AwOps.nil ?_ | refine AwSch.nil ?_ | refine Aw.seq ?_ | refine Aw.region ?_ | refine Aw.block ?_ | refine Aw.skip ?_ | refine Aw.exit ?_ | refine Aw.condT rfl ?_ | refine Aw.condF rfl ?_)
                      refine AwOps.v hT rfl ?_
                      refine AwOps.v hT rfl ?_
                      repeat (first | refine AwOps.nil ?_ | refine AwSch.nil ?_ | refine Aw.seq ?_ | refine Aw.region ?_ | refine Aw.block ?_ | refine Aw.skip ?_ | refine Aw.exit ?_ | refine Aw.condT rfl ?_ | refine Aw.condF rfl ?_)
                      refine Aw.tst rfl (fun hb131 => ?_) (fun hb131 => ?_)
                      · skip
                        repeat (first | refine AwOps.nil ?_ | refine AwSch.nil ?_ | refine Aw.seq ?_ | refine Aw.region ?_ | refine Aw.block ?_ | refine Aw.skip ?_ | refine Aw.exit ?_ | refine Aw.condT rfl ?_ | refine Aw.condF rfl ?_)
                        refine AwOps.v hT rfl ?_
                        refine AwOps.v hT rfl ?_
                        refine AwOps.cl (F37 _) [1000] rfl ⟨⟨1000, rfl, rfl⟩, trivial⟩ ⟨rfl, trivial⟩ rfl ?_   -- certpathmade.General
                        rintro _ _ ⟨g15, d15, rfl, rfl, hg15⟩
                        refine AwOps.v hT rfl ?_
                        refine AwOps.cl (F37 _) [1000] rfl ⟨⟨1000, rfl, rfl⟩, trivial⟩ ⟨rfl, trivial⟩ rfl ?_   -- certpathmade.General
                        rintro _ _ ⟨g16, d16, rfl, rfl, hg16⟩
                        refine AwOps.lit hT rfl ?_
                        refine AwOps.turn (Tn.fz 138 rfl rfl (by first | rfl | (simp; done)) rfl) ?_
                        refine AwOps.turn (Less.say (t := 138) (B := .one (.p (.sl (List.map eGn [⟨_, _, _⟩, ⟨_, _, _⟩])))) rfl rfl) ?_
                        refine AwOps.v hT rfl ?_
                        refine AwOps.cl (F10 _ _ (by first | omega | (simp only [w64] at *; omega) | (simp [w64] at *; omega)) (by first | omega | (simp only [w64] at *; omega) | (simp [w64] at *; omega))) [1000] rfl ⟨⟨1000, rfl, rfl⟩, ⟨rfl, rfl⟩, trivial⟩ ⟨rfl, trivial⟩ rfl ?_   -- certpathmade.Deck).Next
                        rintro _ _ ⟨v17, d17, rfl, rfl, hv17, hw17⟩
                        refine AwOps.v hT rfl ?_
                        first | refine AwOps.nm 141 rfl (by omega) (by omega) ?_ | skip
                        refine AwOps.slp hT rfl (by first | omega | (simp only [w64] at *; omega) | (simp [w64] at *; omega)) (by first | omega | (simp only [List.length_cons, List.length_nil, List.length_map]; omega) | (simp only [List.length_cons, List.length_nil, List.length_map, w64] at *; omega) | (simp [w64] at *; omega)) ?_
                        refine AwOps.turn (Less.say (t := 142) (B := .one (.p (.sl (List.map eGn (List.take _ _))))) rfl (by rw [← List.map_take])) ?_
                        refine AwOps.v hT rfl ?_
                        refine AwOps.v hT rfl ?_
                        refine AwOps.eff hT rfl ?_
                        repeat (first | refine AwOps.nil ?_ | refine AwSch.nil ?_ | refine Aw.seq ?_ | refine Aw.region ?_ | refine Aw.block ?_ | refine Aw.skip ?_ | refine Aw.exit ?_ | refine Aw.condT rfl ?_ | refine Aw.condF rfl ?_)
                        refine ⟨_, [_, _], rfl, ⟨rfl, rfl, trivial⟩, ?_⟩
                        obtain ⟨o1, o2, o3, o4, o5, o6, o7, o8⟩ := hok
                        dsimp only at o1 o2 o3 o4 o5 o6 o7 o8
                        refine ⟨_, ⟨_, _, _, _, _, _, _, ⟨_, _, _⟩, ⟨_, _, _, _, _, _, _, _, _, _, _, _, ⟨_, _⟩, _, _, _, _, _⟩, _⟩, rfl, rfl, ⟨?_, ?_, ?_, ?_, ?_, ?_, ?_, ?_⟩, rfl, rfl, fun he => ?_⟩
                        all_goals dsimp only
                        all_goals (first | (obtain ⟨e1, e2, e3⟩ := he; dsimp only at e1 e2 e3; exact ⟨by dsimp only; omega, by dsimp only; omega, by dsimp only; omega⟩) | assumption | exact (by assumption : _ ∧ _).1 | exact okGs_take _ (okGs_two (by assumption) (by assumption)) | (simp; done) | omega | (simp only [List.length_append, List.length_cons, List.length_nil]; omega))
                      · skip
                        repeat (first | refine AwOps.nil ?_ | refine AwSch.nil ?_ | refine Aw.seq ?_ | refine Aw.region ?_ | refine Aw.block ?_ | refine Aw.skip ?_ | refine Aw.exit ?_ | refine Aw.condT rfl ?_ | refine Aw.condF rfl ?_)
                        refine AwOps.v hT rfl ?_
                        refine AwOps.v hT rfl ?_
                        repeat (first | refine AwOps.nil ?_ | refine AwSch.nil ?_ | refine Aw.seq ?_ | refine Aw.region ?_ | refine Aw.block ?_ | refine Aw.skip ?_ | refine Aw.exit ?_ | refine Aw.condT rfl ?_ | refine Aw.condF rfl ?_)
                        refine Aw.tst rfl (fun hb145 => ?_) (fun hb145 => ?_)
                        · skip
                          repeat (first | refine AwOps.nil ?_ | refine AwSch.nil ?_ | refine Aw.seq ?_ | refine Aw.region ?_ | refine Aw.block ?_ | refine Aw.skip ?_ | refine Aw.exit ?_ | refine Aw.condT rfl ?_ | refine Aw.condF rfl ?_)
                          iterate 3 refine AwOps.v hT rfl ?_
                          refine AwOps.cl (F42 _) [1000] rfl ⟨⟨1000, rfl, rfl⟩, trivial⟩ ⟨rfl, trivial⟩ rfl ?_   -- certpathmade.Subtrees
                          rintro _ _ ⟨s18, d18, rfl, rfl, hs18⟩
                          refine AwOps.v hT rfl ?_
                          refine AwOps.v hT rfl ?_
                          refine AwOps.eff hT rfl ?_
                          refine AwOps.v hT rfl ?_
                          refine AwOps.v hT rfl ?_
                          refine AwOps.eff hT rfl ?_
                          repeat (first | refine AwOps.nil ?_ | refine AwSch.nil ?_ | refine Aw.seq ?_ | refine Aw.region ?_ | refine Aw.block ?_ | refine Aw.skip ?_ | refine Aw.exit ?_ | refine Aw.condT rfl ?_ | refine Aw.condF rfl ?_)
                          refine ⟨_, [_, _], rfl, ⟨rfl, rfl, trivial⟩, ?_⟩
                          obtain ⟨o1, o2, o3, o4, o5, o6, o7, o8⟩ := hok
                          dsimp only at o1 o2 o3 o4 o5 o6 o7 o8
                          refine ⟨_, ⟨_, _, _, _, _, _, _, ⟨_, _, _⟩, ⟨_, _, _, _, _, _, _, _, _, _, _, _, ⟨_, _⟩, _, _, _, _, _⟩, _⟩, rfl, rfl, ⟨?_, ?_, ?_, ?_, ?_, ?_, ?_, ?_⟩, rfl, rfl, fun he => ?_⟩
                          all_goals dsimp only
                          all_goals (first | (obtain ⟨e1, e2, e3⟩ := he; dsimp only at e1 e2 e3; exact ⟨by dsimp only; omega, by dsimp only; omega, by dsimp only; omega⟩) | assumption | exact (by assumption : _ ∧ _).1 | exact okGs_take _ (okGs_two (by assumption) (by assumption)) | (simp; done) | omega | (simp only [List.length_append, List.length_cons, List.length_nil]; omega))
                        · skip
                          repeat (first | refine AwOps.nil ?_ | refine AwSch.nil ?_ | refine Aw.seq ?_ | refine Aw.region ?_ | refine Aw.block ?_ | refine Aw.skip ?_ | refine Aw.exit ?_ | refine Aw.condT rfl ?_ | refine Aw.condF rfl ?_)
                          refine AwOps.v hT rfl ?_
                          refine AwOps.v hT rfl ?_
                          repeat (first | refine AwOps.nil ?_ | refine AwSch.nil ?_ | refine Aw.seq ?_ | refine Aw.region ?_ | refine Aw.block ?_ | refine Aw.skip ?_ | refine Aw.exit ?_ | refine Aw.condT rfl ?_ | refine Aw.condF rfl ?_)
                          refine Aw.tst rfl (fun hb155 => ?_) (fun hb155 => ?_)
                          · skip
                            repeat (first | refine AwOps.nil ?_ | refine AwSch.nil ?_ | refine Aw.seq ?_ | refine Aw.region ?_ | refine Aw.block ?_ | refine Aw.skip ?_ | refine Aw.exit ?_ | refine Aw.condT rfl ?_ | refine Aw.condF rfl ?_)
                            refine AwOps.v hT rfl ?_
                            refine AwOps.lit hT rfl ?_
                            refine AwOps.turn (Tn.fz 158 rfl rfl (by first | rfl | (simp; done)) rfl) ?_
                            refine AwOps.turn (Less.say (t := 158) (B := .one (.p (.sl (List.map eStr [_, _, _])))) rfl rfl) ?_
                            refine AwOps.v hT rfl ?_
                            refine AwOps.cl (F10 _ _ (by first | omega | (simp only [w64] at *; omega) | (simp [w64] at *; omega)) (by first | omega | (simp only [w64] at *; omega) | (simp [w64] at *; omega))) [1000] rfl ⟨⟨1000, rfl, rfl⟩, ⟨rfl, rfl⟩, trivial⟩ ⟨rfl, trivial⟩ rfl ?_   -- certpathmade.Deck).Next
                            rintro _ _ ⟨v19, d19, rfl, rfl, hv19, hw19⟩
                            refine AwOps.imI hT rfl (by first | omega | (simp only [w64] at *; omega) | (simp [w64] at *; omega)) (by first | omega | (simp only [List.length_cons, List.length_nil, List.length_map]; omega) | (simp only [List.length_cons, List.length_nil, List.length_map, w64] at *; omega) | (simp [w64] at *; omega)) rfl ?_
                            refine AwOps.v hT rfl ?_
                            refine AwOps.lit hT rfl ?_
                            refine AwOps.turn (Tn.fz 163 rfl rfl (by first | rfl | (simp; done)) rfl) ?_
                            refine AwOps.turn (Less.say (t := 163) (B := .one (.p (.sl (List.map eStr [_])))) rfl rfl) ?_
                            refine AwOps.v hT rfl ?_
                            refine AwOps.v hT rfl ?_
                            refine AwOps.eff hT rfl ?_
                            repeat (first | refine AwOps.nil ?_ | refine AwSch.nil ?_ | refine Aw.seq ?_ | refine Aw.region ?_ | refine Aw.block ?_ | refine Aw.skip ?_ | refine Aw.exit ?_ | refine Aw.condT rfl ?_ | refine Aw.condF rfl ?_)
                            refine ⟨_, [_, _], rfl, ⟨rfl, rfl, trivial⟩, ?_⟩
                            obtain ⟨o1, o2, o3, o4, o5, o6, o7, o8⟩ := hok
                            dsimp only at o1 o2 o3 o4 o5 o6 o7 o8
                            refine ⟨_, ⟨_, _, _, _, _, _, _, ⟨_, _, _⟩, ⟨_, _, _, _, _, _, _, _, _, _, _, _, ⟨_, _⟩, _, _, _, _, _⟩, _⟩, rfl, rfl, ⟨?_, ?_, ?_, ?_, ?_, ?_, ?_, ?_⟩, rfl, rfl, fun he => ?_⟩
                            all_goals dsimp only
                            all_goals (first | (obtain ⟨e1, e2, e3⟩ := he; dsimp only at e1 e2 e3; exact ⟨by dsimp only; omega, by dsimp only; omega, by dsimp only; omega⟩) | assumption | exact (by assumption : _ ∧ _).1 | exact okGs_take _ (okGs_two (by assumption) (by assumption)) | (simp; done) | omega | (simp only [List.length_append, List.length_cons, List.length_nil]; omega))
                          · skip
                            repeat (first | refine AwOps.nil ?_ | refine AwSch.nil ?_ | refine Aw.seq ?_ | refine Aw.region ?_ | refine Aw.block ?_ | refine Aw.skip ?_ | refine Aw.exit ?_ | refine Aw.condT rfl ?_ | refine Aw.condF rfl ?_)
                            refine AwOps.v hT rfl ?_
                            refine AwOps.v hT rfl ?_
                            repeat (first | refine AwOps.nil ?_ | refine AwSch.nil ?_ | refine Aw.seq ?_ | refine Aw.region ?_ | refine Aw.block ?_ | refine Aw.skip ?_ | refine Aw.exit ?_ | refine Aw.condT rfl ?_ | refine Aw.condF rfl ?_)
                            refine Aw.tst rfl (fun hb166 => ?_) (fun hb166 => ?_)
                            · skip
                              repeat (first | refine AwOps.nil ?_ | refine AwSch.nil ?_ | refine Aw.seq ?_ | refine Aw.region ?_ | refine Aw.block ?_ | refine Aw.skip ?_ | refine Aw.exit ?_ | refine Aw.condT rfl ?_ | refine Aw.condF rfl ?_)
                              refine AwOps.v hT rfl ?_
                              refine AwOps.v hT rfl ?_
                              refine AwOps.cl (F71 _) [1000] rfl ⟨⟨1000, rfl, rfl⟩, trivial⟩ ⟨rfl, trivial⟩ rfl ?_   -- certpathmade2.Points
                              rintro _ _ ⟨l20, d20, rfl, rfl, hl20⟩
                              refine AwOps.v hT rfl ?_
                              refine AwOps.v hT rfl ?_
                              refine AwOps.eff hT rfl ?_
                              repeat (first | refine AwOps.nil ?_ | refine AwSch.nil ?_ | refine Aw.seq ?_ | refine Aw.region ?_ | refine Aw.block ?_ | refine Aw.skip ?_ | refine Aw.exit ?_ | refine Aw.condT rfl ?_ | refine Aw.condF rfl ?_)
                              refine ⟨_, [_, _], rfl, ⟨rfl, rfl, trivial⟩, ?_⟩
                              obtain ⟨o1, o2, o3, o4, o5, o6, o7, o8⟩ := hok
                              dsimp only at o1 o2 o3 o4 o5 o6 o7 o8
                              refine ⟨_, ⟨_, _, _, _, _, _, _, ⟨_, _, _⟩, ⟨_, _, _, _, _, _, _, _, _, _, _, _, ⟨_, _⟩, _, _, _, _, _⟩, _⟩, rfl, rfl, ⟨?_, ?_, ?_, ?_, ?_, ?_, ?_, ?_⟩, rfl, rfl, fun he => ?_⟩
                              all_goals dsimp only
                              all_goals (first | (obtain ⟨e1, e2, e3⟩ := he; dsimp only at e1 e2 e3; exact ⟨by dsimp only; omega, by dsimp only; omega, by dsimp only; omega⟩) | assumption | exact (by assumption : _ ∧ _).1 | exact okGs_take _ (okGs_two (by assumption) (by assumption)) | (simp; done) | omega | (simp only [List.length_append, List.length_cons, List.length_nil]; omega))
                            · skip
                              repeat (first | refine AwOps.nil ?_ | refine AwSch.nil ?_ | refine Aw.seq ?_ | refine Aw.region ?_ | refine Aw.block ?_ | refine Aw.skip ?_ | refine Aw.exit ?_ | refine Aw.condT rfl ?_ | refine Aw.condF rfl ?_)
                              refine AwOps.v hT rfl ?_
                              refine AwOps.cl (F10 _ _ (by first | omega | (simp only [w64] at *; omega) | (simp [w64] at *; omega)) (by first | omega | (simp only [w64] at *; omega) | (simp [w64] at *; omega))) [1000] rfl ⟨⟨1000, rfl, rfl⟩, ⟨rfl, rfl⟩, trivial⟩ ⟨rfl, trivial⟩ rfl ?_   -- certpathmade.Deck).Next
                              rintro _ _ ⟨v21, d21, rfl, rfl, hv21, hw21⟩
                              refine AwOps.v hT rfl ?_
                              repeat (first | refine AwOps.nil ?_ | refine AwSch.nil ?_ | refine Aw.seq ?_ | refine Aw.region ?_ | refine Aw.block ?_ | refine Aw.skip ?_ | refine Aw.exit ?_ | refine Aw.condT rfl ?_ | refine Aw.condF rfl ?_)
                              refine Aw.tst rfl (fun hb13 => ?_) (fun hb13 => ?_)
                              · skip
                                repeat (first | refine AwOps.nil ?_ | refine AwSch.nil ?_ | refine Aw.seq ?_ | refine Aw.region ?_ | refine Aw.block ?_ | refine Aw.skip ?_ | refine Aw.exit ?_ | refine Aw.condT rfl ?_ | refine Aw.condF rfl ?_)
                                refine AwOps.v hT rfl ?_
                                refine AwOps.v hT rfl ?_
                                refine AwOps.cl (F10 _ _ (by first | omega | (simp only [w64] at *; omega) | (simp [w64] at *; omega)) (by first | omega | (simp only [w64] at *; omega) | (simp [w64] at *; omega))) [1000] rfl ⟨⟨1000, rfl, rfl⟩, ⟨rfl, rfl⟩, trivial⟩ ⟨rfl, trivial⟩ rfl ?_   -- certpathmade.Deck).Next
                                rintro _ _ ⟨v22, d22, rfl, rfl, hv22, hw22⟩
                                refine AwOps.v hT rfl ?_
                                refine AwOps.build hT rfl ?_
                                refine AwOps.turn (Less.say (t := 18) (B := .agg [_, _, _]) rfl rfl) ?_
                                refine AwOps.lit hT rfl ?_
                                refine AwOps.turn (Tn.fz 19 rfl rfl (by first | rfl | (simp; done)) rfl) ?_
                                refine AwOps.turn (Less.say (t := 19) (B := .one (.p (.sl (List.map eExt [⟨_, _, _⟩])))) rfl rfl) ?_
                                refine AwOps.v hT rfl ?_
                                refine AwOps.v hT rfl ?_
                                refine AwOps.eff hT rfl ?_
                                repeat (first | refine AwOps.nil ?_ | refine AwSch.nil ?_ | refine Aw.seq ?_ | refine Aw.region ?_ | refine Aw.block ?_ | refine Aw.skip ?_ | refine Aw.exit ?_ | refine Aw.condT rfl ?_ | refine Aw.condF rfl ?_)
                                refine ⟨_, [_, _], rfl, ⟨rfl, rfl, trivial⟩, ?_⟩
                                obtain ⟨o1, o2, o3, o4, o5, o6, o7, o8⟩ := hok
                                dsimp only at o1 o2 o3 o4 o5 o6 o7 o8
                                refine ⟨_, ⟨_, _, _, _, _, _, _, ⟨_, _, _⟩, ⟨_, _, _, _, _, _, _, _, _, _, _, _, ⟨_, _⟩, _, _, _, _, _⟩, _⟩, rfl, rfl, ⟨?_, ?_, ?_, ?_, ?_, ?_, ?_, ?_⟩, rfl, rfl, fun he => ?_⟩
                                all_goals dsimp only
                                all_goals (first | (obtain ⟨e1, e2, e3⟩ := he; dsimp only at e1 e2 e3; exact ⟨by dsimp only; omega, by dsimp only; omega, by dsimp only; omega⟩) | assumption | exact (by assumption : _ ∧ _).1 | exact okGs_take _ (okGs_two (by assumption) (by assumption)) | (simp; done) | omega | (simp only [List.length_append, List.length_cons, List.length_nil]; omega))
                              · skip
                                repeat (first | refine AwOps.nil ?_ | refine AwSch.nil ?_ | refine Aw.seq ?_ | refine Aw.region ?_ | refine Aw.block ?_ | refine Aw.skip ?_ | refine Aw.exit ?_ | refine Aw.condT rfl ?_ | refine Aw.condF rfl ?_)
                                iterate 9 refine AwOps.v hT rfl ?_
                                refine AwOps.eff hT rfl ?_
                                refine AwOps.v hT rfl ?_
                                refine AwOps.v hT rfl ?_
                                refine AwOps.eff hT rfl ?_
                                repeat (first | refine AwOps.nil ?_ | refine AwSch.nil ?_ | refine Aw.seq ?_ | refine Aw.region ?_ | refine Aw.block ?_ | refine Aw.skip ?_ | refine Aw.exit ?_ | refine Aw.condT rfl ?_ | refine Aw.condF rfl ?_)
                                refine ⟨_, [_, _], rfl, ⟨rfl, rfl, trivial⟩, ?_⟩
                                obtain ⟨o1, o2, o3, o4, o5, o6, o7, o8⟩ := hok
                                dsimp only at o1 o2 o3 o4 o5 o6 o7 o8
                                refine ⟨_, ⟨_, _, _, _, _, _, _, ⟨_, _, _⟩, ⟨_, _, _, _, _, _, _, _, _, _, _, _, ⟨_, _⟩, _, _, _, _, _⟩, _⟩, rfl, rfl, ⟨?_, ?_, ?_, ?_, ?_, ?_, ?_, ?_⟩, rfl, rfl, fun he => ?_⟩
                                all_goals dsimp only
                                all_goals (first | (obtain ⟨e1, e2, e3⟩ := he; dsimp only at e1 e2 e3; exact ⟨by dsimp only; omega, by dsimp only; omega, by dsimp only; omega⟩) | assumption | exact (by assumption : _ ∧ _).1 | exact okGs_take _ (okGs_two (by assumption) (by assumption)) | (simp; done) | omega | (simp only [List.length_append, List.length_cons, List.length_nil]; omega))
-- f19 certpath/certpathmade2.CertFields
theorem F19 (d : Dk) (i j : Int) (ca : Bool) (hi : 0 ≤ i) (hj : 0 ≤ j) : Fn Tryz.prog 6 [.ptr 0 0, .pv (sc (.int .i64 i)), .pv (sc (.int .i64 j)), .pv (sc (.bool ca))] [(59, eDk d)] (fun r H' => ∃ (c : Cert) (d' : Dk), r = .agg (eCert c) ∧ H' = [eDk d'] ∧ okI c.info ∧ (∃ v, 0 ≤ v ∧ c.issuer = authS v) ∧ (∃ v, 0 ≤ v ∧ c.subject = authS v) ∧ okE c.info) := by
  refine Fn.intro (rs := [.cell 8 46]) hT Tryz.func6 (by kernel_rfl) rfl rfl rfl rfl fun C => ?_
  repeat (first | refine AwOps.nil ?_ | refine AwSch.nil ?_ | refine Aw.seq ?_ | refine Aw.region ?_ | refine Aw.block ?_ | refine Aw.skip ?_ | refine Aw.exit ?_ | refine Aw.condT rfl ?_ | refine Aw.condF rfl ?_)
  refine AwOps.eff hT rfl ?_
  repeat (first | refine AwOps.nil ?_ | refine AwSch.nil ?_ | refine Aw.seq ?_ | refine Aw.region ?_ | refine Aw.block ?_ | refine Aw.skip ?_ | refine Aw.exit ?_ | refine Aw.condT rfl ?_ | refine Aw.condF rfl ?_)
  refine AwOps.v hT rfl ?_
  refine AwOps.cl (F10 _ _ (by first | omega | (simp only [w64] at *; omega) | (simp [w64] at *; omega)) (by first | omega | (simp only [w64] at *; omega) | (simp [w64] at *; omega))) [1000] rfl ⟨⟨1000, rfl, rfl⟩, ⟨rfl, rfl⟩, trivial⟩ ⟨rfl, trivial⟩ rfl ?_   -- certpathmade.Deck).Next
  rintro _ _ ⟨v1, d1, rfl, rfl, hv1, hw1⟩
  refine AwOps.v hT rfl ?_
  first | refine AwOps.nm 14 rfl (by omega) (by omega) ?_ | skip
  refine AwOps.v hT rfl ?_
  refine AwOps.cl (F33 _ (by first | omega | (simp only [w64] at *; omega) | (simp [w64] at *; omega))) [] rfl ⟨⟨rfl, rfl⟩, trivial⟩ trivial rfl ?_   -- certpathmade2.Named
  rintro _ _ ⟨v2, hv2, rfl⟩
  have hw2 := namedL_nn _ hv2
  refine AwOps.cl (F25 _ (by first | omega | (simp only [w64] at *; omega) | (simp [w64] at *; omega))) [] rfl ⟨⟨rfl, rfl⟩, trivial⟩ trivial rfl ?_   -- certpathmade.Authority
  rintro _ _ rfl
  refine AwOps.v hT rfl ?_
  refine AwOps.cl (F33 _ (by first | omega | (simp only [w64] at *; omega) | (simp [w64] at *; omega))) [] rfl ⟨⟨rfl, rfl⟩, trivial⟩ trivial rfl ?_   -- certpathmade2.Named
  rintro _ _ ⟨v4, hv4, rfl⟩
  have hw4 := namedL_nn _ hv4
  refine AwOps.cl (F25 _ (by first | omega | (simp only [w64] at *; omega) | (simp [w64] at *; omega))) [] rfl ⟨⟨rfl, rfl⟩, trivial⟩ trivial rfl ?_   -- certpathmade.Authority
  rintro _ _ rfl
  refine AwOps.v hT rfl ?_
  refine AwOps.cl (F34 _ (by omega)) [] rfl ⟨⟨rfl, rfl⟩, trivial⟩ trivial rfl ?_   -- certpathmade2.Public
  rintro _ _ ⟨k6, rfl⟩
  refine AwOps.cl (F44) [] rfl trivial trivial rfl ?_   -- certpathref14.None
  rintro _ _ rfl
  refine AwOps.turn (Less.say (t := 23) (B := .agg [.v (.bool false), .v (.bool false), .v (.int .i64 (-1)), .v (.int .i64 0), .sl (List.map eStr []), .sl (List.map eStr []), .sl (List.map eMapp []), .v (.int .i64 (-1)), .v (.int .i64 (-1)), .v (.int .i64 (-1)), .sl (List.map eGn []), .v (.bool false), .sl (List.map eGn []), .sl (List.map eGn []), .v (.string ⟨#[]⟩), .v (.string ⟨#[]⟩), .sl (List.map ePoint []), .sl (List.map ePoint []), .sl (List.map eExt [])]) rfl rfl) ?_
  refine AwOps.build hT rfl ?_
  refine AwOps.turn (Less.say (t := 24) (B := .agg [.v (.string ⟨#[]⟩), .v (.string ⟨#[]⟩), _, _, _, .v (.int .i64 0), .v (.int .i64 0), _, _, _, _, _, _, _, _, _, _, _, _, _, _, _, _, _, _, _, _, _, _, .v (.string ⟨#[]⟩)]) rfl rfl) ?_
  refine AwOps.eff hT rfl ?_
  refine AwOps.eff hT rfl ?_
  repeat (first | refine AwOps.nil ?_ | refine AwSch.nil ?_ | refine Aw.seq ?_ | refine Aw.region ?_ | refine Aw.block ?_ | refine Aw.skip ?_ | refine Aw.exit ?_ | refine Aw.condT rfl ?_ | refine Aw.condF rfl ?_)
  refine AwOps.v hT rfl ?_
  refine AwOps.cl (F45 _) [1000] rfl ⟨⟨1000, rfl, rfl⟩, trivial⟩ ⟨rfl, trivial⟩ rfl ?_   -- certpathmade2.times
  rintro _ _ ⟨x8, y8, d8, rfl, rfl⟩
  iterate 4 refine AwOps.v hT rfl ?_
  refine AwOps.eff hT rfl ?_
  refine AwOps.v hT rfl ?_
  refine AwOps.eff hT rfl ?_
  repeat (first | refine AwOps.nil ?_ | refine AwSch.nil ?_ | refine Aw.seq ?_ | refine Aw.region ?_ | refine Aw.block ?_ | refine Aw.skip ?_ | refine Aw.exit ?_ | refine Aw.condT rfl ?_ | refine Aw.condF rfl ?_)
  refine AwOps.v hT rfl ?_
  refine AwOps.v hT rfl ?_
  repeat (first | refine AwOps.nil ?_ | refine AwSch.nil ?_ | refine Aw.seq ?_ | refine Aw.region ?_ | refine Aw.block ?_ | refine Aw.skip ?_ | refine Aw.exit ?_ | refine Aw.condT rfl ?_ | refine Aw.condF rfl ?_)
  iterate 6 refine AwOps.v hT rfl ?_
  refine AwOps.eff hT rfl ?_
  refine AwOps.v hT rfl ?_
  refine AwOps.v hT rfl ?_
  refine AwOps.eff hT rfl ?_
  repeat (first | refine AwOps.nil ?_ | refine AwSch.nil ?_ | refine Aw.seq ?_ | refine Aw.region ?_ | refine Aw.block ?_ | refine Aw.skip ?_ | refine Aw.exit ?_ | refine Aw.condT rfl ?_ | refine Aw.condF rfl ?_)
  refine AwOps.v hT rfl ?_
  refine AwOps.cl (F10 _ _ (by first | omega | (simp only [w64] at *; omega) | (simp [w64] at *; omega)) (by first | omega | (simp only [w64] at *; omega) | (simp [w64] at *; omega))) [1000] rfl ⟨⟨1000, rfl, rfl⟩, ⟨rfl, rfl⟩, trivial⟩ ⟨rfl, trivial⟩ rfl ?_   -- certpathmade.Deck).Next
  rintro _ _ ⟨v9, d9, rfl, rfl, hv9, hw9⟩
  refine AwOps.v hT rfl ?_
  repeat (first | refine AwOps.nil ?_ | refine AwSch.nil ?_ | refine Aw.seq ?_ | refine Aw.region ?_ | refine Aw.block ?_ | refine Aw.skip ?_ | refine Aw.exit ?_ | refine Aw.condT rfl ?_ | refine Aw.condF rfl ?_)
  refine Aw.lp (ι := Int × Cert × Dk) (n := 59) [(0, _), (8, _), (9, _), (10, _)] [(8, _)] (fun gq => [(11, sc (.int .i64 gq.1))]) (fun gq => [(9, .box ⟨46, eCert gq.2.1, []⟩), (1000, .box ⟨59, eDk gq.2.2, []⟩)]) (fun gq => (0 ≤ gq.1 ∧ gq.1 ≤ 5) ∧ okI gq.2.1.info ∧ (∃ v, 0 ≤ v ∧ gq.2.1.issuer = authS v) ∧ (∃ v, 0 ≤ v ∧ gq.2.1.subject = authS v) ∧ okE gq.2.1.info) (fun gq => gq.1.toNat) (_, ⟨_, _, _, _, _, _, _, ⟨_, _, _⟩, ⟨_, _, _, _, _, _, _, _, _, _, _, _, ⟨_, _⟩, _, _, _, _, _⟩, _⟩, _) ?ok1 (Less.tn ⟨rfl, ⟨rfl, rfl, rfl, rfl, rfl, trivial⟩, ⟨rfl, rfl, rfl, trivial⟩⟩) ?bd1
  case ok1 =>
    try dsimp only
    exact ⟨by omega, ⟨Nat.zero_le _, Nat.zero_le _, Nat.zero_le _, Nat.zero_le _, okGs_nil, ⟨okGs_nil, okGs_nil⟩, okPts_nil, okPts_nil⟩, ⟨_, by assumption, rfl⟩, ⟨_, by assumption, rfl⟩, ⟨Int.le_refl _, Int.le_refl _, Int.le_refl _⟩⟩
  case bd1 =>
    rintro ⟨k11, x9, x1000⟩ hi1
    try dsimp only at hi1
    show Aw _ _ _ ⟨59, [(11, sc (.int .i64 k11))] ++ [(0, _), (8, _), (9, _), (10, _)], [(9, .box ⟨46, eCert x9, []⟩), (1000, .box ⟨59, eDk x1000, []⟩)] ++ [(8, _)]⟩ _
    have hok9 := hi1.2.1
    repeat (first | refine AwOps.nil ?_ | refine AwSch.nil ?_ | refine Aw.seq ?_ | refine Aw.region ?_ | refine Aw.block ?_ | refine Aw.skip ?_ | refine Aw.exit ?_ | refine Aw.condT rfl ?_ | refine Aw.condF rfl ?_)
    refine AwOps.v hT rfl ?_
    refine AwOps.v hT rfl ?_
    repeat (first | refine AwOps.nil ?_ | refine AwSch.nil ?_ | refine Aw.seq ?_ | refine Aw.region ?_ | refine Aw.block ?_ | refine Aw.skip ?_ | refine Aw.exit ?_ | refine Aw.condT rfl ?_ | refine Aw.condF rfl ?_)
    refine Aw.tst rfl (fun hb44 => ?_) (fun hb44 => ?_)
    · skip
      have hk : 0 < k11 := by simpa using hb44
      repeat (first | refine AwOps.nil ?_ | refine AwSch.nil ?_ | refine Aw.seq ?_ | refine Aw.region ?_ | refine Aw.block ?_ | refine Aw.skip ?_ | refine Aw.exit ?_ | refine Aw.condT rfl ?_ | refine Aw.condF rfl ?_)
      refine AwOps.v hT rfl ?_
      refine AwOps.v hT rfl ?_
      refine AwOps.cl (F46 _ _ (by assumption)) [1000, 9] rfl ⟨⟨1000, rfl, rfl⟩, ⟨9, rfl, rfl⟩, trivial⟩ ⟨rfl, rfl, trivial⟩ rfl ?_   -- certpathmade2.extend
      rintro _ _ ⟨d10, c10, rfl, rfl, ho10, hi10, hs10, he10⟩
      repeat (first | refine AwOps.nil ?_ | refine AwSch.nil ?_ | refine Aw.seq ?_ | refine Aw.region ?_ | refine Aw.block ?_ | refine Aw.skip ?_ | refine Aw.exit ?_ | refine Aw.condT rfl ?_ | refine Aw.condF rfl ?_)
      refine AwOps.v hT rfl ?_
      refine AwOps.v hT rfl ?_
      first | refine AwOps.nm 46 rfl (by omega) (by omega) ?_ | skip
      refine AwOps.v hT rfl ?_
      repeat (first | refine AwOps.nil ?_ | refine AwSch.nil ?_ | refine Aw.seq ?_ | refine Aw.region ?_ | refine Aw.block ?_ | refine Aw.skip ?_ | refine Aw.exit ?_ | refine Aw.condT rfl ?_ | refine Aw.condF rfl ?_)
      refine ⟨(_, _, _), ?nx1, ?mu1, Less.tn ⟨rfl, ⟨rfl, rfl, rfl, rfl, rfl, trivial⟩, ⟨rfl, rfl, rfl, trivial⟩⟩⟩
      case nx1 =>
        try dsimp only
        exact ⟨by omega, by assumption, by rw [‹Cert.issuer _ = _›]; exact hi1.2.2.1, by rw [‹Cert.subject _ = _›]; exact hi1.2.2.2.1, by apply_assumption; exact hi1.2.2.2.2⟩
      case mu1 =>
        try dsimp only
        first | omega | (simp only [w64] at *; omega) | (simp [w64] at *; omega)
    · skip
      repeat (first | refine AwOps.nil ?_ | refine AwSch.nil ?_ | refine Aw.seq ?_ | refine Aw.region ?_ | refine Aw.block ?_ | refine Aw.skip ?_ | refine Aw.exit ?_ | refine Aw.condT rfl ?_ | refine Aw.condF rfl ?_)
      iterate 5 refine AwOps.v hT rfl ?_
      repeat (first | refine AwOps.nil ?_ | refine AwSch.nil ?_ | refine Aw.seq ?_ | refine Aw.region ?_ | refine Aw.block ?_ | refine Aw.skip ?_ | refine Aw.exit ?_ | refine Aw.condT rfl ?_ | refine Aw.condF rfl ?_)
      refine Aw.tst rfl (fun hb54 => ?_) (fun hb54 => ?_)
      · skip
        repeat (first | refine AwOps.nil ?_ | refine AwSch.nil ?_ | refine Aw.seq ?_ | refine Aw.region ?_ | refine Aw.block ?_ | refine Aw.skip ?_ | refine Aw.exit ?_ | refine Aw.condT rfl ?_ | refine Aw.condF rfl ?_)
        iterate 3 refine AwOps.v hT rfl ?_
        refine AwOps.eff hT rfl ?_
        repeat (first | refine AwOps.nil ?_ | refine AwSch.nil ?_ | refine Aw.seq ?_ | refine Aw.region ?_ | refine Aw.block ?_ | refine Aw.skip ?_ | refine Aw.exit ?_ | refine Aw.condT rfl ?_ | refine Aw.condF rfl ?_)
        refine AwOps.v hT rfl ?_
        refine AwOps.eff hT rfl ?_
        repeat (first | refine AwOps.nil ?_ | refine AwSch.nil ?_ | refine Aw.seq ?_ | refine Aw.region ?_ | refine Aw.block ?_ | refine Aw.skip ?_ | refine Aw.exit ?_ | refine Aw.condT rfl ?_ | refine Aw.condF rfl ?_)
        refine Aw.ret ?_
        refine ⟨_, [_], rfl, ⟨rfl, trivial⟩, ?_⟩
        first
          | exact ⟨x9, _, rfl, rfl, hi1.2⟩
          | exact ⟨{ x9 with info := { x9.info with pathLen := -1 } }, _, rfl, rfl, hi1.2⟩
      · skip
        repeat (first | refine AwOps.nil ?_ | refine AwSch.nil ?_ | refine Aw.seq ?_ | refine Aw.region ?_ | refine Aw.block ?_ | refine Aw.skip ?_ | refine Aw.exit ?_ | refine Aw.condT rfl ?_ | refine Aw.condF rfl ?_)
        refine AwOps.v hT rfl ?_
        refine AwOps.eff hT rfl ?_
        repeat (first | refine AwOps.nil ?_ | refine AwSch.nil ?_ | refine Aw.seq ?_ | refine Aw.region ?_ | refine Aw.block ?_ | refine Aw.skip ?_ | refine Aw.exit ?_ | refine Aw.condT rfl ?_ | refine Aw.condF rfl ?_)
        refine Aw.ret ?_
        refine ⟨_, [_], rfl, ⟨rfl, trivial⟩, ?_⟩
        first
          | exact ⟨x9, _, rfl, rfl, hi1.2⟩
          | exact ⟨{ x9 with info := { x9.info with pathLen := -1 } }, _, rfl, rfl, hi1.2⟩
/-- Queries, states that are not too long. -/
def okQ (q : Query) : Prop := q.policies.length ≤ 1000 ∧ okGs q.names ∧ q.issuers.length ≤ 1000 ∧ ∀ a ∈ q.issuers, okNm a.name
def okP (s : Progress) : Prop := okNm s.issuer ∧ s.cons.length ≤ 1000 ∧ ∀ x ∈ s.cons, okSub x
theorem okGs_one {a : Gn} (ha : okG a) : okGs [a] := ⟨by simp, fun g hg => by simp at hg; rcases hg with rfl; assumption⟩
-- f15 certpath/certpathlaw30.progress
theorem F15 (d : Dk) : Fn Tryz.prog 5 [.ptr 0 0] [(59, eDk d)] (fun r H' => ∃ (s : Progress) (d' : Dk), r = .agg (ePr s) ∧ H' = [eDk d'] ∧ (okP s ∧ (∃ v, 0 ≤ v ∧ s.issuer = authS v) ∧ 0 ≤ s.length ∧ s.length < 4 ∧ 0 ≤ s.explicit ∧ s.explicit < 4 ∧ 0 ≤ s.mapping ∧ s.mapping < 4 ∧ 0 ≤ s.any ∧ s.any < 4)) := by
  refine Fn.intro (rs := [.cell 2 34]) hT Tryz.func5 (by kernel_rfl) rfl rfl rfl rfl fun C => ?_
  repeat (first | refine AwOps.nil ?_ | refine AwSch.nil ?_ | refine Aw.seq ?_ | refine Aw.region ?_ | refine Aw.block ?_ | refine Aw.skip ?_ | refine Aw.exit ?_ | refine Aw.condT rfl ?_ | refine Aw.condF rfl ?_)
  refine AwOps.eff hT rfl ?_
  repeat (first | refine AwOps.nil ?_ | refine AwSch.nil ?_ | refine Aw.seq ?_ | refine Aw.region ?_ | refine Aw.block ?_ | refine Aw.skip ?_ | refine Aw.exit ?_ | refine Aw.condT rfl ?_ | refine Aw.condF rfl ?_)
  refine AwOps.lit hT rfl ?_
  refine AwOps.turn (Tn.fz 5 rfl rfl (by first | rfl | (simp; done)) rfl) ?_
  refine AwOps.turn (Less.say (t := 5) (B := .one (.p (.sl (List.map eI [_, _, _, _, _])))) rfl rfl) ?_
  refine AwOps.v hT rfl ?_
  refine AwOps.cl (F10 _ _ (by first | omega | (simp only [w64] at *; omega) | (simp [w64] at *; omega)) (by first | omega | (simp only [w64] at *; omega) | (simp [w64] at *; omega))) [1000] rfl ⟨⟨1000, rfl, rfl⟩, ⟨rfl, rfl⟩, trivial⟩ ⟨rfl, trivial⟩ rfl ?_   -- certpathmade.Deck).Next
  rintro _ _ ⟨v1, d1, rfl, rfl, hv1, hw1⟩
  refine AwOps.imI hT rfl (by first | omega | (simp only [w64] at *; omega) | (simp [w64] at *; omega)) (by first | omega | (simp only [List.length_cons, List.length_nil, List.length_map]; omega) | (simp only [List.length_cons, List.length_nil, List.length_map, w64] at *; omega) | (simp [w64] at *; omega)) rfl ?_
  refine AwOps.v hT rfl ?_
  have hz9 : ∀ v ∈ ([0, 0, 0, 1, 2] : List Int), 0 ≤ v := by decide
  have hy9 := hz9 _ (List.getElem_mem (l := [0, 0, 0, 1, 2]) (n := v1.toNat) (by show v1.toNat < 5; omega))
  refine AwOps.cl (F9 _ hy9) [] rfl ⟨⟨rfl, rfl⟩, trivial⟩ trivial rfl ?_   -- certpathmade2.Anchor
  rintro _ _ ⟨v2, k2, hv2, rfl⟩
  refine AwOps.eff hT rfl ?_
  refine AwOps.eff hT rfl ?_
  repeat (first | refine AwOps.nil ?_ | refine AwSch.nil ?_ | refine Aw.seq ?_ | refine Aw.region ?_ | refine Aw.block ?_ | refine Aw.skip ?_ | refine Aw.exit ?_ | refine Aw.condT rfl ?_ | refine Aw.condF rfl ?_)
  refine Aw.regionAny [4, 1000] (by kernel_rfl) ?_
  refine AwAny.tk (i := 0) (Yd.val hT rfl rfl) (by kernel_rfl) ?_
  refine AwAny.tk (i := 1) (Yd.val hT rfl rfl) (by kernel_rfl) ?_
  refine AwAny.tk (i := 2) (Yd.val hT rfl rfl) (by kernel_rfl) ?_
  refine AwAny.tk (i := 3) (Yd.val hT rfl rfl) (by kernel_rfl) ?_
  refine AwAny.tk (i := 4) (Yd.val hT rfl rfl) (by kernel_rfl) ?_
  refine AwAny.tk (i := 7) (Yd.val hT rfl rfl) (by kernel_rfl) ?_
  refine AwAny.tk (i := 9) (Yd.val hT rfl rfl) (by kernel_rfl) ?_
  refine AwAny.tk (i := 11) (Yd.val hT rfl rfl) (by kernel_rfl) ?_
  refine AwAny.tk (i := 13) (Yd.val hT rfl rfl) (by kernel_rfl) ?_
  refine AwAny.two (i := 5) (j := 16) (by kernel_rfl) ?_ ?_
  · skip
    refine Ed.cl (F10 _ _ (by first | omega | (simp only [w64] at *; omega) | (simp [w64] at *; omega)) (by first | omega | (simp only [w64] at *; omega) | (simp [w64] at *; omega))) [1000] rfl ⟨⟨1000, rfl, rfl⟩, ⟨rfl, rfl⟩, trivial⟩ ⟨rfl, trivial⟩ rfl rfl ?_   -- certpathmade.Deck).Next
    rintro _ _ ⟨v3, d3, rfl, rfl, hv3, hw3⟩
    refine AwAny.tk (i := 6) (Yd.val hT rfl rfl) (by kernel_rfl) ?_
    refine AwAny.two (i := 8) (j := 16) (by kernel_rfl) ?_ ?_
    · skip
      refine Ed.cl (F10 _ _ (by first | omega | (simp only [w64] at *; omega) | (simp [w64] at *; omega)) (by first | omega | (simp only [w64] at *; omega) | (simp [w64] at *; omega))) [1000] rfl ⟨⟨1000, rfl, rfl⟩, ⟨rfl, rfl⟩, trivial⟩ ⟨rfl, trivial⟩ rfl rfl ?_   -- certpathmade.Deck).Next
      rintro _ _ ⟨v4, d4, rfl, rfl, hv4, hw4⟩
      refine AwAny.two (i := 10) (j := 16) (by kernel_rfl) ?_ ?_
      · skip
        refine Ed.cl (F10 _ _ (by first | omega | (simp only [w64] at *; omega) | (simp [w64] at *; omega)) (by first | omega | (simp only [w64] at *; omega) | (simp [w64] at *; omega))) [1000] rfl ⟨⟨1000, rfl, rfl⟩, ⟨rfl, rfl⟩, trivial⟩ ⟨rfl, trivial⟩ rfl rfl ?_   -- certpathmade.Deck).Next
        rintro _ _ ⟨v5, d5, rfl, rfl, hv5, hw5⟩
        refine AwAny.two (i := 12) (j := 16) (by kernel_rfl) ?_ ?_
        · skip
          refine Ed.cl (F10 _ _ (by first | omega | (simp only [w64] at *; omega) | (simp [w64] at *; omega)) (by first | omega | (simp only [w64] at *; omega) | (simp [w64] at *; omega))) [1000] rfl ⟨⟨1000, rfl, rfl⟩, ⟨rfl, rfl⟩, trivial⟩ ⟨rfl, trivial⟩ rfl rfl ?_   -- certpathmade.Deck).Next
          rintro _ _ ⟨v6, d6, rfl, rfl, hv6, hw6⟩
          refine AwAny.two (i := 14) (j := 16) (by kernel_rfl) ?_ ?_
          · skip
            refine Ed.cl (F10 _ _ (by first | omega | (simp only [w64] at *; omega) | (simp [w64] at *; omega)) (by first | omega | (simp only [w64] at *; omega) | (simp [w64] at *; omega))) [1000] rfl ⟨⟨1000, rfl, rfl⟩, ⟨rfl, rfl⟩, trivial⟩ ⟨rfl, trivial⟩ rfl rfl ?_   -- certpathmade.Deck).Next
            rintro _ _ ⟨v7, d7, rfl, rfl, hv7, hw7⟩
            refine AwAny.tk (i := 15) (Yd.build hT rfl) (by kernel_rfl) ?_
            refine AwAny.say (t := 26) (B := .agg [_, _, _, _, _, _, _, _, _, .sl (List.map eSub [])]) rfl rfl ?_
            refine AwAny.one (i := 16) (by kernel_rfl) ?_
            refine Ed.eff hT rfl (fun b hb => by cases hb) ?_
            refine AwAny.one (i := 17) (by kernel_rfl) ?_
            refine Ed.eff hT rfl (fun b hb => by injection hb with hb; subst hb; decide) ?_
            refine AwAny.done (by kernel_rfl) ?_
            repeat (first | refine AwOps.nil ?_ | refine AwSch.nil ?_ | refine Aw.seq ?_ | refine Aw.region ?_ | refine Aw.block ?_ | refine Aw.skip ?_ | refine Aw.exit ?_ | refine Aw.condT rfl ?_ | refine Aw.condF rfl ?_)
            refine AwOps.v hT rfl ?_
            refine AwOps.cl (F10 _ _ (by first | omega | (simp only [w64] at *; omega) | (simp [w64] at *; omega)) (by first | omega | (simp only [w64] at *; omega) | (simp [w64] at *; omega))) [1000] rfl ⟨⟨1000, rfl, rfl⟩, ⟨rfl, rfl⟩, trivial⟩ ⟨rfl, trivial⟩ rfl ?_   -- certpathmade.Deck).Next
            rintro _ _ ⟨v8, d8, rfl, rfl, hv8, hw8⟩
            refine AwOps.v hT rfl ?_
            repeat (first | refine AwOps.nil ?_ | refine AwSch.nil ?_ | refine Aw.seq ?_ | refine Aw.region ?_ | refine Aw.block ?_ | refine Aw.skip ?_ | refine Aw.exit ?_ | refine Aw.condT rfl ?_ | refine Aw.condF rfl ?_)
            refine Aw.tst rfl (fun hb29 => ?_) (fun hb29 => ?_)
            · skip
              repeat (first | refine AwOps.nil ?_ | refine AwSch.nil ?_ | refine Aw.seq ?_ | refine Aw.region ?_ | refine Aw.block ?_ | refine Aw.skip ?_ | refine Aw.exit ?_ | refine Aw.condT rfl ?_ | refine Aw.condF rfl ?_)
              refine AwOps.v hT rfl ?_
              refine AwOps.cl (F42 _) [1000] rfl ⟨⟨1000, rfl, rfl⟩, trivial⟩ ⟨rfl, trivial⟩ rfl ?_   -- certpathmade.Subtrees
              rintro _ _ ⟨s9, d9, rfl, rfl, hs9⟩
              refine AwOps.v hT rfl ?_
              refine AwOps.cl (F42 _) [1000] rfl ⟨⟨1000, rfl, rfl⟩, trivial⟩ ⟨rfl, trivial⟩ rfl ?_   -- certpathmade.Subtrees
              rintro _ _ ⟨s10, d10, rfl, rfl, hs10⟩
              refine AwOps.lit hT rfl ?_
              refine AwOps.turn (Tn.fz 34 rfl rfl (by first | rfl | (simp; done)) rfl) ?_
              refine AwOps.turn (Less.say (t := 34) (B := .one (.p (.sl (List.map eSub [⟨_, _⟩, ⟨_, _⟩])))) rfl rfl) ?_
              refine AwOps.v hT rfl ?_
              refine AwOps.cl (F10 _ _ (by first | omega | (simp only [w64] at *; omega) | (simp [w64] at *; omega)) (by first | omega | (simp only [w64] at *; omega) | (simp [w64] at *; omega))) [1000] rfl ⟨⟨1000, rfl, rfl⟩, ⟨rfl, rfl⟩, trivial⟩ ⟨rfl, trivial⟩ rfl ?_   -- certpathmade.Deck).Next
              rintro _ _ ⟨v11, d11, rfl, rfl, hv11, hw11⟩
              refine AwOps.v hT rfl ?_
              first | refine AwOps.nm 37 rfl (by omega) (by omega) ?_ | skip
              refine AwOps.slp hT rfl (by first | omega | (simp only [w64] at *; omega) | (simp [w64] at *; omega)) (by first | omega | (simp only [List.length_cons, List.length_nil, List.length_map]; omega) | (simp only [List.length_cons, List.length_nil, List.length_map, w64] at *; omega) | (simp [w64] at *; omega)) ?_
              refine AwOps.turn (Less.say (t := 38) (B := .one (.p (.sl (List.map eSub (List.take _ _))))) rfl (by rw [← List.map_take])) ?_
              refine AwOps.v hT rfl ?_
              refine AwOps.v hT rfl ?_
              refine AwOps.eff hT rfl ?_
              repeat (first | refine AwOps.nil ?_ | refine AwSch.nil ?_ | refine Aw.seq ?_ | refine Aw.region ?_ | refine Aw.block ?_ | refine Aw.skip ?_ | refine Aw.exit ?_ | refine Aw.condT rfl ?_ | refine Aw.condF rfl ?_)
              refine AwOps.v hT rfl ?_
              refine AwOps.eff hT rfl ?_
              repeat (first | refine AwOps.nil ?_ | refine AwSch.nil ?_ | refine Aw.seq ?_ | refine Aw.region ?_ | refine Aw.block ?_ | refine Aw.skip ?_ | refine Aw.exit ?_ | refine Aw.condT rfl ?_ | refine Aw.condF rfl ?_)
              refine Aw.ret ?_
              refine ⟨_, [_], rfl, ⟨rfl, trivial⟩, ?_⟩
              refine ⟨⟨_, ⟨_, _, _⟩, _, _, _, _, _, _⟩, _, rfl, rfl, ⟨okNm_auth _, ?_, ?_⟩, ⟨_, by assumption, rfl⟩, ?_, ?_, ?_, ?_, ?_, ?_, ?_, ?_⟩
              all_goals dsimp only
              all_goals (first | omega | (simp; done) | (rw [List.length_take]; simp; omega) | (intro x hx; cases hx; done) | (intro x hx; have hx := List.mem_of_mem_take hx; simp at hx; rcases hx with rfl | rfl <;> exact (by assumption : okSub _ ∧ _).1))
            · skip
              repeat (first | refine AwOps.nil ?_ | refine AwSch.nil ?_ | refine Aw.seq ?_ | refine Aw.region ?_ | refine Aw.block ?_ | refine Aw.skip ?_ | refine Aw.exit ?_ | refine Aw.condT rfl ?_ | refine Aw.condF rfl ?_)
              refine AwOps.v hT rfl ?_
              refine AwOps.eff hT rfl ?_
              repeat (first | refine AwOps.nil ?_ | refine AwSch.nil ?_ | refine Aw.seq ?_ | refine Aw.region ?_ | refine Aw.block ?_ | refine Aw.skip ?_ | refine Aw.exit ?_ | refine Aw.condT rfl ?_ | refine Aw.condF rfl ?_)
              refine Aw.ret ?_
              refine ⟨_, [_], rfl, ⟨rfl, trivial⟩, ?_⟩
              refine ⟨⟨_, ⟨_, _, _⟩, _, _, _, _, _, _⟩, _, rfl, rfl, ⟨okNm_auth _, ?_, ?_⟩, ⟨_, by assumption, rfl⟩, ?_, ?_, ?_, ?_, ?_, ?_, ?_, ?_⟩
              all_goals dsimp only
              all_goals (first | omega | (simp; done) | (rw [List.length_take]; simp; omega) | (intro x hx; cases hx; done) | (intro x hx; have hx := List.mem_of_mem_take hx; simp at hx; rcases hx with rfl | rfl <;> exact (by assumption : okSub _ ∧ _).1))
          · skip
            refine Ed.eff hT rfl (fun b hb => by cases hb) ?_
            refine AwAny.one (i := 14) (by kernel_rfl) ?_
            refine Ed.cl (F10 _ _ (by first | omega | (simp only [w64] at *; omega) | (simp [w64] at *; omega)) (by first | omega | (simp only [w64] at *; omega) | (simp [w64] at *; omega))) [1000] rfl ⟨⟨1000, rfl, rfl⟩, ⟨rfl, rfl⟩, trivial⟩ ⟨rfl, trivial⟩ rfl rfl ?_   -- certpathmade.Deck).Next
            rintro _ _ ⟨v12, d12, rfl, rfl, hv12, hw12⟩
            refine AwAny.tk (i := 15) (Yd.build hT rfl) (by kernel_rfl) ?_
            refine AwAny.say (t := 26) (B := .agg [_, _, _, _, _, _, _, _, _, .sl (List.map eSub [])]) rfl rfl ?_
            refine AwAny.one (i := 17) (by kernel_rfl) ?_
            refine Ed.eff hT rfl (fun b hb => by injection hb with hb; subst hb; decide) ?_
            refine AwAny.done (by kernel_rfl) ?_
            repeat (first | refine AwOps.nil ?_ | refine AwSch.nil ?_ | refine Aw.seq ?_ | refine Aw.region ?_ | refine Aw.block ?_ | refine Aw.skip ?_ | refine Aw.exit ?_ | refine Aw.condT rfl ?_ | refine Aw.condF rfl ?_)
            refine AwOps.v hT rfl ?_
            refine AwOps.cl (F10 _ _ (by first | omega | (simp only [w64] at *; omega) | (simp [w64] at *; omega)) (by first | omega | (simp only [w64] at *; omega) | (simp [w64] at *; omega))) [1000] rfl ⟨⟨1000, rfl, rfl⟩, ⟨rfl, rfl⟩, trivial⟩ ⟨rfl, trivial⟩ rfl ?_   -- certpathmade.Deck).Next
            rintro _ _ ⟨v13, d13, rfl, rfl, hv13, hw13⟩
            refine AwOps.v hT rfl ?_
            repeat (first | refine AwOps.nil ?_ | refine AwSch.nil ?_ | refine Aw.seq ?_ | refine Aw.region ?_ | refine Aw.block ?_ | refine Aw.skip ?_ | refine Aw.exit ?_ | refine Aw.condT rfl ?_ | refine Aw.condF rfl ?_)
            refine Aw.tst rfl (fun hb29 => ?_) (fun hb29 => ?_)
            · skip
              repeat (first | refine AwOps.nil ?_ | refine AwSch.nil ?_ | refine Aw.seq ?_ | refine Aw.region ?_ | refine Aw.block ?_ | refine Aw.skip ?_ | refine Aw.exit ?_ | refine Aw.condT rfl ?_ | refine Aw.condF rfl ?_)
              refine AwOps.v hT rfl ?_
              refine AwOps.cl (F42 _) [1000] rfl ⟨⟨1000, rfl, rfl⟩, trivial⟩ ⟨rfl, trivial⟩ rfl ?_   -- certpathmade.Subtrees
              rintro _ _ ⟨s14, d14, rfl, rfl, hs14⟩
              refine AwOps.v hT rfl ?_
              refine AwOps.cl (F42 _) [1000] rfl ⟨⟨1000, rfl, rfl⟩, trivial⟩ ⟨rfl, trivial⟩ rfl ?_   -- certpathmade.Subtrees
              rintro _ _ ⟨s15, d15, rfl, rfl, hs15⟩
              refine AwOps.lit hT rfl ?_
              refine AwOps.turn (Tn.fz 34 rfl rfl (by first | rfl | (simp; done)) rfl) ?_
              refine AwOps.turn (Less.say (t := 34) (B := .one (.p (.sl (List.map eSub [⟨_, _⟩, ⟨_, _⟩])))) rfl rfl) ?_
              refine AwOps.v hT rfl ?_
              refine AwOps.cl (F10 _ _ (by first | omega | (simp only [w64] at *; omega) | (simp [w64] at *; omega)) (by first | omega | (simp only [w64] at *; omega) | (simp [w64] at *; omega))) [1000] rfl ⟨⟨1000, rfl, rfl⟩, ⟨rfl, rfl⟩, trivial⟩ ⟨rfl, trivial⟩ rfl ?_   -- certpathmade.Deck).Next
              rintro _ _ ⟨v16, d16, rfl, rfl, hv16, hw16⟩
              refine AwOps.v hT rfl ?_
              first | refine AwOps.nm 37 rfl (by omega) (by omega) ?_ | skip
              refine AwOps.slp hT rfl (by first | omega | (simp only [w64] at *; omega) | (simp [w64] at *; omega)) (by first | omega | (simp only [List.length_cons, List.length_nil, List.length_map]; omega) | (simp only [List.length_cons, List.length_nil, List.length_map, w64] at *; omega) | (simp [w64] at *; omega)) ?_
              refine AwOps.turn (Less.say (t := 38) (B := .one (.p (.sl (List.map eSub (List.take _ _))))) rfl (by rw [← List.map_take])) ?_
              refine AwOps.v hT rfl ?_
              refine AwOps.v hT rfl ?_
              refine AwOps.eff hT rfl ?_
              repeat (first | refine AwOps.nil ?_ | refine AwSch.nil ?_ | refine Aw.seq ?_ | refine Aw.region ?_ | refine Aw.block ?_ | refine Aw.skip ?_ | refine Aw.exit ?_ | refine Aw.condT rfl ?_ | refine Aw.condF rfl ?_)
              refine AwOps.v hT rfl ?_
              refine AwOps.eff hT rfl ?_
              repeat (first | refine AwOps.nil ?_ | refine AwSch.nil ?_ | refine Aw.seq ?_ | refine Aw.region ?_ | refine Aw.block ?_ | refine Aw.skip ?_ | refine Aw.exit ?_ | refine Aw.condT rfl ?_ | refine Aw.condF rfl ?_)
              refine Aw.ret ?_
              refine ⟨_, [_], rfl, ⟨rfl, trivial⟩, ?_⟩
              refine ⟨⟨_, ⟨_, _, _⟩, _, _, _, _, _, _⟩, _, rfl, rfl, ⟨okNm_auth _, ?_, ?_⟩, ⟨_, by assumption, rfl⟩, ?_, ?_, ?_, ?_, ?_, ?_, ?_, ?_⟩
              all_goals dsimp only
              all_goals (first | omega | (simp; done) | (rw [List.length_take]; simp; omega) | (intro x hx; cases hx; done) | (intro x hx; have hx := List.mem_of_mem_take hx; simp at hx; rcases hx with rfl | rfl <;> exact (by assumption : okSub _ ∧ _).1))
            · skip
              repeat (first | refine AwOps.nil ?_ | refine AwSch.nil ?_ | refine Aw.seq ?_ | refine Aw.region ?_ | refine Aw.block ?_ | refine Aw.skip ?_ | refine Aw.exit ?_ | refine Aw.condT rfl ?_ | refine Aw.condF rfl ?_)
              refine AwOps.v hT rfl ?_
              refine AwOps.eff hT rfl ?_
              repeat (first | refine AwOps.nil ?_ | refine AwSch.nil ?_ | refine Aw.seq ?_ | refine Aw.region ?_ | refine Aw.block ?_ | refine Aw.skip ?_ | refine Aw.exit ?_ | refine Aw.condT rfl ?_ | refine Aw.condF rfl ?_)
              refine Aw.ret ?_
              refine ⟨_, [_], rfl, ⟨rfl, trivial⟩, ?_⟩
              refine ⟨⟨_, ⟨_, _, _⟩, _, _, _, _, _, _⟩, _, rfl, rfl, ⟨okNm_auth _, ?_, ?_⟩, ⟨_, by assumption, rfl⟩, ?_, ?_, ?_, ?_, ?_, ?_, ?_, ?_⟩
              all_goals dsimp only
              all_goals (first | omega | (simp; done) | (rw [List.length_take]; simp; omega) | (intro x hx; cases hx; done) | (intro x hx; have hx := List.mem_of_mem_take hx; simp at hx; rcases hx with rfl | rfl <;> exact (by assumption : okSub _ ∧ _).1))
        · skip
          refine Ed.eff hT rfl (fun b hb => by cases hb) ?_
          refine AwAny.one (i := 12) (by kernel_rfl) ?_
          refine Ed.cl (F10 _ _ (by first | omega | (simp only [w64] at *; omega) | (simp [w64] at *; omega)) (by first | omega | (simp only [w64] at *; omega) | (simp [w64] at *; omega))) [1000] rfl ⟨⟨1000, rfl, rfl⟩, ⟨rfl, rfl⟩, trivial⟩ ⟨rfl, trivial⟩ rfl rfl ?_   -- certpathmade.Deck).Next
          rintro _ _ ⟨v17, d17, rfl, rfl, hv17, hw17⟩
          refine AwAny.one (i := 14) (by kernel_rfl) ?_
          refine Ed.cl (F10 _ _ (by first | omega | (simp only [w64] at *; omega) | (simp [w64] at *; omega)) (by first | omega | (simp only [w64] at *; omega) | (simp [w64] at *; omega))) [1000] rfl ⟨⟨1000, rfl, rfl⟩, ⟨rfl, rfl⟩, trivial⟩ ⟨rfl, trivial⟩ rfl rfl ?_   -- certpathmade.Deck).Next
          rintro _ _ ⟨v18, d18, rfl, rfl, hv18, hw18⟩
          refine AwAny.tk (i := 15) (Yd.build hT rfl) (by kernel_rfl) ?_
          refine AwAny.say (t := 26) (B := .agg [_, _, _, _, _, _, _, _, _, .sl (List.map eSub [])]) rfl rfl ?_
          refine AwAny.one (i := 17) (by kernel_rfl) ?_
          refine Ed.eff hT rfl (fun b hb => by injection hb with hb; subst hb; decide) ?_
          refine AwAny.done (by kernel_rfl) ?_
          repeat (first | refine AwOps.nil ?_ | refine AwSch.nil ?_ | refine Aw.seq ?_ | refine Aw.region ?_ | refine Aw.block ?_ | refine Aw.skip ?_ | refine Aw.exit ?_ | refine Aw.condT rfl ?_ | refine Aw.condF rfl ?_)
          refine AwOps.v hT rfl ?_
          refine AwOps.cl (F10 _ _ (by first | omega | (simp only [w64] at *; omega) | (simp [w64] at *; omega)) (by first | omega | (simp only [w64] at *; omega) | (simp [w64] at *; omega))) [1000] rfl ⟨⟨1000, rfl, rfl⟩, ⟨rfl, rfl⟩, trivial⟩ ⟨rfl, trivial⟩ rfl ?_   -- certpathmade.Deck).Next
          rintro _ _ ⟨v19, d19, rfl, rfl, hv19, hw19⟩
          refine AwOps.v hT rfl ?_
          repeat (first | refine AwOps.nil ?_ | refine AwSch.nil ?_ | refine Aw.seq ?_ | refine Aw.region ?_ | refine Aw.block ?_ | refine Aw.skip ?_ | refine Aw.exit ?_ | refine Aw.condT rfl ?_ | refine Aw.condF rfl ?_)
          refine Aw.tst rfl (fun hb29 => ?_) (fun hb29 => ?_)
          · skip
            repeat (first | refine AwOps.nil ?_ | refine AwSch.nil ?_ | refine Aw.seq ?_ | refine Aw.region ?_ | refine Aw.block ?_ | refine Aw.skip ?_ | refine Aw.exit ?_ | refine Aw.condT rfl ?_ | refine Aw.condF rfl ?_)
            refine AwOps.v hT rfl ?_
            refine AwOps.cl (F42 _) [1000] rfl ⟨⟨1000, rfl, rfl⟩, trivial⟩ ⟨rfl, trivial⟩ rfl ?_   -- certpathmade.Subtrees
            rintro _ _ ⟨s20, d20, rfl, rfl, hs20⟩
            refine AwOps.v hT rfl ?_
            refine AwOps.cl (F42 _) [1000] rfl ⟨⟨1000, rfl, rfl⟩, trivial⟩ ⟨rfl, trivial⟩ rfl ?_   -- certpathmade.Subtrees
            rintro _ _ ⟨s21, d21, rfl, rfl, hs21⟩
            refine AwOps.lit hT rfl ?_
            refine AwOps.turn (Tn.fz 34 rfl rfl (by first | rfl | (simp; done)) rfl) ?_
            refine AwOps.turn (Less.say (t := 34) (B := .one (.p (.sl (List.map eSub [⟨_, _⟩, ⟨_, _⟩])))) rfl rfl) ?_
            refine AwOps.v hT rfl ?_
            refine AwOps.cl (F10 _ _ (by first | omega | (simp only [w64] at *; omega) | (simp [w64] at *; omega)) (by first | omega | (simp only [w64] at *; omega) | (simp [w64] at *; omega))) [1000] rfl ⟨⟨1000, rfl, rfl⟩, ⟨rfl, rfl⟩, trivial⟩ ⟨rfl, trivial⟩ rfl ?_   -- certpathmade.Deck).Next
            rintro _ _ ⟨v22, d22, rfl, rfl, hv22, hw22⟩
            refine AwOps.v hT rfl ?_
            first | refine AwOps.nm 37 rfl (by omega) (by omega) ?_ | skip
            refine AwOps.slp hT rfl (by first | omega | (simp only [w64] at *; omega) | (simp [w64] at *; omega)) (by first | omega | (simp only [List.length_cons, List.length_nil, List.length_map]; omega) | (simp only [List.length_cons, List.length_nil, List.length_map, w64] at *; omega) | (simp [w64] at *; omega)) ?_
            refine AwOps.turn (Less.say (t := 38) (B := .one (.p (.sl (List.map eSub (List.take _ _))))) rfl (by rw [← List.map_take])) ?_
            refine AwOps.v hT rfl ?_
            refine AwOps.v hT rfl ?_
            refine AwOps.eff hT rfl ?_
            repeat (first | refine AwOps.nil ?_ | refine AwSch.nil ?_ | refine Aw.seq ?_ | refine Aw.region ?_ | refine Aw.block ?_ | refine Aw.skip ?_ | refine Aw.exit ?_ | refine Aw.condT rfl ?_ | refine Aw.condF rfl ?_)
            refine AwOps.v hT rfl ?_
            refine AwOps.eff hT rfl ?_
            repeat (first | refine AwOps.nil ?_ | refine AwSch.nil ?_ | refine Aw.seq ?_ | refine Aw.region ?_ | refine Aw.block ?_ | refine Aw.skip ?_ | refine Aw.exit ?_ | refine Aw.condT rfl ?_ | refine Aw.condF rfl ?_)
            refine Aw.ret ?_
            refine ⟨_, [_], rfl, ⟨rfl, trivial⟩, ?_⟩
            refine ⟨⟨_, ⟨_, _, _⟩, _, _, _, _, _, _⟩, _, rfl, rfl, ⟨okNm_auth _, ?_, ?_⟩, ⟨_, by assumption, rfl⟩, ?_, ?_, ?_, ?_, ?_, ?_, ?_, ?_⟩
            all_goals dsimp only
            all_goals (first | omega | (simp; done) | (rw [List.length_take]; simp; omega) | (intro x hx; cases hx; done) | (intro x hx; have hx := List.mem_of_mem_take hx; simp at hx; rcases hx with rfl | rfl <;> exact (by assumption : okSub _ ∧ _).1))
          · skip
            repeat (first | refine AwOps.nil ?_ | refine AwSch.nil ?_ | refine Aw.seq ?_ | refine Aw.region ?_ | refine Aw.block ?_ | refine Aw.skip ?_ | refine Aw.exit ?_ | refine Aw.condT rfl ?_ | refine Aw.condF rfl ?_)
            refine AwOps.v hT rfl ?_
            refine AwOps.eff hT rfl ?_
            repeat (first | refine AwOps.nil ?_ | refine AwSch.nil ?_ | refine Aw.seq ?_ | refine Aw.region ?_ | refine Aw.block ?_ | refine Aw.skip ?_ | refine Aw.exit ?_ | refine Aw.condT rfl ?_ | refine Aw.condF rfl ?_)
            refine Aw.ret ?_
            refine ⟨_, [_], rfl, ⟨rfl, trivial⟩, ?_⟩
            refine ⟨⟨_, ⟨_, _, _⟩, _, _, _, _, _, _⟩, _, rfl, rfl, ⟨okNm_auth _, ?_, ?_⟩, ⟨_, by assumption, rfl⟩, ?_, ?_, ?_, ?_, ?_, ?_, ?_, ?_⟩
            all_goals dsimp only
            all_goals (first | omega | (simp; done) | (rw [List.length_take]; simp; omega) | (intro x hx; cases hx; done) | (intro x hx; have hx := List.mem_of_mem_take hx; simp at hx; rcases hx with rfl | rfl <;> exact (by assumption : okSub _ ∧ _).1))
      · skip
        refine Ed.eff hT rfl (fun b hb => by cases hb) ?_
        refine AwAny.one (i := 10) (by kernel_rfl) ?_
        refine Ed.cl (F10 _ _ (by first | omega | (simp only [w64] at *; omega) | (simp [w64] at *; omega)) (by first | omega | (simp only [w64] at *; omega) | (simp [w64] at *; omega))) [1000] rfl ⟨⟨1000, rfl, rfl⟩, ⟨rfl, rfl⟩, trivial⟩ ⟨rfl, trivial⟩ rfl rfl ?_   -- certpathmade.Deck).Next
        rintro _ _ ⟨v23, d23, rfl, rfl, hv23, hw23⟩
        refine AwAny.one (i := 12) (by kernel_rfl) ?_
        refine Ed.cl (F10 _ _ (by first | omega | (simp only [w64] at *; omega) | (simp [w64] at *; omega)) (by first | omega | (simp only [w64] at *; omega) | (simp [w64] at *; omega))) [1000] rfl ⟨⟨1000, rfl, rfl⟩, ⟨rfl, rfl⟩, trivial⟩ ⟨rfl, trivial⟩ rfl rfl ?_   -- certpathmade.Deck).Next
        rintro _ _ ⟨v24, d24, rfl, rfl, hv24, hw24⟩
        refine AwAny.one (i := 14) (by kernel_rfl) ?_
        refine Ed.cl (F10 _ _ (by first | omega | (simp only [w64] at *; omega) | (simp [w64] at *; omega)) (by first | omega | (simp only [w64] at *; omega) | (simp [w64] at *; omega))) [1000] rfl ⟨⟨1000, rfl, rfl⟩, ⟨rfl, rfl⟩, trivial⟩ ⟨rfl, trivial⟩ rfl rfl ?_   -- certpathmade.Deck).Next
        rintro _ _ ⟨v25, d25, rfl, rfl, hv25, hw25⟩
        refine AwAny.tk (i := 15) (Yd.build hT rfl) (by kernel_rfl) ?_
        refine AwAny.say (t := 26) (B := .agg [_, _, _, _, _, _, _, _, _, .sl (List.map eSub [])]) rfl rfl ?_
        refine AwAny.one (i := 17) (by kernel_rfl) ?_
        refine Ed.eff hT rfl (fun b hb => by injection hb with hb; subst hb; decide) ?_
        refine AwAny.done (by kernel_rfl) ?_
        repeat (first | refine AwOps.nil ?_ | refine AwSch.nil ?_ | refine Aw.seq ?_ | refine Aw.region ?_ | refine Aw.block ?_ | refine Aw.skip ?_ | refine Aw.exit ?_ | refine Aw.condT rfl ?_ | refine Aw.condF rfl ?_)
        refine AwOps.v hT rfl ?_
        refine AwOps.cl (F10 _ _ (by first | omega | (simp only [w64] at *; omega) | (simp [w64] at *; omega)) (by first | omega | (simp only [w64] at *; omega) | (simp [w64] at *; omega))) [1000] rfl ⟨⟨1000, rfl, rfl⟩, ⟨rfl, rfl⟩, trivial⟩ ⟨rfl, trivial⟩ rfl ?_   -- certpathmade.Deck).Next
        rintro _ _ ⟨v26, d26, rfl, rfl, hv26, hw26⟩
        refine AwOps.v hT rfl ?_
        repeat (first | refine AwOps.nil ?_ | refine AwSch.nil ?_ | refine Aw.seq ?_ | refine Aw.region ?_ | refine Aw.block ?_ | refine Aw.skip ?_ | refine Aw.exit ?_ | refine Aw.condT rfl ?_ | refine Aw.condF rfl ?_)
        refine Aw.tst rfl (fun hb29 => ?_) (fun hb29 => ?_)
        · skip
          repeat (first | refine AwOps.nil ?_ | refine AwSch.nil ?_ | refine Aw.seq ?_ | refine Aw.region ?_ | refine Aw.block ?_ | refine Aw.skip ?_ | refine Aw.exit ?_ | refine Aw.condT rfl ?_ | refine Aw.condF rfl ?_)
          refine AwOps.v hT rfl ?_
          refine AwOps.cl (F42 _) [1000] rfl ⟨⟨1000, rfl, rfl⟩, trivial⟩ ⟨rfl, trivial⟩ rfl ?_   -- certpathmade.Subtrees
          rintro _ _ ⟨s27, d27, rfl, rfl, hs27⟩
          refine AwOps.v hT rfl ?_
          refine AwOps.cl (F42 _) [1000] rfl ⟨⟨1000, rfl, rfl⟩, trivial⟩ ⟨rfl, trivial⟩ rfl ?_   -- certpathmade.Subtrees
          rintro _ _ ⟨s28, d28, rfl, rfl, hs28⟩
          refine AwOps.lit hT rfl ?_
          refine AwOps.turn (Tn.fz 34 rfl rfl (by first | rfl | (simp; done)) rfl) ?_
          refine AwOps.turn (Less.say (t := 34) (B := .one (.p (.sl (List.map eSub [⟨_, _⟩, ⟨_, _⟩])))) rfl rfl) ?_
          refine AwOps.v hT rfl ?_
          refine AwOps.cl (F10 _ _ (by first | omega | (simp only [w64] at *; omega) | (simp [w64] at *; omega)) (by first | omega | (simp only [w64] at *; omega) | (simp [w64] at *; omega))) [1000] rfl ⟨⟨1000, rfl, rfl⟩, ⟨rfl, rfl⟩, trivial⟩ ⟨rfl, trivial⟩ rfl ?_   -- certpathmade.Deck).Next
          rintro _ _ ⟨v29, d29, rfl, rfl, hv29, hw29⟩
          refine AwOps.v hT rfl ?_
          first | refine AwOps.nm 37 rfl (by omega) (by omega) ?_ | skip
          refine AwOps.slp hT rfl (by first | omega | (simp only [w64] at *; omega) | (simp [w64] at *; omega)) (by first | omega | (simp only [List.length_cons, List.length_nil, List.length_map]; omega) | (simp only [List.length_cons, List.length_nil, List.length_map, w64] at *; omega) | (simp [w64] at *; omega)) ?_
          refine AwOps.turn (Less.say (t := 38) (B := .one (.p (.sl (List.map eSub (List.take _ _))))) rfl (by rw [← List.map_take])) ?_
          refine AwOps.v hT rfl ?_
          refine AwOps.v hT rfl ?_
          refine AwOps.eff hT rfl ?_
          repeat (first | refine AwOps.nil ?_ | refine AwSch.nil ?_ | refine Aw.seq ?_ | refine Aw.region ?_ | refine Aw.block ?_ | refine Aw.skip ?_ | refine Aw.exit ?_ | refine Aw.condT rfl ?_ | refine Aw.condF rfl ?_)
          refine AwOps.v hT rfl ?_
          refine AwOps.eff hT rfl ?_
          repeat (first | refine AwOps.nil ?_ | refine AwSch.nil ?_ | refine Aw.seq ?_ | refine Aw.region ?_ | refine Aw.block ?_ | refine Aw.skip ?_ | refine Aw.exit ?_ | refine Aw.condT rfl ?_ | refine Aw.condF rfl ?_)
          refine Aw.ret ?_
          refine ⟨_, [_], rfl, ⟨rfl, trivial⟩, ?_⟩
          refine ⟨⟨_, ⟨_, _, _⟩, _, _, _, _, _, _⟩, _, rfl, rfl, ⟨okNm_auth _, ?_, ?_⟩, ⟨_, by assumption, rfl⟩, ?_, ?_, ?_, ?_, ?_, ?_, ?_, ?_⟩
          all_goals dsimp only
          all_goals (first | omega | (simp; done) | (rw [List.length_take]; simp; omega) | (intro x hx; cases hx; done) | (intro x hx; have hx := List.mem_of_mem_take hx; simp at hx; rcases hx with rfl | rfl <;> exact (by assumption : okSub _ ∧ _).1))
        · skip
          repeat (first | refine AwOps.nil ?_ | refine AwSch.nil ?_ | refine Aw.seq ?_ | refine Aw.region ?_ | refine Aw.block ?_ | refine Aw.skip ?_ | refine Aw.exit ?_ | refine Aw.condT rfl ?_ | refine Aw.condF rfl ?_)
          refine AwOps.v hT rfl ?_
          refine AwOps.eff hT rfl ?_
          repeat (first | refine AwOps.nil ?_ | refine AwSch.nil ?_ | refine Aw.seq ?_ | refine Aw.region ?_ | refine Aw.block ?_ | refine Aw.skip ?_ | refine Aw.exit ?_ | refine Aw.condT rfl ?_ | refine Aw.condF rfl ?_)
          refine Aw.ret ?_
          refine ⟨_, [_], rfl, ⟨rfl, trivial⟩, ?_⟩
          refine ⟨⟨_, ⟨_, _, _⟩, _, _, _, _, _, _⟩, _, rfl, rfl, ⟨okNm_auth _, ?_, ?_⟩, ⟨_, by assumption, rfl⟩, ?_, ?_, ?_, ?_, ?_, ?_, ?_, ?_⟩
          all_goals dsimp only
          all_goals (first | omega | (simp; done) | (rw [List.length_take]; simp; omega) | (intro x hx; cases hx; done) | (intro x hx; have hx := List.mem_of_mem_take hx; simp at hx; rcases hx with rfl | rfl <;> exact (by assumption : okSub _ ∧ _).1))
    · skip
      refine Ed.eff hT rfl (fun b hb => by cases hb) ?_
      refine AwAny.one (i := 8) (by kernel_rfl) ?_
      refine Ed.cl (F10 _ _ (by first | omega | (simp only [w64] at *; omega) | (simp [w64] at *; omega)) (by first | omega | (simp only [w64] at *; omega) | (simp [w64] at *; omega))) [1000] rfl ⟨⟨1000, rfl, rfl⟩, ⟨rfl, rfl⟩, trivial⟩ ⟨rfl, trivial⟩ rfl rfl ?_   -- certpathmade.Deck).Next
      rintro _ _ ⟨v30, d30, rfl, rfl, hv30, hw30⟩
      refine AwAny.one (i := 10) (by kernel_rfl) ?_
      refine Ed.cl (F10 _ _ (by first | omega | (simp only [w64] at *; omega) | (simp [w64] at *; omega)) (by first | omega | (simp only [w64] at *; omega) | (simp [w64] at *; omega))) [1000] rfl ⟨⟨1000, rfl, rfl⟩, ⟨rfl, rfl⟩, trivial⟩ ⟨rfl, trivial⟩ rfl rfl ?_   -- certpathmade.Deck).Next
      rintro _ _ ⟨v31, d31, rfl, rfl, hv31, hw31⟩
      refine AwAny.one (i := 12) (by kernel_rfl) ?_
      refine Ed.cl (F10 _ _ (by first | omega | (simp only [w64] at *; omega) | (simp [w64] at *; omega)) (by first | omega | (simp only [w64] at *; omega) | (simp [w64] at *; omega))) [1000] rfl ⟨⟨1000, rfl, rfl⟩, ⟨rfl, rfl⟩, trivial⟩ ⟨rfl, trivial⟩ rfl rfl ?_   -- certpathmade.Deck).Next
      rintro _ _ ⟨v32, d32, rfl, rfl, hv32, hw32⟩
      refine AwAny.one (i := 14) (by kernel_rfl) ?_
      refine Ed.cl (F10 _ _ (by first | omega | (simp only [w64] at *; omega) | (simp [w64] at *; omega)) (by first | omega | (simp only [w64] at *; omega) | (simp [w64] at *; omega))) [1000] rfl ⟨⟨1000, rfl, rfl⟩, ⟨rfl, rfl⟩, trivial⟩ ⟨rfl, trivial⟩ rfl rfl ?_   -- certpathmade.Deck).Next
      rintro _ _ ⟨v33, d33, rfl, rfl, hv33, hw33⟩
      refine AwAny.tk (i := 15) (Yd.build hT rfl) (by kernel_rfl) ?_
      refine AwAny.say (t := 26) (B := .agg [_, _, _, _, _, _, _, _, _, .sl (List.map eSub [])]) rfl rfl ?_
      refine AwAny.one (i := 17) (by kernel_rfl) ?_
      refine Ed.eff hT rfl (fun b hb => by injection hb with hb; subst hb; decide) ?_
      refine AwAny.done (by kernel_rfl) ?_
      repeat (first | refine AwOps.nil ?_ | refine AwSch.nil ?_ | refine Aw.seq ?_ | refine Aw.region ?_ | refine Aw.block ?_ | refine Aw.skip ?_ | refine Aw.exit ?_ | refine Aw.condT rfl ?_ | refine Aw.condF rfl ?_)
      refine AwOps.v hT rfl ?_
      refine AwOps.cl (F10 _ _ (by first | omega | (simp only [w64] at *; omega) | (simp [w64] at *; omega)) (by first | omega | (simp only [w64] at *; omega) | (simp [w64] at *; omega))) [1000] rfl ⟨⟨1000, rfl, rfl⟩, ⟨rfl, rfl⟩, trivial⟩ ⟨rfl, trivial⟩ rfl ?_   -- certpathmade.Deck).Next
      rintro _ _ ⟨v34, d34, rfl, rfl, hv34, hw34⟩
      refine AwOps.v hT rfl ?_
      repeat (first | refine AwOps.nil ?_ | refine AwSch.nil ?_ | refine Aw.seq ?_ | refine Aw.region ?_ | refine Aw.block ?_ | refine Aw.skip ?_ | refine Aw.exit ?_ | refine Aw.condT rfl ?_ | refine Aw.condF rfl ?_)
      refine Aw.tst rfl (fun hb29 => ?_) (fun hb29 => ?_)
      · skip
        repeat (first | refine AwOps.nil ?_ | refine AwSch.nil ?_ | refine Aw.seq ?_ | refine Aw.region ?_ | refine Aw.block ?_ | refine Aw.skip ?_ | refine Aw.exit ?_ | refine Aw.condT rfl ?_ | refine Aw.condF rfl ?_)
        refine AwOps.v hT rfl ?_
        refine AwOps.cl (F42 _) [1000] rfl ⟨⟨1000, rfl, rfl⟩, trivial⟩ ⟨rfl, trivial⟩ rfl ?_   -- certpathmade.Subtrees
        rintro _ _ ⟨s35, d35, rfl, rfl, hs35⟩
        refine AwOps.v hT rfl ?_
        refine AwOps.cl (F42 _) [1000] rfl ⟨⟨1000, rfl, rfl⟩, trivial⟩ ⟨rfl, trivial⟩ rfl ?_   -- certpathmade.Subtrees
        rintro _ _ ⟨s36, d36, rfl, rfl, hs36⟩
        refine AwOps.lit hT rfl ?_
        refine AwOps.turn (Tn.fz 34 rfl rfl (by first | rfl | (simp; done)) rfl) ?_
        refine AwOps.turn (Less.say (t := 34) (B := .one (.p (.sl (List.map eSub [⟨_, _⟩, ⟨_, _⟩])))) rfl rfl) ?_
        refine AwOps.v hT rfl ?_
        refine AwOps.cl (F10 _ _ (by first | omega | (simp only [w64] at *; omega) | (simp [w64] at *; omega)) (by first | omega | (simp only [w64] at *; omega) | (simp [w64] at *; omega))) [1000] rfl ⟨⟨1000, rfl, rfl⟩, ⟨rfl, rfl⟩, trivial⟩ ⟨rfl, trivial⟩ rfl ?_   -- certpathmade.Deck).Next
        rintro _ _ ⟨v37, d37, rfl, rfl, hv37, hw37⟩
        refine AwOps.v hT rfl ?_
        first | refine AwOps.nm 37 rfl (by omega) (by omega) ?_ | skip
        refine AwOps.slp hT rfl (by first | omega | (simp only [w64] at *; omega) | (simp [w64] at *; omega)) (by first | omega | (simp only [List.length_cons, List.length_nil, List.length_map]; omega) | (simp only [List.length_cons, List.length_nil, List.length_map, w64] at *; omega) | (simp [w64] at *; omega)) ?_
        refine AwOps.turn (Less.say (t := 38) (B := .one (.p (.sl (List.map eSub (List.take _ _))))) rfl (by rw [← List.map_take])) ?_
        refine AwOps.v hT rfl ?_
        refine AwOps.v hT rfl ?_
        refine AwOps.eff hT rfl ?_
        repeat (first | refine AwOps.nil ?_ | refine AwSch.nil ?_ | refine Aw.seq ?_ | refine Aw.region ?_ | refine Aw.block ?_ | refine Aw.skip ?_ | refine Aw.exit ?_ | refine Aw.condT rfl ?_ | refine Aw.condF rfl ?_)
        refine AwOps.v hT rfl ?_
        refine AwOps.eff hT rfl ?_
        repeat (first | refine AwOps.nil ?_ | refine AwSch.nil ?_ | refine Aw.seq ?_ | refine Aw.region ?_ | refine Aw.block ?_ | refine Aw.skip ?_ | refine Aw.exit ?_ | refine Aw.condT rfl ?_ | refine Aw.condF rfl ?_)
        refine Aw.ret ?_
        refine ⟨_, [_], rfl, ⟨rfl, trivial⟩, ?_⟩
        refine ⟨⟨_, ⟨_, _, _⟩, _, _, _, _, _, _⟩, _, rfl, rfl, ⟨okNm_auth _, ?_, ?_⟩, ⟨_, by assumption, rfl⟩, ?_, ?_, ?_, ?_, ?_, ?_, ?_, ?_⟩
        all_goals dsimp only
        all_goals (first | omega | (simp; done) | (rw [List.length_take]; simp; omega) | (intro x hx; cases hx; done) | (intro x hx; have hx := List.mem_of_mem_take hx; simp at hx; rcases hx with rfl | rfl <;> exact (by assumption : okSub _ ∧ _).1))
      · skip
        repeat (first | refine AwOps.nil ?_ | refine AwSch.nil ?_ | refine Aw.seq ?_ | refine Aw.region ?_ | refine Aw.block ?_ | refine Aw.skip ?_ | refine Aw.exit ?_ | refine Aw.condT rfl ?_ | refine Aw.condF rfl ?_)
        refine AwOps.v hT rfl ?_
        refine AwOps.eff hT rfl ?_
        repeat (first | refine AwOps.nil ?_ | refine AwSch.nil ?_ | refine Aw.seq ?_ | refine Aw.region ?_ | refine Aw.block ?_ | refine Aw.skip ?_ | refine Aw.exit ?_ | refine Aw.condT rfl ?_ | refine Aw.condF rfl ?_)
        refine Aw.ret ?_
        refine ⟨_, [_], rfl, ⟨rfl, trivial⟩, ?_⟩
        refine ⟨⟨_, ⟨_, _, _⟩, _, _, _, _, _, _⟩, _, rfl, rfl, ⟨okNm_auth _, ?_, ?_⟩, ⟨_, by assumption, rfl⟩, ?_, ?_, ?_, ?_, ?_, ?_, ?_, ?_⟩
        all_goals dsimp only
        all_goals (first | omega | (simp; done) | (rw [List.length_take]; simp; omega) | (intro x hx; cases hx; done) | (intro x hx; have hx := List.mem_of_mem_take hx; simp at hx; rcases hx with rfl | rfl <;> exact (by assumption : okSub _ ∧ _).1))
  · skip
    refine Ed.eff hT rfl (fun b hb => by cases hb) ?_
    refine AwAny.one (i := 5) (by kernel_rfl) ?_
    refine Ed.cl (F10 _ _ (by first | omega | (simp only [w64] at *; omega) | (simp [w64] at *; omega)) (by first | omega | (simp only [w64] at *; omega) | (simp [w64] at *; omega))) [1000] rfl ⟨⟨1000, rfl, rfl⟩, ⟨rfl, rfl⟩, trivial⟩ ⟨rfl, trivial⟩ rfl rfl ?_   -- certpathmade.Deck).Next
    rintro _ _ ⟨v38, d38, rfl, rfl, hv38, hw38⟩
    refine AwAny.tk (i := 6) (Yd.val hT rfl rfl) (by kernel_rfl) ?_
    refine AwAny.one (i := 8) (by kernel_rfl) ?_
    refine Ed.cl (F10 _ _ (by first | omega | (simp only [w64] at *; omega) | (simp [w64] at *; omega)) (by first | omega | (simp only [w64] at *; omega) | (simp [w64] at *; omega))) [1000] rfl ⟨⟨1000, rfl, rfl⟩, ⟨rfl, rfl⟩, trivial⟩ ⟨rfl, trivial⟩ rfl rfl ?_   -- certpathmade.Deck).Next
    rintro _ _ ⟨v39, d39, rfl, rfl, hv39, hw39⟩
    refine AwAny.one (i := 10) (by kernel_rfl) ?_
    refine Ed.cl (F10 _ _ (by first | omega | (simp only [w64] at *; omega) | (simp [w64] at *; omega)) (by first | omega | (simp only [w64] at *; omega) | (simp [w64] at *; omega))) [1000] rfl ⟨⟨1000, rfl, rfl⟩, ⟨rfl, rfl⟩, trivial⟩ ⟨rfl, trivial⟩ rfl rfl ?_   -- certpathmade.Deck).Next
    rintro _ _ ⟨v40, d40, rfl, rfl, hv40, hw40⟩
    refine AwAny.one (i := 12) (by kernel_rfl) ?_
    refine Ed.cl (F10 _ _ (by first | omega | (simp only [w64] at *; omega) | (simp [w64] at *; omega)) (by first | omega | (simp only [w64] at *; omega) | (simp [w64] at *; omega))) [1000] rfl ⟨⟨1000, rfl, rfl⟩, ⟨rfl, rfl⟩, trivial⟩ ⟨rfl, trivial⟩ rfl rfl ?_   -- certpathmade.Deck).Next
    rintro _ _ ⟨v41, d41, rfl, rfl, hv41, hw41⟩
    refine AwAny.one (i := 14) (by kernel_rfl) ?_
    refine Ed.cl (F10 _ _ (by first | omega | (simp only [w64] at *; omega) | (simp [w64] at *; omega)) (by first | omega | (simp only [w64] at *; omega) | (simp [w64] at *; omega))) [1000] rfl ⟨⟨1000, rfl, rfl⟩, ⟨rfl, rfl⟩, trivial⟩ ⟨rfl, trivial⟩ rfl rfl ?_   -- certpathmade.Deck).Next
    rintro _ _ ⟨v42, d42, rfl, rfl, hv42, hw42⟩
    refine AwAny.tk (i := 15) (Yd.build hT rfl) (by kernel_rfl) ?_
    refine AwAny.say (t := 26) (B := .agg [_, _, _, _, _, _, _, _, _, .sl (List.map eSub [])]) rfl rfl ?_
    refine AwAny.one (i := 17) (by kernel_rfl) ?_
    refine Ed.eff hT rfl (fun b hb => by injection hb with hb; subst hb; decide) ?_
    refine AwAny.done (by kernel_rfl) ?_
    repeat (first | refine AwOps.nil ?_ | refine AwSch.nil ?_ | refine Aw.seq ?_ | refine Aw.region ?_ | refine Aw.block ?_ | refine Aw.skip ?_ | refine Aw.exit ?_ | refine Aw.condT rfl ?_ | refine Aw.condF rfl ?_)
    refine AwOps.v hT rfl ?_
    refine AwOps.cl (F10 _ _ (by first | omega | (simp only [w64] at *; omega) | (simp [w64] at *; omega)) (by first | omega | (simp only [w64] at *; omega) | (simp [w64] at *; omega))) [1000] rfl ⟨⟨1000, rfl, rfl⟩, ⟨rfl, rfl⟩, trivial⟩ ⟨rfl, trivial⟩ rfl ?_   -- certpathmade.Deck).Next
    rintro _ _ ⟨v43, d43, rfl, rfl, hv43, hw43⟩
    refine AwOps.v hT rfl ?_
    repeat (first | refine AwOps.nil ?_ | refine AwSch.nil ?_ | refine Aw.seq ?_ | refine Aw.region ?_ | refine Aw.block ?_ | refine Aw.skip ?_ | refine Aw.exit ?_ | refine Aw.condT rfl ?_ | refine Aw.condF rfl ?_)
    refine Aw.tst rfl (fun hb29 => ?_) (fun hb29 => ?_)
    · skip
      repeat (first | refine AwOps.nil ?_ | refine AwSch.nil ?_ | refine Aw.seq ?_ | refine Aw.region ?_ | refine Aw.block ?_ | refine Aw.skip ?_ | refine Aw.exit ?_ | refine Aw.condT rfl ?_ | refine Aw.condF rfl ?_)
      refine AwOps.v hT rfl ?_
      refine AwOps.cl (F42 _) [1000] rfl ⟨⟨1000, rfl, rfl⟩, trivial⟩ ⟨rfl, trivial⟩ rfl ?_   -- certpathmade.Subtrees
      rintro _ _ ⟨s44, d44, rfl, rfl, hs44⟩
      refine AwOps.v hT rfl ?_
      refine AwOps.cl (F42 _) [1000] rfl ⟨⟨1000, rfl, rfl⟩, trivial⟩ ⟨rfl, trivial⟩ rfl ?_   -- certpathmade.Subtrees
      rintro _ _ ⟨s45, d45, rfl, rfl, hs45⟩
      refine AwOps.lit hT rfl ?_
      refine AwOps.turn (Tn.fz 34 rfl rfl (by first | rfl | (simp; done)) rfl) ?_
      refine AwOps.turn (Less.say (t := 34) (B := .one (.p (.sl (List.map eSub [⟨_, _⟩, ⟨_, _⟩])))) rfl rfl) ?_
      refine AwOps.v hT rfl ?_
      refine AwOps.cl (F10 _ _ (by first | omega | (simp only [w64] at *; omega) | (simp [w64] at *; omega)) (by first | omega | (simp only [w64] at *; omega) | (simp [w64] at *; omega))) [1000] rfl ⟨⟨1000, rfl, rfl⟩, ⟨rfl, rfl⟩, trivial⟩ ⟨rfl, trivial⟩ rfl ?_   -- certpathmade.Deck).Next
      rintro _ _ ⟨v46, d46, rfl, rfl, hv46, hw46⟩
      refine AwOps.v hT rfl ?_
      first | refine AwOps.nm 37 rfl (by omega) (by omega) ?_ | skip
      refine AwOps.slp hT rfl (by first | omega | (simp only [w64] at *; omega) | (simp [w64] at *; omega)) (by first | omega | (simp only [List.length_cons, List.length_nil, List.length_map]; omega) | (simp only [List.length_cons, List.length_nil, List.length_map, w64] at *; omega) | (simp [w64] at *; omega)) ?_
      refine AwOps.turn (Less.say (t := 38) (B := .one (.p (.sl (List.map eSub (List.take _ _))))) rfl (by rw [← List.map_take])) ?_
      refine AwOps.v hT rfl ?_
      refine AwOps.v hT rfl ?_
      refine AwOps.eff hT rfl ?_
      repeat (first | refine AwOps.nil ?_ | refine AwSch.nil ?_ | refine Aw.seq ?_ | refine Aw.region ?_ | refine Aw.block ?_ | refine Aw.skip ?_ | refine Aw.exit ?_ | refine Aw.condT rfl ?_ | refine Aw.condF rfl ?_)
      refine AwOps.v hT rfl ?_
      refine AwOps.eff hT rfl ?_
      repeat (first | refine AwOps.nil ?_ | refine AwSch.nil ?_ | refine Aw.seq ?_ | refine Aw.region ?_ | refine Aw.block ?_ | refine Aw.skip ?_ | refine Aw.exit ?_ | refine Aw.condT rfl ?_ | refine Aw.condF rfl ?_)
      refine Aw.ret ?_
      refine ⟨_, [_], rfl, ⟨rfl, trivial⟩, ?_⟩
      refine ⟨⟨_, ⟨_, _, _⟩, _, _, _, _, _, _⟩, _, rfl, rfl, ⟨okNm_auth _, ?_, ?_⟩, ⟨_, by assumption, rfl⟩, ?_, ?_, ?_, ?_, ?_, ?_, ?_, ?_⟩
      all_goals dsimp only
      all_goals (first | omega | (simp; done) | (rw [List.length_take]; simp; omega) | (intro x hx; cases hx; done) | (intro x hx; have hx := List.mem_of_mem_take hx; simp at hx; rcases hx with rfl | rfl <;> exact (by assumption : okSub _ ∧ _).1))
    · skip
      repeat (first | refine AwOps.nil ?_ | refine AwSch.nil ?_ | refine Aw.seq ?_ | refine Aw.region ?_ | refine Aw.block ?_ | refine Aw.skip ?_ | refine Aw.exit ?_ | refine Aw.condT rfl ?_ | refine Aw.condF rfl ?_)
      refine AwOps.v hT rfl ?_
      refine AwOps.eff hT rfl ?_
      repeat (first | refine AwOps.nil ?_ | refine AwSch.nil ?_ | refine Aw.seq ?_ | refine Aw.region ?_ | refine Aw.block ?_ | refine Aw.skip ?_ | refine Aw.exit ?_ | refine Aw.condT rfl ?_ | refine Aw.condF rfl ?_)
      refine Aw.ret ?_
      refine ⟨_, [_], rfl, ⟨rfl, trivial⟩, ?_⟩
      refine ⟨⟨_, ⟨_, _, _⟩, _, _, _, _, _, _⟩, _, rfl, rfl, ⟨okNm_auth _, ?_, ?_⟩, ⟨_, by assumption, rfl⟩, ?_, ?_, ?_, ?_, ?_, ?_, ?_, ?_⟩
      all_goals dsimp only
      all_goals (first | omega | (simp; done) | (rw [List.length_take]; simp; omega) | (intro x hx; cases hx; done) | (intro x hx; have hx := List.mem_of_mem_take hx; simp at hx; rcases hx with rfl | rfl <;> exact (by assumption : okSub _ ∧ _).1))
end Go.Proofs.YthhjfcmkelmobaaGreat.Aw
