
/- The walks of the makers of certificates, queries, states.
   Conditions: none. -/
import Derived.Test.YtbdgmondalkhlaaDoorWkHash
import Derived.Laws.StructEq
import Derived.KernelRfl
namespace Go.Proofs.YtbdgmondalkhlaaDoor.Aw
open Go
set_option maxRecDepth 100000
set_option maxHeartbeats 4000000
set_option linter.unusedSimpArgs false
set_option linter.unusedVariables false

/-- Extensions that are not too long. -/
def okI (i : Info) : Prop := i.policies.length ≤ 1000 ∧ i.mappings.length ≤ 1000 ∧ i.purposes.length ≤ 1000 ∧ i.unknown.length ≤ 1000 ∧ okGs i.names ∧ okSub i.constraints ∧ okPts i.points ∧ okPts i.freshest
/-- The numbers of the extensions are -1 or more. -/
def okE (i : Info) : Prop := -1 ≤ i.requireExplicit ∧ -1 ≤ i.inhibitMapping ∧ -1 ≤ i.inhibitAny
theorem okI_none : okI noneS := ⟨by decide, by decide, by decide, by decide, okGs_nil, ⟨okGs_nil, okGs_nil⟩, okPts_nil, okPts_nil⟩
theorem okGs_take {l : List Gn} (k : Nat) (h : okGs l) : okGs (l.take k) := ⟨by have := h.1; rw [List.length_take]; omega, fun g hg => h.2 g (List.mem_of_mem_take hg)⟩
theorem okGs_two {a b : Gn} (ha : okG a) (hb : okG b) : okGs [a, b] := ⟨by simp, fun g hg => by simp at hg; rcases hg with rfl | rfl <;> assumption⟩
def meq (a b : Mapp) : Bool := seq a.i b.i && seq a.s b.s
def keq (a b : Key) : Bool := (a.h == b.h) && (seq a.id b.id && seq a.root b.root)
def aeq (a b : Attr) : Bool := seq a.t b.t && ((a.k == b.k) && seq a.v b.v)
theorem run_part' {P : Program} {t : TypeId} {d : TypeDesc} (h : P.underlying t = some d) (ha : aggT P t = false) (cs : Array Value) (o : Nat) (v : Value) (hv : cs[o]? = some v) (w : World) : (part t cs o).run P w = .ok v w := by
  simp [part, Sem.run_bind, run_isAgg' h, ha, hv]
theorem run_eqs {P : Program} {d : Nat} {t : TypeId} (h : P.underlying t = some .string) (a b : ByteArray) (w : World) : (Op.equalIn (d + 1) t (.string a) (.string b)).run P w = .ok (seq a b) w := run_equalIn_string w d t a b h
theorem run_eqi {P : Program} {d : Nat} {t : TypeId} (h : P.underlying t = some (.int .i64)) (a b : Int) (w : World) : (Op.equalIn (d + 1) t (.int .i64 a) (.int .i64 b)).run P w = .ok (a == b) w := run_equalIn_int w d t .i64 .i64 a b h
theorem und9 : Tryd.prog.underlying 9 = some .string := by kernel_rfl
theorem und3 : Tryd.prog.underlying 3 = some (.int .i64) := by kernel_rfl
theorem ag9 : aggT Tryd.prog 9 = false := by kernel_rfl
theorem ag3 : aggT Tryd.prog 3 = false := by kernel_rfl
theorem eqg_eMapp : Tryd.prog.eqGuardType Tryd.prog.depth 143 = false := by kernel_rfl
theorem stood_eMapp : Tryd.prog.stoodInHeld 143 = false := by kernel_rfl
theorem und_eMapp : Tryd.prog.underlying 143 = some (.struct #[{ name := "Issuer", type := 9, offset := 0, byteOffset := 0, embedded := false, tag := "", pkgPath := "" }, { name := "Subject", type := 9, offset := 1, byteOffset := 16, embedded := false, tag := "", pkgPath := "" }]) := by kernel_rfl
theorem eqin_eMapp (a b : Mapp) (w : World) : (Op.equalIn (9999 + 1) 143 (.agg #[.string a.i, .string a.s]) (.agg #[.string b.i, .string b.s])).run Tryd.prog w = .ok (meq a b) w := by
  rw [Op.equalIn, Sem.run_bind, run_underlying' und_eMapp]
  simp only [Result.andThen_ok]
  simp [program, Sem.run, Sem.run_bind, stood_eMapp, run_part' und9 ag9 #[.string a.i, .string a.s] 0 _ rfl, run_part' und9 ag9 #[.string a.i, .string a.s] 1 _ rfl, run_part' und9 ag9 #[.string b.i, .string b.s] 0 _ rfl, run_part' und9 ag9 #[.string b.i, .string b.s] 1 _ rfl, run_eqs und9, run_eqi und3]
  unfold meq
  (repeat' split) <;> simp_all
theorem eql_eMapp {x y : Operand} (a b : Mapp) : BinRun Tryd.prog .eql 143 x y (.agg #[.string a.i, .string a.s]) (.agg #[.string b.i, .string b.s]) (.bool ((meq a b))) := fun w => by
  have e1 : ∀ w, (eqGuard .eql 143 x y (.agg #[.string a.i, .string a.s]) (.agg #[.string b.i, .string b.s])).run Tryd.prog w = .ok () w := fun w => by simp [eqGuard, program, Sem.run, Sem.run_bind, eqg_eMapp]
  rw [Sem.run_bind, e1]
  simp only [Result.andThen_ok]
  rw [run_eql_struct]
  rw [eqin_eMapp]
  rfl
theorem neq_eMapp {x y : Operand} (a b : Mapp) : BinRun Tryd.prog .neq 143 x y (.agg #[.string a.i, .string a.s]) (.agg #[.string b.i, .string b.s]) (.bool (!(meq a b))) := fun w => by
  have e1 : ∀ w, (eqGuard .neq 143 x y (.agg #[.string a.i, .string a.s]) (.agg #[.string b.i, .string b.s])).run Tryd.prog w = .ok () w := fun w => by simp [eqGuard, program, Sem.run, Sem.run_bind, eqg_eMapp]
  rw [Sem.run_bind, e1]
  simp only [Result.andThen_ok]
  rw [run_neq_struct]
  rw [eqin_eMapp]
  rfl
theorem eqg_eKey : Tryd.prog.eqGuardType Tryd.prog.depth 27 = false := by kernel_rfl
theorem stood_eKey : Tryd.prog.stoodInHeld 27 = false := by kernel_rfl
theorem und_eKey : Tryd.prog.underlying 27 = some (.struct #[{ name := "Height", type := 3, offset := 0, byteOffset := 0, embedded := false, tag := "", pkgPath := "" }, { name := "ID", type := 9, offset := 1, byteOffset := 8, embedded := false, tag := "", pkgPath := "" }, { name := "Root", type := 9, offset := 2, byteOffset := 24, embedded := false, tag := "", pkgPath := "" }]) := by kernel_rfl
theorem eqin_eKey (a b : Key) (w : World) : (Op.equalIn (9999 + 1) 27 (.agg #[.int .i64 a.h, .string a.id, .string a.root]) (.agg #[.int .i64 b.h, .string b.id, .string b.root])).run Tryd.prog w = .ok (keq a b) w := by
  rw [Op.equalIn, Sem.run_bind, run_underlying' und_eKey]
  simp only [Result.andThen_ok]
  simp [program, Sem.run, Sem.run_bind, stood_eKey, run_part' und3 ag3 #[.int .i64 a.h, .string a.id, .string a.root] 0 _ rfl, run_part' und9 ag9 #[.int .i64 a.h, .string a.id, .string a.root] 1 _ rfl, run_part' und9 ag9 #[.int .i64 a.h, .string a.id, .string a.root] 2 _ rfl, run_part' und3 ag3 #[.int .i64 b.h, .string b.id, .string b.root] 0 _ rfl, run_part' und9 ag9 #[.int .i64 b.h, .string b.id, .string b.root] 1 _ rfl, run_part' und9 ag9 #[.int .i64 b.h, .string b.id, .string b.root] 2 _ rfl, run_eqs und9, run_eqi und3]
  unfold keq
  (repeat' split) <;> simp_all
theorem eql_eKey {x y : Operand} (a b : Key) : BinRun Tryd.prog .eql 27 x y (.agg #[.int .i64 a.h, .string a.id, .string a.root]) (.agg #[.int .i64 b.h, .string b.id, .string b.root]) (.bool ((keq a b))) := fun w => by
  have e1 : ∀ w, (eqGuard .eql 27 x y (.agg #[.int .i64 a.h, .string a.id, .string a.root]) (.agg #[.int .i64 b.h, .string b.id, .string b.root])).run Tryd.prog w = .ok () w := fun w => by simp [eqGuard, program, Sem.run, Sem.run_bind, eqg_eKey]
  rw [Sem.run_bind, e1]
  simp only [Result.andThen_ok]
  rw [run_eql_struct]
  rw [eqin_eKey]
  rfl
theorem neq_eKey {x y : Operand} (a b : Key) : BinRun Tryd.prog .neq 27 x y (.agg #[.int .i64 a.h, .string a.id, .string a.root]) (.agg #[.int .i64 b.h, .string b.id, .string b.root]) (.bool (!(keq a b))) := fun w => by
  have e1 : ∀ w, (eqGuard .neq 27 x y (.agg #[.int .i64 a.h, .string a.id, .string a.root]) (.agg #[.int .i64 b.h, .string b.id, .string b.root])).run Tryd.prog w = .ok () w := fun w => by simp [eqGuard, program, Sem.run, Sem.run_bind, eqg_eKey]
  rw [Sem.run_bind, e1]
  simp only [Result.andThen_ok]
  rw [run_neq_struct]
  rw [eqin_eKey]
  rfl
theorem eqg_eAttr : Tryd.prog.eqGuardType Tryd.prog.depth 78 = false := by kernel_rfl
theorem stood_eAttr : Tryd.prog.stoodInHeld 78 = false := by kernel_rfl
theorem und_eAttr : Tryd.prog.underlying 78 = some (.struct #[{ name := "Type", type := 9, offset := 0, byteOffset := 0, embedded := false, tag := "", pkgPath := "" }, { name := "Kind", type := 3, offset := 1, byteOffset := 16, embedded := false, tag := "", pkgPath := "" }, { name := "Value", type := 9, offset := 2, byteOffset := 24, embedded := false, tag := "", pkgPath := "" }]) := by kernel_rfl
theorem eqin_eAttr (a b : Attr) (w : World) : (Op.equalIn (9999 + 1) 78 (.agg #[.string a.t, .int .i64 a.k, .string a.v]) (.agg #[.string b.t, .int .i64 b.k, .string b.v])).run Tryd.prog w = .ok (aeq a b) w := by
  rw [Op.equalIn, Sem.run_bind, run_underlying' und_eAttr]
  simp only [Result.andThen_ok]
  simp [program, Sem.run, Sem.run_bind, stood_eAttr, run_part' und9 ag9 #[.string a.t, .int .i64 a.k, .string a.v] 0 _ rfl, run_part' und3 ag3 #[.string a.t, .int .i64 a.k, .string a.v] 1 _ rfl, run_part' und9 ag9 #[.string a.t, .int .i64 a.k, .string a.v] 2 _ rfl, run_part' und9 ag9 #[.string b.t, .int .i64 b.k, .string b.v] 0 _ rfl, run_part' und3 ag3 #[.string b.t, .int .i64 b.k, .string b.v] 1 _ rfl, run_part' und9 ag9 #[.string b.t, .int .i64 b.k, .string b.v] 2 _ rfl, run_eqs und9, run_eqi und3]
  unfold aeq
  (repeat' split) <;> simp_all
theorem eql_eAttr {x y : Operand} (a b : Attr) : BinRun Tryd.prog .eql 78 x y (.agg #[.string a.t, .int .i64 a.k, .string a.v]) (.agg #[.string b.t, .int .i64 b.k, .string b.v]) (.bool ((aeq a b))) := fun w => by
  have e1 : ∀ w, (eqGuard .eql 78 x y (.agg #[.string a.t, .int .i64 a.k, .string a.v]) (.agg #[.string b.t, .int .i64 b.k, .string b.v])).run Tryd.prog w = .ok () w := fun w => by simp [eqGuard, program, Sem.run, Sem.run_bind, eqg_eAttr]
  rw [Sem.run_bind, e1]
  simp only [Result.andThen_ok]
  rw [run_eql_struct]
  rw [eqin_eAttr]
  rfl
theorem neq_eAttr {x y : Operand} (a b : Attr) : BinRun Tryd.prog .neq 78 x y (.agg #[.string a.t, .int .i64 a.k, .string a.v]) (.agg #[.string b.t, .int .i64 b.k, .string b.v]) (.bool (!(aeq a b))) := fun w => by
  have e1 : ∀ w, (eqGuard .neq 78 x y (.agg #[.string a.t, .int .i64 a.k, .string a.v]) (.agg #[.string b.t, .int .i64 b.k, .string b.v])).run Tryd.prog w = .ok () w := fun w => by simp [eqGuard, program, Sem.run, Sem.run_bind, eqg_eAttr]
  rw [Sem.run_bind, e1]
  simp only [Result.andThen_ok]
  rw [run_neq_struct]
  rw [eqin_eAttr]
  rfl
/-- Queries, states that are not too long. -/
def okQ (q : Query) : Prop := q.policies.length ≤ 1000 ∧ okGs q.names ∧ q.issuers.length ≤ 1000 ∧ ∀ a ∈ q.issuers, okNm a.name
def okP (s : Progress) : Prop := okNm s.issuer ∧ s.cons.length ≤ 1000 ∧ ∀ x ∈ s.cons, okSub x
theorem okGs_one {a : Gn} (ha : okG a) : okGs [a] := ⟨by simp, fun g hg => by simp at hg; rcases hg with rfl; assumption⟩
end Go.Proofs.YtbdgmondalkhlaaDoor.Aw
