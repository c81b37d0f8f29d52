
/- Operations over abstract states: variables in memory are made and written.
   Conditions: none; generic in the program. -/
import Derived.Test.YtbdgmondalkhlaaDoorAwStep
namespace Go.Proofs.YtbdgmondalkhlaaDoor.Aw
open Go

variable {P : Program} {C : Ctx P} {T : TT} {σ : AS} {a : Act} {w w1 : World} {β β1 : Map} {ops : Array Oper} {i : Nat} {l : List Nat} {K : AS → Prop}

theorem ev_no {o : Operand} {A : AV} {d : Nat} (h : ev σ o = some A) (hno : σ.no d = true) : A.no d = true := by
  cases o with
  | tmp t => exact AS.no_slot hno h
  | const x =>
    simp only [ev, cst] at h
    split at h
    · injection h with h; subst h; rfl
    · split at h
      · injection h with h; subst h; rfl
      · cases h
    · cases h
    · injection h with h; subst h; rfl
  | func f => injection h with h; subst h; rfl
  | global g => cases h
theorem cellAt_no {A : AV} {d j : Nat} {q : AL} (h : cellAt A j = some q) (hno : A.no d = true) : q.no d = true := by
  unfold cellAt at h
  split at h
  · injection h with h; subst h; exact hno
  · split at h
    · injection h with h; subst h; rfl
    · cases h
  · cases h

def boxOf (t : TypeId) : AV → Option Box
  | .one (.p q) => some ⟨t, [q], []⟩
  | .one x => some ⟨t, [.sl []], [(0, x)]⟩
  | .agg ps => some ⟨t, ps, []⟩
  | _ => none
theorem boxOf_ok {t : TypeId} {A : AV} {B : Box} {n : Nat} {h : List (Nat × HB)} (hb : boxOf t A = some B) (hn : cellsN h A = some n) :
    B.ty = t ∧ B.ps.length = n ∧ ∀ (j : Nat) (q : AL), ovAt B.ps B.ov j = some q → cellAt A j = some q := by
  unfold boxOf at hb
  split at hb
  · injection hb with hb
    subst hb
    simp [cellsN, solid] at hn
    subst hn
    refine ⟨rfl, rfl, fun j q hq => ?_⟩
    cases j with
    | zero => simpa [ovAt, cellAt] using hq
    | succ j => simp [ovAt] at hq
  · injection hb with hb
    subst hb
    simp only [cellsN] at hn
    split at hn
    · injection hn with hn
      subst hn
      refine ⟨rfl, rfl, fun j q hq => ?_⟩
      cases j with
      | zero => simpa [ovAt, cellAt] using hq
      | succ j =>
        rw [ovAt, lookup_cons_ne _ _ (Nat.succ_ne_zero j)] at hq
        simp at hq
    · cases hn
  · rename_i ps
    injection hb with hb
    subst hb
    injection hn with hn
    subst hn
    refine ⟨rfl, rfl, fun j q hq => ?_⟩
    simp only [ovAt, List.lookup_nil] at hq
    unfold cellAt
    cases hj : ps[j]? with
    | none => simp [hj] at hq
    | some z => simpa [hj] using hq
  · cases hb

theorem run_newVar (t : TypeId) (v : Value) : (newVar t v).run P w = .ok ⟨w.heap.size, 0, none⟩ { w with heap := w.heap.push (.cells v.cells t) } := by
  simp [newVar, newRow, newObj, Sem.run]

theorem Mv.new {N : List Nat} {h : List (Nat × HB)} {d g c : Nat} {x : HB} (hst : St (fun _ => False) w w1) (hg : w.heap.size ≤ g) : Mv N h β w ((d, x) :: h) (upd β d (.here g c)) w1 :=
  ⟨hst.mono (fun _ _ h => h.elim), fun k ⟨b, hb, x', c', h1, h2⟩ hk => by
    by_cases e : b = d
    · subst e
      rw [upd_self] at h2
      injection h2 with h2
      omega
    · rw [lookup_cons_ne _ _ e] at h1
      rw [upd_ne _ _ e] at h2
      exact ⟨b, hb, x', c', h1, h2⟩⟩
theorem Mv.over {N : List Nat} {h : List (Nat × HB)} {b g c : Nat} {x x0 : HB} (hb : h.lookup b = some x0) (hl : β b = .here g c) (hN : b ∈ N) (hst : St (fun k => k = g) w w1) : Mv N h β w ((b, x) :: h) β w1 :=
  ⟨hst.mono (fun k _ e => ⟨b, hN, x0, c, hb, by rw [e]; exact hl⟩), fun k ⟨b', hb', x', c', h1, h2⟩ _ => by
    by_cases e : b' = b
    · subst e
      exact ⟨b', hb', x0, c', hb, h2⟩
    · rw [lookup_cons_ne _ _ e] at h1
      exact ⟨b', hb', x', c', h1, h2⟩⟩

/-- A new variable, by what its cells are. -/
theorem Rel.newCells (r : Rel C σ a w β) {d : Nat} {t : TypeId} {ps : List PL} {ov : List (Nat × AL)} {cs : Array Value} (hno : σ.no d = true) (hd : d < σ.n) (hlo : d < 1000) (hl : cs.size = ps.length) (hov : ∀ (j : Nat) (q : AL), ovAt ps ov j = some q → q.no d = true)
    (hc : ∀ (j : Nat) (q : AL) (u : Value), ovAt ps ov j = some q → cs[j]? = some u → ALs (Mt C σ.h β) β w q u ∧ leaf u = true) :
    ∃ β', Rel C { σ with s := (d, .one (.ptr d 0)) :: σ.s, h := (d, .box ⟨t, ps, ov⟩) :: σ.h } (a.put (some d) (.pointer (some ⟨w.heap.size, 0, none⟩))) { w with heap := w.heap.push (.cells cs t) } β' ∧
      ∀ N, Mv N σ.h β w ((d, .box ⟨t, ps, ov⟩) :: σ.h) β' { w with heap := w.heap.push (.cells cs t) } := by
  have hst : ∀ M, St M w { w with heap := w.heap.push (.cells cs t) } := fun M => St.push M w _
  have r1 := r.new (d := d) (g := w.heap.size) (c := 0) (x := .box ⟨t, ps, ov⟩) hno hlo (hst _) (Nat.le_refl _) (by simp) (by
    refine ⟨cs, by simp, hl, fun j q u hq hu => ?_⟩
    obtain ⟨e1, e2⟩ := hc j q u hq hu
    refine ⟨ALs.move e1 (hst _) (fun k hk hm => ?_) (fun b => ?_), e2⟩
    · rcases hm with hm | ⟨b, x', cap, hb', hl'⟩
      · exact .inl hm
      · by_cases e : b = d
        · subst e
          rw [upd_self] at hl'
          injection hl' with hl'
          omega
        · rw [lookup_cons_ne _ _ e] at hb'
          rw [upd_ne _ _ e] at hl'
          exact .inr ⟨b, x', cap, hb', hl'⟩
    · by_cases e : b = d
      · subst e; exact .inr (.inr (hov j q hq))
      · exact .inl (upd_ne _ _ e))
  refine ⟨_, r1.put (x := .one (.ptr d 0)) hd ?_, fun N => Mv.new (hst _) (Nat.le_refl _)⟩
  simp only [AVs, AV.rep, AL.rep, upd_self]

/-- A new variable that holds what a value says. -/
theorem Rel.newBox (r : Rel C σ a w β) {d n : Nat} {t : TypeId} {A : AV} {B : Box} {y : Value} (hno : σ.no d = true) (hd : d < σ.n) (hlo : d < 1000) (hA : A.no d = true) (hb : boxOf t A = some B) (hn : cellsN σ.h A = some n)
    (hv : AVs (Mt C σ.h β) β w A y) : ∃ β', Rel C { σ with s := (d, .one (.ptr d 0)) :: σ.s, h := (d, .box B) :: σ.h } (a.put (some d) (.pointer (some ⟨w.heap.size, 0, none⟩))) { w with heap := w.heap.push (.cells y.cells t) } β' ∧
      ∀ N, Mv N σ.h β w ((d, .box B) :: σ.h) β' { w with heap := w.heap.push (.cells y.cells t) } := by
  obtain ⟨h1, h2, h3⟩ := boxOf_ok hb hn
  obtain ⟨c1, c2⟩ := cells_ok r hn hv
  obtain ⟨bt, bp, bo⟩ := B
  simp only at h1 h2 h3
  subst h1
  refine r.newCells hno hd hlo (by rw [h2, ← c1]; simp) (fun j q hq => cellAt_no (h3 j q hq) hA) fun j q u hq hu => ?_
  obtain ⟨e1, e2⟩ := c2 j u (by simpa using hu)
  exact ⟨e2 q (h3 j q hq), e1⟩

def isNilPL : PL → Bool
  | .sl [] => true
  | _ => false
theorem isNilPL_ok {q : PL} (h : isNilPL q = true) : q = .sl [] := by
  unfold isNilPL at h
  split at h
  · rfl
  · cases h
def zeroOv : Nat → List PL → List (Nat × AL)
  | _, [] => []
  | k, q :: r => if isNilPL q then (k, .nil) :: zeroOv (k + 1) r else zeroOv (k + 1) r
theorem zeroOv_look : ∀ {ps : List PL} {k j : Nat} {x : AL}, (zeroOv k ps).lookup j = some x → ∃ i, j = k + i ∧ ps[i]? = some (.sl []) ∧ x = .nil
  | [], _, _, _, h => by simp [zeroOv] at h
  | q :: r, k, j, x, h => by
    rw [zeroOv] at h
    split at h
    · rename_i hq
      by_cases e : j = k
      · subst e
        rw [lookup_cons_self] at h
        injection h with h
        exact ⟨0, rfl, by rw [isNilPL_ok hq]; rfl, h.symm⟩
      · rw [lookup_cons_ne _ _ e] at h
        obtain ⟨i, h1, h2, h3⟩ := zeroOv_look h
        exact ⟨i + 1, by omega, by simpa using h2, h3⟩
    · obtain ⟨i, h1, h2, h3⟩ := zeroOv_look h
      exact ⟨i + 1, by omega, by simpa using h2, h3⟩

def stepE (T : TT) (ops : Array Oper) (i n : Nat) (s : List (Nat × AV)) (h : List (Nat × HB)) : Option (List (Nat × AV) × List (Nat × HB)) := match ops[i]? with
  | some o => match gd ops ⟨n, s, h⟩ o, o.op, o.dst with
    | some true, .store t x v, none => match T.lookup t, ev ⟨n, s, h⟩ x, ev ⟨n, s, h⟩ v with
      | some ti, some (.one (.ptr b off)), some A => match h.lookup b, cellsN h A with
        | some (.box B), some m => if m = ti.size then (match putAt B off A with
          | some B' => some (s, (b, .box B') :: h)
          | none => none) else none
        | _, _ => none
      | _, _, _ => none
    | some true, .alloc t, some d => match T.lookup t with
      | some ti => if d < n ∧ d < 1000 ∧ AS.no d ⟨n, s, h⟩ = true then some ((d, .one (.ptr d 0)) :: s, (d, .box ⟨t, ti.zero, zeroOv 0 ti.zero⟩) :: h) else none
      | none => none
    | some true, .box t v, some d => match ev ⟨n, s, h⟩ v with
      | some A => match boxOf t A, cellsN h A with
        | some B, some _ => if d < n ∧ d < 1000 ∧ AS.no d ⟨n, s, h⟩ = true then some ((d, .one (.ptr d 0)) :: s, (d, .box B) :: h) else none
        | _, _ => none
      | none => none
    | _, _, _ => none
  | none => none

theorem zero_ats {F : Nat → Prop} {z : Value} (h : z.cells.toList.all leaf = true) : PL.ats w F (z.cells.toList.map cpl) z.cells.toList := by
  refine PL.ats_mk (by simp) fun j p y hp hy => ?_
  rw [List.getElem?_map, hy] at hp
  simp at hp
  subst hp
  exact cpl_at w _ (List.all_eq_true.1 h _ (List.mem_of_getElem? hy))

/-- The named place that is written. -/
def wrE (ops : Array Oper) (i : Nat) (σ : AS) : Option Nat := match ops[i]? with
  | some o => match o.op with
    | .store _ x _ => match ev σ x with
      | some (.one (.ptr b _)) => some b
      | _ => none
    | _ => none
  | none => none
/-- An operation that makes a variable, or writes one. -/
theorem Ed.eff (hT : TT.ok P T) {N : List Nat} {n : Nat} {s s' : List (Nat × AV)} {h h' : List (Nat × HB)} (hs : stepE T ops i n s h = some (s', h')) (hN : ∀ b, wrE ops i ⟨n, s, h⟩ = some b → b ∈ N) (hK : K ⟨n, s', h'⟩) : Ed P C ops N i ⟨n, s, h⟩ K := by
  unfold stepE at hs
  split at hs
  · rename_i o ho
    split at hs
    · rename_i t x v hg hop hd
      split at hs
      · rename_i ti b off A hti hx hv
        split at hs
        · rename_i B m hb hn
          split at hs
          · rename_i hsz
            split at hs
            · rename_i B' hB'
              injection hs with hs
              injection hs with hs1 hs2
              subst hs1 hs2
              refine Ed.of ho hg fun a w β r _ => ?_
              obtain ⟨p1, p2, p3, p4⟩ := putAt_ok hB' hn
              obtain ⟨c1, c2⟩ := cells_ok r hn (r.ev hv)
              have hx' := r.ev hx
              have hok := r.heap b _ hb
              simp only [AVs, AV.rep, AL.rep] at hx'
              cases hl : β b with
              | here g c =>
                rw [hl] at hx' hok
                obtain ⟨arr, k1, k2, k3⟩ := hok
                obtain ⟨xi, d, z, i1, i2, i3, i4, _⟩ := TI.info (hT _ _ hti)
                obtain ⟨arr', q1, q2, q3⟩ := run_storeCells (P := P) (a.eval v).cells.toList w arr off 0 k1 (by rw [c1, k2]; omega) (fun j _ => by simp) (fun u hu => by obtain ⟨j, hj⟩ := List.getElem?_of_mem hu; exact (c2 j u hj).1)
                have hrun : (execOp a.eval o).run P w = .ok .skip (setBlk w g (.cells arr' B.ty (0, 0))) := by
                  have hs : (a.eval v).cells.size = ti.size := by rw [← hsz, ← c1]; simp
                  simp [execOp, hop, Instr.storeAt, hx', Instr.sureAddr, storeVar, run_size' i1, i4, hs, q1]
                simp only [Oper.wp, hrun, Oper.upon_skip, hd, Act.put]
                have hstg : St (fun k => k = g) w (setBlk w g (.cells arr' B.ty (0, 0))) := setBlk_st w g _ rfl
                have hstM : St (Mt C h β) w (setBlk w g (.cells arr' B.ty (0, 0))) := hstg.mono (fun k _ e => .inr ⟨b, _, c, hb, by rw [e]; exact hl⟩)
                have hMM : ∀ k, k < w.heap.size → Mt C ((b, HB.box B') :: h) β k → Mt C h β k := fun k _ hm => by
                  rcases hm with hm | ⟨b', x', cap, hb', hl'⟩
                  · exact .inl hm
                  · by_cases e : b' = b
                    · subst e; exact .inr ⟨b', _, cap, hb, hl'⟩
                    · rw [lookup_cons_ne _ _ e] at hb'; exact .inr ⟨b', x', cap, hb', hl'⟩
                refine ⟨_, β, hK, r.over hb hl hstg ⟨arr', ?_, by rw [q2, k2, p2], fun j q u hq hu => ?_⟩, Mv.over hb hl (hN b (by simp [wrE, ho, hop, hx])) hstg⟩
                · rw [p1]; exact setBlk_at _ _ _ (r.young b _ g c hb hl).1
                · have h4 := p4 j q hq
                  rw [q3 j] at hu
                  simp only [Nat.add_zero, c1] at hu
                  split at h4
                  · rename_i hin
                    rw [if_pos hin] at hu
                    exact ⟨((c2 _ u hu).2 q h4).move hstM hMM (Tells.refl _ _), (c2 _ u hu).1⟩
                  · rename_i hin
                    rw [if_neg hin] at hu
                    exact ⟨(k3 j q u h4 hu).1.move hstM hMM (Tells.refl _ _), (k3 j q u h4 hu).2⟩
              | nil => rw [hl] at hok; exact hok.elim
              | dead => rw [hl] at hok; exact hok.elim
            · cases hs
          · cases hs
        · cases hs
      · cases hs
    · rename_i t d hg hop hd
      split at hs
      · rename_i ti hti
        split at hs
        · rename_i hc
          injection hs with hs
          injection hs with hs1 hs2
          subst hs1 hs2
          refine Ed.of ho hg fun a w β r _ => ?_
          obtain ⟨xi, dd, z, i1, i2, i3, i4, i5, i6, i7, i8, i9⟩ := TI.info (hT _ _ hti)
          have hats : PL.ats w (good (Mt C h β) w) ti.zero z.cells.toList := by rw [← i8]; exact zero_ats i9
          have hrun : (execOp a.eval o).run P w = .ok (.value (.pointer (some ⟨w.heap.size, 0, none⟩))) { w with heap := w.heap.push (.cells z.cells t) } := by
            simp [execOp, hop, Instr.alloc, run_zero' i1 i3, run_newVar]
          simp only [Oper.wp, hrun, Oper.upon_value, hd]
          have hcp : ∀ (j : Nat) (u : Value), z.cells[j]? = some u → ti.zero[j]? = some (cpl u) := fun j u hu => by
            rw [← i8, List.getElem?_map]
            simp [hu]
          have hA : ∀ (j : Nat) (q : AL), ovAt ti.zero (zeroOv 0 ti.zero) j = some q → q.no d = true := fun j q hq => by
            unfold ovAt at hq
            split at hq
            · rename_i x hx
              injection hq with hq
              subst hq
              obtain ⟨_, _, _, e⟩ := zeroOv_look hx
              rw [e]; rfl
            · cases hz : ti.zero[j]? with
              | none => simp [hz] at hq
              | some p => simp [hz] at hq; subst hq; rfl
          have hB : ∀ (j : Nat) (q : AL) (u : Value), ovAt ti.zero (zeroOv 0 ti.zero) j = some q → z.cells[j]? = some u → ALs (Mt C h β) β w q u ∧ leaf u = true := fun j q u hq hu => by
            have hu' : z.cells.toList[j]? = some u := by simpa using hu
            have hlf : leaf u = true := List.all_eq_true.1 i9 _ (List.mem_of_getElem? hu')
            refine ⟨?_, hlf⟩
            unfold ovAt at hq
            split at hq
            · rename_i x hx
              injection hq with hq
              subst hq
              obtain ⟨k, e1, e2, e3⟩ := zeroOv_look hx
              rw [Nat.zero_add] at e1
              subst e1
              rw [hcp _ u hu] at e2
              injection e2 with e2
              subst e3
              unfold cpl at e2
              split at e2
              · rfl
              · cases e2
            · rw [hcp j u hu] at hq
              simp at hq
              subst hq
              exact cpl_at w _ hlf
          obtain ⟨β', h1, h2⟩ := r.newCells (t := t) hc.2.2 hc.1 hc.2.1 (by rw [← i8]; simp) hA hB
          exact ⟨_, β', hK, h1, h2 N⟩
        · cases hs
      · cases hs
    · rename_i t v d hg hop hd
      split at hs
      · rename_i A hA
        split at hs
        · rename_i B m hB hn
          split at hs
          · rename_i hc
            injection hs with hs
            injection hs with hs1 hs2
            subst hs1 hs2
            refine Ed.of ho hg fun a w β r _ => ?_
            have hrun : (execOp a.eval o).run P w = .ok (.value (.pointer (some ⟨w.heap.size, 0, none⟩))) { w with heap := w.heap.push (.cells (a.eval v).cells t) } := by
              simp [execOp, hop, Instr.box, run_newVar]
            simp only [Oper.wp, hrun, Oper.upon_value, hd]
            obtain ⟨β', h1, h2⟩ := r.newBox hc.2.2 hc.1 hc.2.1 (ev_no hA hc.2.2) hB hn (r.ev hA)
            exact ⟨_, β', hK, h1, h2 N⟩
          · cases hs
        · cases hs
      · cases hs
    · cases hs
  · cases hs

theorem AwOps.eff (hT : TT.ok P T) {n : Nat} {s s' : List (Nat × AV)} {h h' : List (Nat × HB)} (hs : stepE T ops i n s h = some (s', h')) (hK : AwOps P C ops l ⟨n, s', h'⟩ K) : AwOps P C ops (i :: l) ⟨n, s, h⟩ K :=
  AwOps.ed (N := (wrE ops i ⟨n, s, h⟩).toList) (Ed.eff hT hs (fun b hb => by simp [hb]) hK)

/-- An operation that yields a value, over a state that lies open. -/
theorem AwOps.v (hT : TT.ok P T) {n d : Nat} {s : List (Nat × AV)} {h : List (Nat × HB)} {A : AV} (hs : stepV T ops i ⟨n, s, h⟩ = some (d, A)) (hK : AwOps P C ops l ⟨n, (d, A) :: s, h⟩ K) : AwOps P C ops (i :: l) ⟨n, s, h⟩ K := AwOps.val hT hs hK

end Go.Proofs.YtbdgmondalkhlaaDoor.Aw
