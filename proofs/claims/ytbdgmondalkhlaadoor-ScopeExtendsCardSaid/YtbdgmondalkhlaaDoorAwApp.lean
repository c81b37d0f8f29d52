
/- Append to a row of one's own; what is read of rows; rows that are no longer written.
   Conditions: none; generic in the program. -/
import Derived.Test.YtbdgmondalkhlaaDoorAwRow
namespace Go.Proofs.YtbdgmondalkhlaaDoor.Aw
open Go

variable {P : Program} {C : Ctx P} {T : TT} {σ : AS} {a : Act} {w w1 : World} {β β1 : Map} {ops : Array Oper} {i : Nat} {l : List Nat} {K : AS → Prop} {F : Nat → Prop}

def goneH (ob : Option Nat) (h : List (Nat × HB)) : List (Nat × HB) := match ob with
  | some b => (b, .gone) :: h
  | none => h
def goneM (ob : Option Nat) (β : Map) : Map := match ob with
  | some b => upd β b .dead
  | none => β
theorem goneM_ne {ob : Option Nat} {b : Nat} (h : ob ≠ some b) : goneM ob β b = β b := by
  cases ob with
  | none => rfl
  | some c => exact upd_ne _ _ (fun e => h (by rw [e]))
theorem goneH_ne {ob : Option Nat} {b : Nat} {h : List (Nat × HB)} (hn : ob ≠ some b) : (goneH ob h).lookup b = h.lookup b := by
  cases ob with
  | none => rfl
  | some c => exact lookup_cons_ne _ _ (fun e => hn (by rw [e]))
theorem goneH_at {b : Nat} {h : List (Nat × HB)} : (goneH (some b) h).lookup b = some .gone := lookup_cons_self _ _ _
theorem goneM_at {b : Nat} : goneM (some b) β b = .dead := upd_self _ _ _

section row
variable {d : Nat} {ob : Option Nat} {x : HB} {loc : Loc}
theorem row_live (hloc : ∀ g c, loc = .here g c → g < w1.heap.size ∧ (w.heap.size ≤ g ∨ ∃ b c', ob = some b ∧ β b = .here g c')) (hob : ∀ b, ob = some b → b < 1000 ∧ ∃ x0, σ.h.lookup b = some x0) :
    ∀ k, k < w.heap.size → live ((d, x) :: goneH ob σ.h) (upd (goneM ob β) d loc) k → live σ.h β k := by
  rintro k hk ⟨b, x', cap, hb, hl⟩
  by_cases e : b = d
  · subst e
    rw [upd_self] at hl
    rcases (hloc k cap hl).2 with h | ⟨b', c', h1, h2⟩
    · omega
    · obtain ⟨x0, hx0⟩ := (hob b' h1).2
      exact ⟨b', x0, c', hx0, h2⟩
  · rw [lookup_cons_ne _ _ e] at hb
    rw [upd_ne _ _ e] at hl
    by_cases e' : ob = some b
    · subst e'
      rw [goneM_at] at hl
      cases hl
    · rw [goneH_ne e'] at hb
      rw [goneM_ne e'] at hl
      exact ⟨b, x', cap, hb, hl⟩
theorem row_good (hst : St (fun k => ∃ b c, ob = some b ∧ β b = .here k c) w w1) (hloc : ∀ g c, loc = .here g c → g < w1.heap.size ∧ (w.heap.size ≤ g ∨ ∃ b c', ob = some b ∧ β b = .here g c')) (hob : ∀ b, ob = some b → b < 1000 ∧ ∃ x0, σ.h.lookup b = some x0) :
    ∀ k, good (Mt C σ.h β) w k → good (Mt C ((d, x) :: goneH ob σ.h) (upd (goneM ob β) d loc)) w1 k ∧ w1.heap[k]? = w.heap[k]? := by
  intro k hk
  refine ⟨⟨Nat.lt_of_lt_of_le hk.1 hst.size, fun hm => hk.2 (hm.imp id (row_live hloc hob k hk.1))⟩, hst.same k hk.1 ?_⟩
  rintro ⟨b, c, h1, h2⟩
  obtain ⟨x0, hx0⟩ := (hob b h1).2
  exact hk.2 (.inr ⟨b, x0, c, hx0, h2⟩)

theorem row_mv {N : List Nat} (hst : St (fun k => ∃ b c, ob = some b ∧ β b = .here k c) w w1) (hloc : ∀ g c, loc = .here g c → g < w1.heap.size ∧ (w.heap.size ≤ g ∨ ∃ b c', ob = some b ∧ β b = .here g c')) (hob : ∀ b, ob = some b → b < 1000 ∧ ∃ x0, σ.h.lookup b = some x0)
    (hN : ∀ b, ob = some b → b ∈ N) : Mv N σ.h β w ((d, x) :: goneH ob σ.h) (upd (goneM ob β) d loc) w1 := by
  refine ⟨hst.mono fun k _ ⟨b, c, h1, h2⟩ => ?_, ?_⟩
  · obtain ⟨x0, hx0⟩ := (hob b h1).2
    exact ⟨b, hN b h1, x0, c, hx0, h2⟩
  · rintro k ⟨b, hbN, x', cap, hb, hl⟩ hk
    by_cases e : b = d
    · subst e
      rw [upd_self] at hl
      rcases (hloc k cap hl).2 with h | ⟨b', c', h1, h2⟩
      · omega
      · obtain ⟨x0, hx0⟩ := (hob b' h1).2
        exact ⟨b', hN b' h1, x0, c', hx0, h2⟩
    · rw [lookup_cons_ne _ _ e] at hb
      rw [upd_ne _ _ e] at hl
      by_cases e' : ob = some b
      · subst e'
        rw [goneM_at] at hl
        cases hl
      · rw [goneH_ne e'] at hb
        rw [goneM_ne e'] at hl
        exact ⟨b, hbN, x', cap, hb, hl⟩

/-- A row takes another's place, or is new. -/
theorem Rel.row (r : Rel C σ a w β) (hno : σ.no d = true) (hlo : d < 1000) (hob : ∀ b, ob = some b → b < 1000 ∧ ∃ x0, σ.h.lookup b = some x0)
    (hst : St (fun k => ∃ b c, ob = some b ∧ β b = .here k c) w w1) (hloc : ∀ g c, loc = .here g c → g < w1.heap.size ∧ (w.heap.size ≤ g ∨ ∃ b c', ob = some b ∧ β b = .here g c'))
    (hx : HB.ok (Mt C ((d, x) :: goneH ob σ.h) (upd (goneM ob β) d loc)) (upd (goneM ob β) d loc) w1 x loc) : Rel C { σ with h := (d, x) :: goneH ob σ.h } a w1 (upd (goneM ob β) d loc) := by
  have hdn : σ.h.lookup d = none := AS.no_look hno
  have hbd : ∀ b, ob = some b → b ≠ d := fun b hb e => by
    obtain ⟨x0, hx0⟩ := (hob b hb).2
    rw [e, hdn] at hx0
    cases hx0
  have young' : ∀ b x' g c, σ.h.lookup b = some x' → β b = .here g c → b < 1000 → C.w0.heap.size ≤ g := fun b x' g c h1 h2 h3 => by
    rcases (r.young b x' g c h1 h2).2 with h | h
    · exact h
    · have := r.pbhi b g h
      omega
  refine r.turn (hst.mono fun k _ ⟨b, c, h1, h2⟩ => by obtain ⟨x0, hx0⟩ := (hob b h1).2; exact ⟨b, x0, c, hx0, h2⟩) ?_ ?_ (row_live hloc hob) ?_ ?_ ?_
  · intro b g hb
    have h1 := r.pbhi b g hb
    have e : b ≠ d := by omega
    have e' : ob ≠ some b := fun h => by have := (hob b h).1; omega
    rw [upd_ne _ _ e, goneM_ne e']
    exact r.pbl b g hb
  · intro b
    by_cases e : b = d
    · subst e; exact .inr (.inr hno)
    · rw [upd_ne _ _ e]
      by_cases e' : ob = some b
      · subst e'; exact .inr (.inl goneM_at)
      · exact .inl (goneM_ne e')
  · intro b x' hb
    by_cases e : b = d
    · subst e
      rw [lookup_cons_self] at hb
      injection hb with hb
      subst hb
      rw [upd_self]
      exact .inr hx
    · rw [lookup_cons_ne _ _ e] at hb
      rw [upd_ne _ _ e]
      by_cases e' : ob = some b
      · subst e'
        rw [goneH_at] at hb
        injection hb with hb
        subst hb
        rw [goneM_at]
        exact .inr trivial
      · rw [goneH_ne e'] at hb
        refine .inl ⟨hb, goneM_ne e', fun g c hg => hst.same g (r.young b x' g c hb hg).1 ?_⟩
        rintro ⟨b', c', h1, h2⟩
        obtain ⟨x0, hx0⟩ := (hob b' h1).2
        exact e' (by rw [h1, r.apart b' b _ _ g c' c hx0 hb h2 hg])
  · intro b x' g c hb hl
    by_cases e : b = d
    · subst e
      rw [upd_self] at hl
      obtain ⟨h1, h2⟩ := hloc g c hl
      refine ⟨h1, .inl ?_⟩
      rcases h2 with h2 | ⟨b', c', h3, h4⟩
      · exact Nat.le_trans r.wlt h2
      · obtain ⟨hlo', x0, hx0⟩ := hob b' h3
        exact young' b' x0 g c' hx0 h4 hlo'
    · rw [lookup_cons_ne _ _ e] at hb
      rw [upd_ne _ _ e] at hl
      by_cases e' : ob = some b
      · subst e'; rw [goneM_at] at hl; cases hl
      · rw [goneH_ne e'] at hb
        rw [goneM_ne e'] at hl
        have := r.young b x' g c hb hl
        exact ⟨Nat.lt_of_lt_of_le this.1 hst.size, this.2⟩
  · have key : ∀ b x' g c c', b ≠ d → ((d, x) :: goneH ob σ.h).lookup b = some x' → upd (goneM ob β) d loc b = .here g c → loc = .here g c' → False := by
      intro b x' g c c' e hb hl hlc
      rw [lookup_cons_ne _ _ e] at hb
      rw [upd_ne _ _ e] at hl
      by_cases e' : ob = some b
      · subst e'; rw [goneM_at] at hl; cases hl
      · rw [goneH_ne e'] at hb
        rw [goneM_ne e'] at hl
        rcases (hloc g c' hlc).2 with h | ⟨b', c2, h1, h2⟩
        · have := (r.young b x' g c hb hl).1
          omega
        · obtain ⟨x0, hx0⟩ := (hob b' h1).2
          exact e' (by rw [h1, r.apart b' b _ _ g c2 c hx0 hb h2 hl])
    intro b b' x1 x2 g c c' h1 h2 l1 l2
    by_cases e : b = d
    · by_cases e' : b' = d
      · rw [e, e']
      · subst e
        rw [upd_self] at l1
        exact (key b' x2 g c' c e' h2 l2 l1).elim
    · by_cases e' : b' = d
      · subst e'
        rw [upd_self] at l2
        exact (key b x1 g c c' e h1 l1 l2).elim
      · rw [lookup_cons_ne _ _ e] at h1
        rw [lookup_cons_ne _ _ e'] at h2
        rw [upd_ne _ _ e] at l1
        rw [upd_ne _ _ e'] at l2
        by_cases f : ob = some b
        · subst f; rw [goneM_at] at l1; cases l1
        · by_cases f' : ob = some b'
          · subst f'; rw [goneM_at] at l2; cases l2
          · rw [goneH_ne f] at h1
            rw [goneH_ne f'] at h2
            rw [goneM_ne f] at l1
            rw [goneM_ne f'] at l2
            exact r.apart b b' x1 x2 g c c' h1 h2 l1 l2
end row

/-- The row that is appended to: its name (none: the nil slice) and what it holds. -/
def baseV (h : List (Nat × HB)) (e sz : Nat) : AV → Option (Option Nat × Nat × List (List PL))
  | .one .nil => some (none, 0, [])
  | .one (.own b n) => match h.lookup b with
    | some (.row ty s true es) => if ty = e ∧ s = sz ∧ b < 1000 then some (some b, n, es) else none
    | _ => none
  | _ => none
def sameSz (h : List (Nat × HB)) (sz : Nat) : AV → Bool
  | .one (.own b _) => match h.lookup b with
    | some (.row _ s _ _) => s == sz
    | _ => false
  | _ => true
structure AppV where
  d : Nat
  e : Nat
  sz : Nat
  bytes : Nat
  ob : Option Nat
  n : Nat
  es : List (List PL)
  m : Nat
  fs : List (List PL)
def appV (T : TT) (ops : Array Oper) (i n : Nat) (s : List (Nat × AV)) (h : List (Nat × HB)) : Option AppV := match ops[i]? with
  | some o => match gd ops ⟨n, s, h⟩ o, o.op, o.dst with
    | some true, .call c, some d => match c.callee, c.args.toList, c.argTypes.toList with
      | .builtin .append, [x, y], [t, t'] => if t = t' then (match T.lookup t with
        | some ti => match ti.kd with
          | .sli e sz _ => match T.lookup e, ev ⟨n, s, h⟩ x, ev ⟨n, s, h⟩ y with
            | some te, some A, some B => match baseV h e sz A, rowV h B with
              | some (ob, n1, es), some (m1, fs) => if d < n ∧ d < 1000 ∧ AS.no d ⟨n, s, h⟩ = true ∧ 0 < sz ∧ te.zero.length = sz ∧ 0 < te.bytes ∧ sameSz h sz B = true then some ⟨d, e, sz, te.bytes, ob, n1, es, m1, fs⟩ else none
              | _, _ => none
            | _, _, _ => none
          | _ => none
        | none => none) else none
      | _, _, _ => none
    | _, _, _ => none
  | none => none

theorem Ed.app (hT : TT.ok P T) {N : List Nat} {n : Nat} {s : List (Nat × AV)} {h : List (Nat × HB)} {v : AppV} (hs : appV T ops i n s h = some v) (hn1 : v.n = v.es.length) (hm1 : v.m = v.fs.length) (hfs : ∀ f ∈ v.fs, f.length = v.sz) (hlim : (v.es.length + v.fs.length) * v.bytes ≤ 140737488355328) (hN : ∀ b, v.ob = some b → b ∈ N)
    (hK : K ⟨n, (v.d, .one (.own v.d (v.es.length + v.fs.length))) :: s, (v.d, .row v.e v.sz true (v.es ++ v.fs)) :: goneH v.ob h⟩) : Ed P C ops N i ⟨n, s, h⟩ K := by
  unfold appV at hs
  split at hs
  · rename_i o ho
    split at hs
    · rename_i c d hg hop hd
      split at hs
      · rename_i x y t t' hc hargs htys
        split at hs
        · rename_i htt
          subst htt
          split at hs
          · rename_i ti hti
            split at hs
            · rename_i e sz ag hk
              split at hs
              · rename_i te A B hte hA hB
                split at hs
                · rename_i ob n1 es m1 fs hbase hrow
                  split at hs
                  · rename_i hcc
                    obtain ⟨hn, hlo, hno, hsz, hz0, hby, hsame⟩ := hcc
                    injection hs with hs
                    subst hs
                    simp only at hfs hlim hK hN hn1 hm1
                    refine Ed.of ho hg fun a w β r _ => ?_
                    obtain ⟨xi, dd, z, i1, i2, i3, i4, i5, i6, i7, i8, i9⟩ := TI.info (hT _ _ hti)
                    obtain ⟨ye, de, ze, j1, j2, j3, j4, j5, j6, j7, j8, j9⟩ := TI.info (hT _ _ hte)
                    have hdd : dd = .slice e ∧ sizeT P e = some sz := by
                      rw [hk] at i6
                      cases dd <;> simp only [tkOf] at i6 <;> first | cases i6; done | skip
                      all_goals first | (split at i6 <;> first | (cases i6; done) | (rename_i hs'; injection i6 with a1 a2; subst a1 a2; exact ⟨rfl, hs'⟩)) | cases i6
                    obtain ⟨rfl, hsz'⟩ := hdd
                    obtain ⟨yi, dj, k1, k2, k3⟩ := sizeT_ok hsz'
                    rw [j1] at k1
                    injection k1 with k1
                    subst k1
                    have hzc : ze.cells.size = sz := by rw [← hz0, ← j8]; simp
                    have hca : c.args = #[x, y] := by apply Array.ext'; simpa using hargs
                    have hct : c.argTypes = #[t, t] := by apply Array.ext'; simpa using htys
                    -- the operand that is appended
                    obtain ⟨ad, cy, hy, ys, y1, y2, y3, y4⟩ := rowV_ok r (sz := sz) hrow hm1 hfs (r.ev hB) (fun b n' ty s' pl es' hAB hlk => by
                      rw [hAB] at hsame
                      simp only [sameSz] at hsame
                      rw [hlk] at hsame
                      simpa using hsame)
                    -- the row that is appended to
                    have hbaseok : ∃ v xs, a.eval x = v ∧ w.ownsRow 0 e sz v es.length xs ∧ PL.ats w (good (Mt C h β) w) es.flatten xs ∧ (∀ u ∈ es, u.length = sz) ∧ (∀ b, ob = some b → b < 1000 ∧ ∃ x0, h.lookup b = some x0) ∧
                        ((ob = none ∧ v = .slice none 0 0) ∨ ∃ b, ob = some b ∧ ((β b = .nil ∧ v = .slice none 0 0) ∨ ∃ g c', β b = .here g c' ∧ v = .slice (some ⟨g, 0, none⟩) es.length c')) := by
                      unfold baseV at hbase
                      split at hbase
                      · injection hbase with hbase
                        injection hbase with b1 b2
                        injection b2 with b0 b2
                        subst b1 b2
                        have hv : a.eval x = .slice none 0 0 := r.ev hA
                        exact ⟨_, [], hv, ⟨by simp, .inl ⟨rfl, rfl⟩⟩, by simp [PL.ats], by simp, by simp, .inl ⟨rfl, rfl⟩⟩
                      · rename_i b n'
                        split at hbase
                        · rename_i ty s' es' hb
                          split at hbase
                          · rename_i hbb
                            obtain ⟨rfl, rfl, hb1000⟩ := hbb
                            injection hbase with hbase
                            injection hbase with b1 b2
                            injection b2 with b0 b2
                            subst b1 b2
                            rw [b0, hn1] at hA
                            have hv := r.ev hA
                            have hok := r.heap b _ hb
                            simp only [AVs, AV.rep, AL.rep] at hv
                            cases hl : β b with
                            | dead => rw [hl] at hok; exact hok.elim
                            | nil =>
                              rw [hl] at hok hv
                              obtain ⟨he, _⟩ := hok
                              subst he
                              exact ⟨_, [], hv.1, ⟨by simp, .inl ⟨rfl, rfl⟩⟩, by simp [PL.ats], by simp, fun b' hb' => by injection hb' with hb'; subst hb'; exact ⟨hb1000, _, hb⟩, .inr ⟨b, rfl, .inl ⟨hl, rfl⟩⟩⟩
                            | here g c' =>
                              rw [hl] at hok hv
                              obtain ⟨arr, fz, h1, h2, h3, h4, h5, h6, h7, h8, h9⟩ := hok
                              have hfz := h2 rfl
                              subst hfz
                              have hle : es'.length * s' ≤ arr.size := by rw [h3]; exact Nat.mul_le_mul_right _ h4
                              refine ⟨_, arr.toList.take (es'.length * s'), hv.1, ⟨by simp; omega, .inr ⟨g, c', arr, rfl, Nat.zero_le _, h1, h4, h5, h3, rfl⟩⟩, h9, h8, fun b' hb' => by injection hb' with hb'; subst hb'; exact ⟨hb1000, _, hb⟩, .inr ⟨b, rfl, .inr ⟨g, c', hl, rfl⟩⟩⟩
                          · cases hbase
                        · cases hbase
                      · cases hbase
                    obtain ⟨v, xs, hv, hown, hats, hesz, hob, hwhat⟩ := hbaseok
                    have hbytes : (es.length + fs.length) * te.bytes ≤ 140737488355328 := hlim
                    have h63 : es.length + fs.length ≤ maxLen := by
                      have := Nat.le_mul_of_pos_right (es.length + fs.length) hby
                      simp only [maxLen]; omega
                    have hrun : ∃ v' w', (Builtin.append_ #[t, t] o.type #[v, a.eval y]).run P w = .ok v' w' ∧ w'.ownsRow 0 e sz v' (es.length + fs.length) (xs ++ ys) ∧ w.grownBy w' v.ownBlock ∧ (v'.ownBlock = v.ownBlock ∨ v'.ownBlock = some w.heap.size) := by
                      rw [hy]
                      cases ad with
                      | some a' =>
                        obtain ⟨v', w', q1, q2, q3, _, q5⟩ := run_append_own_at (P := P) (w := w) 0 t o.type e ye ze sz te.bytes i2 j1 j3 k3 j5 hzc hsz v es.length xs hown a' fs.length cy ys y1
                          (fun j u hu => by obtain ⟨a2, e1, e2⟩ := y3 j u hu; injection e1 with e1; rw [e1]; exact e2) (fun u hu => leaf_one (y2 u hu)) h63 hbytes (Nat.zero_le _)
                        exact ⟨v', w', q1, q2, q3, q5⟩
                      | none =>
                        have hys : ys = [] := by
                          cases ys with
                          | nil => rfl
                          | cons u r' => obtain ⟨a2, e1, _⟩ := y3 0 u rfl; cases e1
                        have hfl : fs.length = 0 := by
                          have hm : fs.length * sz = 0 := by rw [← y1, hys]; rfl
                          rcases Nat.mul_eq_zero.1 hm with h | h
                          · exact h
                          · omega
                        rw [hys, hfl]
                        refine ⟨v, w, ?_, by simpa using hown, ⟨rfl, rfl, rfl, Nat.le_refl _, fun _ _ _ => rfl⟩, .inl rfl⟩
                        rcases hown.2 with ⟨e1, e2⟩ | ⟨g, cap, cur, e1, _, _, e4, _⟩
                        · rw [e1]
                          simp [Builtin.append_, run_underlying' i2, run_size' j1, Builtin.lenOf, Builtin.firstCells]
                        · rw [e1]
                          simp [Builtin.append_, run_underlying' i2, run_size' j1, Builtin.lenOf, Builtin.firstCells, e4, storeCells]
                    obtain ⟨v', w', q1, q2, q3, q4⟩ := hrun
                    have hexec : (execOp a.eval o).run P w = .ok (.value v') w' := by
                      simp [execOp, hop, resolve, hc, hca, hct, invoke, builtin, hv, q1]
                    simp only [Oper.wp, hexec, Oper.upon_value, hd]
                    have hst : St (fun k => ∃ b c, ob = some b ∧ β b = .here k c) w w' := by
                      refine ⟨q3.os, q3.tape, q3.output, q3.size, fun k hk hne => q3.block k hk fun e => ?_⟩
                      rcases hwhat with ⟨h1, h2⟩ | ⟨b, h1, ⟨h2, h3⟩ | ⟨g, c', h2, h3⟩⟩
                      · rw [h2] at e; cases e
                      · rw [h3] at e; cases e
                      · rw [h3] at e
                        simp only [Value.ownBlock] at e
                        injection e with e
                        exact hne ⟨b, c', h1, by rw [e]; exact h2⟩
                    have hall : ∀ u ∈ es ++ fs, u.length = sz := fun u hu => by
                      rcases List.mem_append.1 hu with h | h
                      · exact hesz u h
                      · exact hfs u h
                    rcases q2.2 with ⟨e1, e2⟩ | ⟨g', cap, cur, e1, _, e3, e4, e5, e6, e7⟩
                    · -- nothing at all
                      have hloc : ∀ g c, Loc.nil = .here g c → g < w'.heap.size ∧ (w.heap.size ≤ g ∨ ∃ b c', ob = some b ∧ β b = .here g c') := fun g c h => by cases h
                      refine ⟨_, _, hK, (r.row (x := .row e sz true (es ++ fs)) (loc := .nil) hno hlo hob hst hloc ?_).put hn ?_, row_mv (σ := ⟨n, s, h⟩) hst hloc hob hN⟩
                      · have : (es ++ fs).length = 0 := by simpa using e2
                        exact ⟨List.eq_nil_of_length_eq_zero this, hsz⟩
                      · simp only [AVs, AV.rep, AL.rep, upd_self]
                        exact ⟨e1, e2⟩
                    · have hloc : ∀ g c, Loc.here g' cap = .here g c → g < w'.heap.size ∧ (w.heap.size ≤ g ∨ ∃ b c', ob = some b ∧ β b = .here g c') := fun g c hgc => by
                        injection hgc with hg1 hg2
                        subst hg1 hg2
                        refine ⟨(Array.getElem?_eq_some_iff.1 e3).1, ?_⟩
                        rw [e1] at q4
                        simp only [Value.ownBlock] at q4
                        rcases q4 with q4 | q4
                        · rcases hwhat with ⟨h1, h2⟩ | ⟨b, h1, ⟨h2, h3⟩ | ⟨g, c', h2, h3⟩⟩
                          · rw [h2] at q4; cases q4
                          · rw [h3] at q4; cases q4
                          · rw [h3] at q4
                            simp only at q4
                            injection q4 with q4
                            exact .inr ⟨b, c', h1, by rw [q4]; exact h2⟩
                        · injection q4 with q4
                          exact .inl (by omega)
                      refine ⟨_, _, hK, (r.row (x := .row e sz true (es ++ fs)) (loc := .here g' cap) hno hlo hob hst hloc ?_).put hn ?_, row_mv (σ := ⟨n, s, h⟩) hst hloc hob hN⟩
                      · refine ⟨cur, (0, 0), e3, fun _ => rfl, e6, by simpa using e4, e5, fun j _ => by simp, hsz, hall, ?_⟩
                        rw [List.length_append, e7, List.flatten_append]
                        exact PL.ats_move (row_good hst hloc hob) _ (ats_append hats y4)
                      · simp only [AVs, AV.rep, AL.rep, upd_self]
                        exact ⟨e1, e4⟩
                  · cases hs
                · cases hs
              · cases hs
            · cases hs
          · cases hs
        · cases hs
      · cases hs
    · cases hs
  · cases hs
theorem AwOps.app (hT : TT.ok P T) {n : Nat} {s : List (Nat × AV)} {h : List (Nat × HB)} {v : AppV} (hs : appV T ops i n s h = some v) (hn1 : v.n = v.es.length) (hm1 : v.m = v.fs.length) (hfs : ∀ f ∈ v.fs, f.length = v.sz) (hlim : (v.es.length + v.fs.length) * v.bytes ≤ 140737488355328)
    (hK : AwOps P C ops l ⟨n, (v.d, .one (.own v.d (v.es.length + v.fs.length))) :: s, (v.d, .row v.e v.sz true (v.es ++ v.fs)) :: goneH v.ob h⟩ K) : AwOps P C ops (i :: l) ⟨n, s, h⟩ K :=
  AwOps.ed (N := v.ob.toList) (Ed.app hT hs hn1 hm1 hfs hlim (fun b hb => by simp [hb]) hK)
end Go.Proofs.YtbdgmondalkhlaaDoor.Aw
