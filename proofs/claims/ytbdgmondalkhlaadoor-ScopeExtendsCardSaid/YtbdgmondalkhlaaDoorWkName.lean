
/- The walks of dname's matching, over a matching of texts.
   Conditions: none. -/
import Derived.Test.YtbdgmondalkhlaaDoorWkBase
namespace Go.Proofs.YtbdgmondalkhlaaDoor.Aw
open Go
set_option maxRecDepth 100000

def hasS (m : ByteArray → ByteArray → Bool) (r : Rdn) (a : Attr) : Bool := r.any fun b => seq a.t b.t && m a.v b.v
def hasR (m : ByteArray → ByteArray → Bool) (r : Rdn) (a : Attr) : Bool := r.any fun b => seq b.t a.t && m b.v a.v
def sameP (m : Rdn → Attr → Bool) (a b : Rdn) (i : Nat) : Bool := match a[i]?, b[i]? with
  | some x, some y => m b x && m a y
  | _, _ => false
def sameS (m : Rdn → Attr → Bool) (a b : Rdn) : Bool := a.length == b.length && (List.range a.length).all (sameP m a b)
def withinP (m : Rdn → Attr → Bool) (n base : Name) (i : Nat) : Bool := match n[i]?, base[i]? with
  | some x, some y => sameS m x y
  | _, _ => false
def withinS (m : Rdn → Attr → Bool) (n base : Name) : Bool := decide (base.length ≤ n.length) && (List.range base.length).all (withinP m n base)
def matchS (m : Rdn → Attr → Bool) (a b : Name) : Bool := a.length == b.length && withinS m a b

theorem any_take {α : Type} {p : α → Bool} {l : List α} {i : Nat} (hi : i < l.length) (h : (l.take i).any p = false) (hx : p l[i] = false) : (l.take (i + 1)).any p = false := by
  rw [List.take_succ_eq_append_getElem hi, List.any_append, h]
  simp [hx]
theorem any_hit {α : Type} {p : α → Bool} {l : List α} {i : Nat} (hi : i < l.length) (hx : p l[i] = true) : l.any p = true := List.any_eq_true.2 ⟨_, List.getElem_mem hi, hx⟩
theorem all_next {p : Nat → Bool} {i : Nat} (h : (List.range i).all p = true) (hx : p i = true) : (List.range (i + 1)).all p = true := by
  rw [List.range_succ, List.all_append, h]
  simp [hx]
theorem all_miss {p : Nat → Bool} {i n : Nat} (h : i < n) (hx : p i = false) : (List.range n).all p = false := by
  rw [List.all_eq_false]
  exact ⟨i, List.mem_range.2 h, by simp [hx]⟩
theorem scb {p q : Bool} (h : p = q) : sc (.bool p) = sc (.bool q) := by rw [h]

section
variable (m : ByteArray → ByteArray → Bool) (hM : ∀ x y, okS x → okS y → Fn Tryd.prog 76 [.pv (sc (.string x)), .pv (sc (.string y))] [] (fun z _ => z = sc (.bool (m x y))))
include hM
-- f101 certpath/dname.has
theorem F101 (r : Rdn) (a : Attr) (hr : okR r) (ha : okS a.v) : Fn Tryd.prog 67 [.pv (.one (.p (.sl (r.map eAttr)))), .pv (.agg (eAttr a))] [] (fun res _ => res = sc (.bool (hasS m r a))) := by
  refine Fn.intro (rs := [.tmp 4]) hT Tryd.func67 (by kernel_rfl) rfl rfl rfl rfl fun C => ?_
  repeat (first | refine AwOps.v hT rfl ?_ | refine AwOps.eff hT rfl ?_ | refine AwOps.nil ?_ | refine Aw.seq ?_ | refine Aw.region ?_ | refine Aw.block ?_ | refine Aw.skip ?_ | refine Aw.exit ?_ | refine Aw.condT rfl ?_ | refine Aw.condF rfl ?_ | refine AwOps.build hT rfl ?_ | refine AwOps.lit hT rfl ?_ | refine AwSch.take (Yd.val hT rfl rfl) ?_ | refine AwSch.take (Yd.build hT rfl) ?_ | refine AwSch.nil ?_)
  refine Aw.bnd 7 rfl fun hB1 => ?_
  replace hB1 : r.length ≤ maxLen := by simpa using hB1
  -- LOOP 1: stays [3, 7, 8]; turns [9]; boxes stay [3], turn []
  refine Aw.lp (ι := Nat) (n := 26) [(3, _), (7, _), (8, _)] [(3, _)] (fun i1 => [(9, sc (.int .i64 i1))]) (fun i1 => [])
    (fun i1 => i1 ≤ r.length ∧ (r.take i1).any (fun b => seq a.t b.t && m a.v b.v) = false) (fun i1 => r.length - i1) 0 (by simp) (Less.tn ⟨rfl, ⟨rfl, rfl, rfl, rfl, trivial⟩, ⟨rfl, trivial⟩⟩) ?_
  intro i1 hi1
  repeat (first | refine AwOps.v hT rfl ?_ | refine AwOps.eff hT rfl ?_ | refine AwOps.nil ?_ | refine Aw.seq ?_ | refine Aw.region ?_ | refine Aw.block ?_ | refine Aw.skip ?_ | refine Aw.exit ?_ | refine Aw.condT rfl ?_ | refine Aw.condF rfl ?_ | refine AwOps.build hT rfl ?_ | refine AwOps.lit hT rfl ?_ | refine AwSch.take (Yd.val hT rfl rfl) ?_ | refine AwSch.take (Yd.build hT rfl) ?_ | refine AwSch.nil ?_)
  refine Aw.tst rfl (fun hb1 => ?_) (fun hb1 => ?_)
  · have hlt1 : i1 < r.length := by simpa using hb1
    repeat (first | refine AwOps.v hT rfl ?_ | refine AwOps.eff hT rfl ?_ | refine AwOps.nil ?_ | refine Aw.seq ?_ | refine Aw.region ?_ | refine Aw.block ?_ | refine Aw.skip ?_ | refine Aw.exit ?_ | refine Aw.condT rfl ?_ | refine Aw.condF rfl ?_ | refine AwOps.build hT rfl ?_ | refine AwOps.lit hT rfl ?_ | refine AwSch.take (Yd.val hT rfl rfl) ?_ | refine AwSch.take (Yd.build hT rfl) ?_ | refine AwSch.nil ?_)
    refine AwOps.im hT rfl hlt1 rfl ?_
    repeat (first | refine AwOps.v hT rfl ?_ | refine AwOps.eff hT rfl ?_ | refine AwOps.nil ?_ | refine Aw.seq ?_ | refine Aw.region ?_ | refine Aw.block ?_ | refine Aw.skip ?_ | refine Aw.exit ?_ | refine Aw.condT rfl ?_ | refine Aw.condF rfl ?_ | refine AwOps.build hT rfl ?_ | refine AwOps.lit hT rfl ?_ | refine AwSch.take (Yd.val hT rfl rfl) ?_ | refine AwSch.take (Yd.build hT rfl) ?_ | refine AwSch.nil ?_)
    refine AwOps.split (t := 18) rfl (fun hb2 => ?_) (fun hb2 => ?_)
    · skip
      repeat (first | refine AwOps.v hT rfl ?_ | refine AwOps.eff hT rfl ?_ | refine AwOps.nil ?_ | refine Aw.seq ?_ | refine Aw.region ?_ | refine Aw.block ?_ | refine Aw.skip ?_ | refine Aw.exit ?_ | refine Aw.condT rfl ?_ | refine Aw.condF rfl ?_ | refine AwOps.build hT rfl ?_ | refine AwOps.lit hT rfl ?_ | refine AwSch.take (Yd.val hT rfl rfl) ?_ | refine AwSch.take (Yd.build hT rfl) ?_ | refine AwSch.nil ?_)
      refine AwOps.call (hM _ _ ha (hr _ (List.getElem_mem hlt1))) [] rfl ⟨⟨rfl, rfl⟩, ⟨rfl, rfl⟩, trivial⟩ trivial rfl ?_   -- certpath/text.Match
      rintro _ _ rfl _ _
      repeat (first | refine AwOps.v hT rfl ?_ | refine AwOps.eff hT rfl ?_ | refine AwOps.nil ?_ | refine Aw.seq ?_ | refine Aw.region ?_ | refine Aw.block ?_ | refine Aw.skip ?_ | refine Aw.exit ?_ | refine Aw.condT rfl ?_ | refine Aw.condF rfl ?_ | refine AwOps.build hT rfl ?_ | refine AwOps.lit hT rfl ?_ | refine AwSch.take (Yd.val hT rfl rfl) ?_ | refine AwSch.take (Yd.build hT rfl) ?_ | refine AwSch.nil ?_)
      refine Aw.tst rfl (fun hb3 => ?_) (fun hb3 => ?_)
      · skip
        repeat (first | refine AwOps.v hT rfl ?_ | refine AwOps.eff hT rfl ?_ | refine AwOps.nil ?_ | refine Aw.seq ?_ | refine Aw.region ?_ | refine Aw.block ?_ | refine Aw.skip ?_ | refine Aw.exit ?_ | refine Aw.condT rfl ?_ | refine Aw.condF rfl ?_ | refine AwOps.build hT rfl ?_ | refine AwOps.lit hT rfl ?_ | refine AwSch.take (Yd.val hT rfl rfl) ?_ | refine AwSch.take (Yd.build hT rfl) ?_ | refine AwSch.nil ?_)
        refine Aw.ret ?_
        exact ⟨_, [], rfl, trivial, scb (any_hit hlt1 (by simp only [seq, hb2, hb3]; rfl)).symm⟩
      · skip
        repeat (first | refine AwOps.v hT rfl ?_ | refine AwOps.eff hT rfl ?_ | refine AwOps.nil ?_ | refine Aw.seq ?_ | refine Aw.region ?_ | refine Aw.block ?_ | refine Aw.skip ?_ | refine Aw.exit ?_ | refine Aw.condT rfl ?_ | refine Aw.condF rfl ?_ | refine AwOps.build hT rfl ?_ | refine AwOps.lit hT rfl ?_ | refine AwSch.take (Yd.val hT rfl rfl) ?_ | refine AwSch.take (Yd.build hT rfl) ?_ | refine AwSch.nil ?_)
        exact ⟨i1 + 1, ⟨hlt1, any_take hlt1 hi1.2 (by simp [hb3])⟩, by omega, Less.tn ⟨rfl, ⟨incS hlt1 hB1, rfl, rfl, rfl, trivial⟩, ⟨rfl, trivial⟩⟩⟩
    · skip
      repeat (first | refine AwOps.v hT rfl ?_ | refine AwOps.eff hT rfl ?_ | refine AwOps.nil ?_ | refine Aw.seq ?_ | refine Aw.region ?_ | refine Aw.block ?_ | refine Aw.skip ?_ | refine Aw.exit ?_ | refine Aw.condT rfl ?_ | refine Aw.condF rfl ?_ | refine AwOps.build hT rfl ?_ | refine AwOps.lit hT rfl ?_ | refine AwSch.take (Yd.val hT rfl rfl) ?_ | refine AwSch.take (Yd.build hT rfl) ?_ | refine AwSch.nil ?_)
      exact ⟨i1 + 1, ⟨hlt1, any_take hlt1 hi1.2 (by simp only [seq, hb2]; rfl)⟩, by omega, Less.tn ⟨rfl, ⟨incS hlt1 hB1, rfl, rfl, rfl, trivial⟩, ⟨rfl, trivial⟩⟩⟩
  · skip
    repeat (first | refine AwOps.v hT rfl ?_ | refine AwOps.eff hT rfl ?_ | refine AwOps.nil ?_ | refine Aw.seq ?_ | refine Aw.region ?_ | refine Aw.block ?_ | refine Aw.skip ?_ | refine Aw.exit ?_ | refine Aw.condT rfl ?_ | refine Aw.condF rfl ?_ | refine AwOps.build hT rfl ?_ | refine AwOps.lit hT rfl ?_ | refine AwSch.take (Yd.val hT rfl rfl) ?_ | refine AwSch.take (Yd.build hT rfl) ?_ | refine AwSch.nil ?_)
    refine Aw.ret ?_
    exact ⟨_, [], rfl, trivial, scb (by have := hi1.2; rw [List.take_of_length_le (by simp at hb1; omega)] at this; exact this.symm)⟩
-- f92 certpath/dname.same
theorem F92 (a b : Rdn) (ha : okR a) (hb : okR b) : Fn Tryd.prog 54 [.pv (.one (.p (.sl (a.map eAttr)))), .pv (.one (.p (.sl (b.map eAttr))))] [] (fun res _ => res = sc (.bool (sameS (hasS m) a b))) := by
  refine Fn.intro (rs := [.tmp 4]) hT Tryd.func54 (by kernel_rfl) rfl rfl rfl rfl fun C => ?_
  repeat (first | refine AwOps.v hT rfl ?_ | refine AwOps.eff hT rfl ?_ | refine AwOps.nil ?_ | refine Aw.seq ?_ | refine Aw.region ?_ | refine Aw.block ?_ | refine Aw.skip ?_ | refine Aw.exit ?_ | refine Aw.condT rfl ?_ | refine Aw.condF rfl ?_ | refine AwOps.build hT rfl ?_ | refine AwOps.lit hT rfl ?_ | refine AwSch.take (Yd.val hT rfl rfl) ?_ | refine AwSch.take (Yd.build hT rfl) ?_ | refine AwSch.nil ?_)
  refine Aw.tst rfl (fun hb1 => ?_) (fun hb1 => ?_)
  · skip
    repeat (first | refine AwOps.v hT rfl ?_ | refine AwOps.eff hT rfl ?_ | refine AwOps.nil ?_ | refine Aw.seq ?_ | refine Aw.region ?_ | refine Aw.block ?_ | refine Aw.skip ?_ | refine Aw.exit ?_ | refine Aw.condT rfl ?_ | refine Aw.condF rfl ?_ | refine AwOps.build hT rfl ?_ | refine AwOps.lit hT rfl ?_ | refine AwSch.take (Yd.val hT rfl rfl) ?_ | refine AwSch.take (Yd.build hT rfl) ?_ | refine AwSch.nil ?_)
    refine Aw.ret ?_
    exact ⟨_, [], rfl, trivial, scb (by simp [sameS, show ¬ a.length = b.length by (simp at hb1; omega)])⟩
  · skip
    have hl : a.length = b.length := by simp at hb1; omega
    repeat (first | refine AwOps.v hT rfl ?_ | refine AwOps.eff hT rfl ?_ | refine AwOps.nil ?_ | refine Aw.seq ?_ | refine Aw.region ?_ | refine Aw.block ?_ | refine Aw.skip ?_ | refine Aw.exit ?_ | refine Aw.condT rfl ?_ | refine Aw.condF rfl ?_ | refine AwOps.build hT rfl ?_ | refine AwOps.lit hT rfl ?_ | refine AwSch.take (Yd.val hT rfl rfl) ?_ | refine AwSch.take (Yd.build hT rfl) ?_ | refine AwSch.nil ?_)
    refine Aw.bnd 0 rfl fun hB1 => ?_
    replace hB1 : a.length ≤ maxLen := by simpa using hB1
    -- LOOP 1: stays [0, 1, 12]; turns [13]; boxes stay [], turn []
    refine Aw.lp (ι := Nat) (n := 33) [(0, _), (1, _), (12, _)] [] (fun i1 => [(13, sc (.int .i64 i1))]) (fun i1 => [])
      (fun i1 => i1 ≤ a.length ∧ (List.range i1).all (sameP (hasS m) a b) = true) (fun i1 => a.length - i1) 0 (by simp) (Less.tn ⟨rfl, ⟨rfl, rfl, rfl, rfl, trivial⟩, trivial⟩) ?_
    intro i1 hi1
    repeat (first | refine AwOps.v hT rfl ?_ | refine AwOps.eff hT rfl ?_ | refine AwOps.nil ?_ | refine Aw.seq ?_ | refine Aw.region ?_ | refine Aw.block ?_ | refine Aw.skip ?_ | refine Aw.exit ?_ | refine Aw.condT rfl ?_ | refine Aw.condF rfl ?_ | refine AwOps.build hT rfl ?_ | refine AwOps.lit hT rfl ?_ | refine AwSch.take (Yd.val hT rfl rfl) ?_ | refine AwSch.take (Yd.build hT rfl) ?_ | refine AwSch.nil ?_)
    refine Aw.tst rfl (fun hb2 => ?_) (fun hb2 => ?_)
    · have hlt1 : i1 < a.length := by simpa using hb2
      repeat (first | refine AwOps.v hT rfl ?_ | refine AwOps.eff hT rfl ?_ | refine AwOps.nil ?_ | refine Aw.seq ?_ | refine Aw.region ?_ | refine Aw.block ?_ | refine Aw.skip ?_ | refine Aw.exit ?_ | refine Aw.condT rfl ?_ | refine Aw.condF rfl ?_ | refine AwOps.build hT rfl ?_ | refine AwOps.lit hT rfl ?_ | refine AwSch.take (Yd.val hT rfl rfl) ?_ | refine AwSch.take (Yd.build hT rfl) ?_ | refine AwSch.nil ?_)
      refine AwOps.im hT rfl hlt1 rfl ?_
      repeat (first | refine AwOps.v hT rfl ?_ | refine AwOps.eff hT rfl ?_ | refine AwOps.nil ?_ | refine Aw.seq ?_ | refine Aw.region ?_ | refine Aw.block ?_ | refine Aw.skip ?_ | refine Aw.exit ?_ | refine Aw.condT rfl ?_ | refine Aw.condF rfl ?_ | refine AwOps.build hT rfl ?_ | refine AwOps.lit hT rfl ?_ | refine AwSch.take (Yd.val hT rfl rfl) ?_ | refine AwSch.take (Yd.build hT rfl) ?_ | refine AwSch.nil ?_)
      refine AwOps.call (F101 m hM _ _ hb (ha _ (List.getElem_mem hlt1))) [] rfl ⟨⟨rfl, rfl⟩, ⟨rfl, rfl⟩, trivial⟩ trivial rfl ?_   -- certpath/dname.has
      rintro _ _ rfl _ _
      repeat (first | refine AwOps.v hT rfl ?_ | refine AwOps.eff hT rfl ?_ | refine AwOps.nil ?_ | refine Aw.seq ?_ | refine Aw.region ?_ | refine Aw.block ?_ | refine Aw.skip ?_ | refine Aw.exit ?_ | refine Aw.condT rfl ?_ | refine Aw.condF rfl ?_ | refine AwOps.build hT rfl ?_ | refine AwOps.lit hT rfl ?_ | refine AwSch.take (Yd.val hT rfl rfl) ?_ | refine AwSch.take (Yd.build hT rfl) ?_ | refine AwSch.nil ?_)
      refine AwOps.split (t := 23) rfl (fun hb3 => ?_) (fun hb3 => ?_)
      · skip
        repeat (first | refine AwOps.v hT rfl ?_ | refine AwOps.eff hT rfl ?_ | refine AwOps.nil ?_ | refine Aw.seq ?_ | refine Aw.region ?_ | refine Aw.block ?_ | refine Aw.skip ?_ | refine Aw.exit ?_ | refine Aw.condT rfl ?_ | refine Aw.condF rfl ?_ | refine AwOps.build hT rfl ?_ | refine AwOps.lit hT rfl ?_ | refine AwSch.take (Yd.val hT rfl rfl) ?_ | refine AwSch.take (Yd.build hT rfl) ?_ | refine AwSch.nil ?_)
        refine Aw.ret ?_
        exact ⟨_, [], rfl, trivial, scb (by rw [sameS, all_miss hlt1 (by simp at hb3; simp [sameP, hlt1, hl ▸ hlt1, hb3])]; simp)⟩
      · skip
        repeat (first | refine AwOps.v hT rfl ?_ | refine AwOps.eff hT rfl ?_ | refine AwOps.nil ?_ | refine Aw.seq ?_ | refine Aw.region ?_ | refine Aw.block ?_ | refine Aw.skip ?_ | refine Aw.exit ?_ | refine Aw.condT rfl ?_ | refine Aw.condF rfl ?_ | refine AwOps.build hT rfl ?_ | refine AwOps.lit hT rfl ?_ | refine AwSch.take (Yd.val hT rfl rfl) ?_ | refine AwSch.take (Yd.build hT rfl) ?_ | refine AwSch.nil ?_)
        refine AwOps.im hT rfl (hl ▸ hlt1) rfl ?_
        repeat (first | refine AwOps.v hT rfl ?_ | refine AwOps.eff hT rfl ?_ | refine AwOps.nil ?_ | refine Aw.seq ?_ | refine Aw.region ?_ | refine Aw.block ?_ | refine Aw.skip ?_ | refine Aw.exit ?_ | refine Aw.condT rfl ?_ | refine Aw.condF rfl ?_ | refine AwOps.build hT rfl ?_ | refine AwOps.lit hT rfl ?_ | refine AwSch.take (Yd.val hT rfl rfl) ?_ | refine AwSch.take (Yd.build hT rfl) ?_ | refine AwSch.nil ?_)
        refine AwOps.call (F101 m hM _ _ ha (hb _ (List.getElem_mem (hl ▸ hlt1)))) [] rfl ⟨⟨rfl, rfl⟩, ⟨rfl, rfl⟩, trivial⟩ trivial rfl ?_   -- certpath/dname.has
        rintro _ _ rfl _ _
        repeat (first | refine AwOps.v hT rfl ?_ | refine AwOps.eff hT rfl ?_ | refine AwOps.nil ?_ | refine Aw.seq ?_ | refine Aw.region ?_ | refine Aw.block ?_ | refine Aw.skip ?_ | refine Aw.exit ?_ | refine Aw.condT rfl ?_ | refine Aw.condF rfl ?_ | refine AwOps.build hT rfl ?_ | refine AwOps.lit hT rfl ?_ | refine AwSch.take (Yd.val hT rfl rfl) ?_ | refine AwSch.take (Yd.build hT rfl) ?_ | refine AwSch.nil ?_)
        refine Aw.tst rfl (fun hb4 => ?_) (fun hb4 => ?_)
        · skip
          repeat (first | refine AwOps.v hT rfl ?_ | refine AwOps.eff hT rfl ?_ | refine AwOps.nil ?_ | refine Aw.seq ?_ | refine Aw.region ?_ | refine Aw.block ?_ | refine Aw.skip ?_ | refine Aw.exit ?_ | refine Aw.condT rfl ?_ | refine Aw.condF rfl ?_ | refine AwOps.build hT rfl ?_ | refine AwOps.lit hT rfl ?_ | refine AwSch.take (Yd.val hT rfl rfl) ?_ | refine AwSch.take (Yd.build hT rfl) ?_ | refine AwSch.nil ?_)
          refine Aw.ret ?_
          exact ⟨_, [], rfl, trivial, scb (by rw [sameS, all_miss hlt1 (by simp at hb3 hb4; simp [sameP, hlt1, hl ▸ hlt1, hb3, hb4])]; simp)⟩
        · skip
          repeat (first | refine AwOps.v hT rfl ?_ | refine AwOps.eff hT rfl ?_ | refine AwOps.nil ?_ | refine Aw.seq ?_ | refine Aw.region ?_ | refine Aw.block ?_ | refine Aw.skip ?_ | refine Aw.exit ?_ | refine Aw.condT rfl ?_ | refine Aw.condF rfl ?_ | refine AwOps.build hT rfl ?_ | refine AwOps.lit hT rfl ?_ | refine AwSch.take (Yd.val hT rfl rfl) ?_ | refine AwSch.take (Yd.build hT rfl) ?_ | refine AwSch.nil ?_)
          exact ⟨i1 + 1, ⟨hlt1, all_next hi1.2 (by simp at hb3 hb4; simp [sameP, hlt1, hl ▸ hlt1, hb3, hb4])⟩, by omega, Less.tn ⟨rfl, ⟨incS hlt1 hB1, rfl, rfl, rfl, trivial⟩, trivial⟩⟩
    · skip
      repeat (first | refine AwOps.v hT rfl ?_ | refine AwOps.eff hT rfl ?_ | refine AwOps.nil ?_ | refine Aw.seq ?_ | refine Aw.region ?_ | refine Aw.block ?_ | refine Aw.skip ?_ | refine Aw.exit ?_ | refine Aw.condT rfl ?_ | refine Aw.condF rfl ?_ | refine AwOps.build hT rfl ?_ | refine AwOps.lit hT rfl ?_ | refine AwSch.take (Yd.val hT rfl rfl) ?_ | refine AwSch.take (Yd.build hT rfl) ?_ | refine AwSch.nil ?_)
      refine Aw.ret ?_
      exact ⟨_, [], rfl, trivial, scb (by have := hi1.2; rw [show i1 = a.length by simp at hb2; omega] at this; simp only [sameS, this, Bool.and_true]; simp [hl])⟩
-- f84 certpath/dname.Within
theorem F84 (n base : Name) (hn : okN n) (hb : okN base) : Fn Tryd.prog 42 [.pv (.agg (eName n)), .pv (.agg (eName base))] [] (fun res _ => res = sc (.bool (withinS (hasS m) n base))) := by
  refine Fn.intro (rs := [.tmp 4]) hT Tryd.func42 (by kernel_rfl) rfl rfl rfl rfl fun C => ?_
  repeat (first | refine AwOps.v hT rfl ?_ | refine AwOps.eff hT rfl ?_ | refine AwOps.nil ?_ | refine Aw.seq ?_ | refine Aw.region ?_ | refine Aw.block ?_ | refine Aw.skip ?_ | refine Aw.exit ?_ | refine Aw.condT rfl ?_ | refine Aw.condF rfl ?_ | refine AwOps.build hT rfl ?_ | refine AwOps.lit hT rfl ?_ | refine AwSch.take (Yd.val hT rfl rfl) ?_ | refine AwSch.take (Yd.build hT rfl) ?_ | refine AwSch.nil ?_)
  refine Aw.tst rfl (fun hb1 => ?_) (fun hb1 => ?_)
  · skip
    repeat (first | refine AwOps.v hT rfl ?_ | refine AwOps.eff hT rfl ?_ | refine AwOps.nil ?_ | refine Aw.seq ?_ | refine Aw.region ?_ | refine Aw.block ?_ | refine Aw.skip ?_ | refine Aw.exit ?_ | refine Aw.condT rfl ?_ | refine Aw.condF rfl ?_ | refine AwOps.build hT rfl ?_ | refine AwOps.lit hT rfl ?_ | refine AwSch.take (Yd.val hT rfl rfl) ?_ | refine AwSch.take (Yd.build hT rfl) ?_ | refine AwSch.nil ?_)
    refine Aw.ret ?_
    exact ⟨_, [], rfl, trivial, scb (by simp [withinS, show ¬ base.length ≤ n.length by (simp at hb1; omega)])⟩
  · skip
    have hl : base.length ≤ n.length := by simp at hb1; omega
    repeat (first | refine AwOps.v hT rfl ?_ | refine AwOps.eff hT rfl ?_ | refine AwOps.nil ?_ | refine Aw.seq ?_ | refine Aw.region ?_ | refine Aw.block ?_ | refine Aw.skip ?_ | refine Aw.exit ?_ | refine Aw.condT rfl ?_ | refine Aw.condF rfl ?_ | refine AwOps.build hT rfl ?_ | refine AwOps.lit hT rfl ?_ | refine AwSch.take (Yd.val hT rfl rfl) ?_ | refine AwSch.take (Yd.build hT rfl) ?_ | refine AwSch.nil ?_)
    refine Aw.bnd 14 rfl fun hB1 => ?_
    replace hB1 : base.length ≤ maxLen := by simpa using hB1
    -- LOOP 1: stays [2, 3, 15]; turns [16]; boxes stay [2, 3], turn []
    refine Aw.lp (ι := Nat) (n := 32) [(2, _), (3, _), (15, _)] [(2, _), (3, _)] (fun i1 => [(16, sc (.int .i64 i1))]) (fun i1 => [])
      (fun i1 => i1 ≤ base.length ∧ (List.range i1).all (withinP (hasS m) n base) = true) (fun i1 => base.length - i1) 0 (by simp) (Less.tn ⟨rfl, ⟨rfl, rfl, rfl, rfl, trivial⟩, ⟨rfl, rfl, trivial⟩⟩) ?_
    intro i1 hi1
    repeat (first | refine AwOps.v hT rfl ?_ | refine AwOps.eff hT rfl ?_ | refine AwOps.nil ?_ | refine Aw.seq ?_ | refine Aw.region ?_ | refine Aw.block ?_ | refine Aw.skip ?_ | refine Aw.exit ?_ | refine Aw.condT rfl ?_ | refine Aw.condF rfl ?_ | refine AwOps.build hT rfl ?_ | refine AwOps.lit hT rfl ?_ | refine AwSch.take (Yd.val hT rfl rfl) ?_ | refine AwSch.take (Yd.build hT rfl) ?_ | refine AwSch.nil ?_)
    refine Aw.tst rfl (fun hb2 => ?_) (fun hb2 => ?_)
    · have hlt1 : i1 < base.length := by simpa using hb2
      repeat (first | refine AwOps.v hT rfl ?_ | refine AwOps.eff hT rfl ?_ | refine AwOps.nil ?_ | refine Aw.seq ?_ | refine Aw.region ?_ | refine Aw.block ?_ | refine Aw.skip ?_ | refine Aw.exit ?_ | refine Aw.condT rfl ?_ | refine Aw.condF rfl ?_ | refine AwOps.build hT rfl ?_ | refine AwOps.lit hT rfl ?_ | refine AwSch.take (Yd.val hT rfl rfl) ?_ | refine AwSch.take (Yd.build hT rfl) ?_ | refine AwSch.nil ?_)
      refine Aw.regionS [] [(true, 0), (true, 1), (true, 2), (true, 3), (true, 4), (true, 5), (true, 6), (true, 7), (true, 8), (true, 9), (false, 10), (true, 11)] (by kernel_rfl) (by kernel_rfl) ?_
      repeat (first | refine AwOps.v hT rfl ?_ | refine AwOps.eff hT rfl ?_ | refine AwOps.nil ?_ | refine Aw.seq ?_ | refine Aw.region ?_ | refine Aw.block ?_ | refine Aw.skip ?_ | refine Aw.exit ?_ | refine Aw.condT rfl ?_ | refine Aw.condF rfl ?_ | refine AwOps.build hT rfl ?_ | refine AwOps.lit hT rfl ?_ | refine AwSch.take (Yd.val hT rfl rfl) ?_ | refine AwSch.take (Yd.build hT rfl) ?_ | refine AwSch.nil ?_)
      refine AwSch.take (Yd.im hT rfl (Nat.lt_of_lt_of_le hlt1 hl) rfl) ?_
      repeat (first | refine AwOps.v hT rfl ?_ | refine AwOps.eff hT rfl ?_ | refine AwOps.nil ?_ | refine Aw.seq ?_ | refine Aw.region ?_ | refine Aw.block ?_ | refine Aw.skip ?_ | refine Aw.exit ?_ | refine Aw.condT rfl ?_ | refine Aw.condF rfl ?_ | refine AwOps.build hT rfl ?_ | refine AwOps.lit hT rfl ?_ | refine AwSch.take (Yd.val hT rfl rfl) ?_ | refine AwSch.take (Yd.build hT rfl) ?_ | refine AwSch.nil ?_)
      refine AwSch.take (Yd.im hT rfl hlt1 rfl) ?_
      repeat (first | refine AwOps.v hT rfl ?_ | refine AwOps.eff hT rfl ?_ | refine AwOps.nil ?_ | refine Aw.seq ?_ | refine Aw.region ?_ | refine Aw.block ?_ | refine Aw.skip ?_ | refine Aw.exit ?_ | refine Aw.condT rfl ?_ | refine Aw.condF rfl ?_ | refine AwOps.build hT rfl ?_ | refine AwOps.lit hT rfl ?_ | refine AwSch.take (Yd.val hT rfl rfl) ?_ | refine AwSch.take (Yd.build hT rfl) ?_ | refine AwSch.nil ?_)
      refine AwSch.one ?_
      refine Ed.call (F92 m hM _ _ (hn _ (List.getElem_mem (Nat.lt_of_lt_of_le hlt1 hl))) (hb _ (List.getElem_mem hlt1))) [] rfl ⟨⟨rfl, rfl⟩, ⟨rfl, rfl⟩, trivial⟩ trivial rfl (fun b hb => by cases hb) ?_   -- certpath/dname.same
      rintro _ _ rfl _ _
      repeat (first | refine AwOps.v hT rfl ?_ | refine AwOps.eff hT rfl ?_ | refine AwOps.nil ?_ | refine Aw.seq ?_ | refine Aw.region ?_ | refine Aw.block ?_ | refine Aw.skip ?_ | refine Aw.exit ?_ | refine Aw.condT rfl ?_ | refine Aw.condF rfl ?_ | refine AwOps.build hT rfl ?_ | refine AwOps.lit hT rfl ?_ | refine AwSch.take (Yd.val hT rfl rfl) ?_ | refine AwSch.take (Yd.build hT rfl) ?_ | refine AwSch.nil ?_)
      repeat (first | refine AwOps.v hT rfl ?_ | refine AwOps.eff hT rfl ?_ | refine AwOps.nil ?_ | refine Aw.seq ?_ | refine Aw.region ?_ | refine Aw.block ?_ | refine Aw.skip ?_ | refine Aw.exit ?_ | refine Aw.condT rfl ?_ | refine Aw.condF rfl ?_ | refine AwOps.build hT rfl ?_ | refine AwOps.lit hT rfl ?_ | refine AwSch.take (Yd.val hT rfl rfl) ?_ | refine AwSch.take (Yd.build hT rfl) ?_ | refine AwSch.nil ?_)
      refine Aw.tst rfl (fun hb3 => ?_) (fun hb3 => ?_)
      · skip
        repeat (first | refine AwOps.v hT rfl ?_ | refine AwOps.eff hT rfl ?_ | refine AwOps.nil ?_ | refine Aw.seq ?_ | refine Aw.region ?_ | refine Aw.block ?_ | refine Aw.skip ?_ | refine Aw.exit ?_ | refine Aw.condT rfl ?_ | refine Aw.condF rfl ?_ | refine AwOps.build hT rfl ?_ | refine AwOps.lit hT rfl ?_ | refine AwSch.take (Yd.val hT rfl rfl) ?_ | refine AwSch.take (Yd.build hT rfl) ?_ | refine AwSch.nil ?_)
        refine Aw.ret ?_
        exact ⟨_, [], rfl, trivial, scb (by rw [withinS, all_miss hlt1 (by simp at hb3; simp [withinP, hlt1, Nat.lt_of_lt_of_le hlt1 hl, hb3])]; simp)⟩
      · skip
        repeat (first | refine AwOps.v hT rfl ?_ | refine AwOps.eff hT rfl ?_ | refine AwOps.nil ?_ | refine Aw.seq ?_ | refine Aw.region ?_ | refine Aw.block ?_ | refine Aw.skip ?_ | refine Aw.exit ?_ | refine Aw.condT rfl ?_ | refine Aw.condF rfl ?_ | refine AwOps.build hT rfl ?_ | refine AwOps.lit hT rfl ?_ | refine AwSch.take (Yd.val hT rfl rfl) ?_ | refine AwSch.take (Yd.build hT rfl) ?_ | refine AwSch.nil ?_)
        exact ⟨i1 + 1, ⟨hlt1, all_next hi1.2 (by simp at hb3; simp [withinP, hlt1, Nat.lt_of_lt_of_le hlt1 hl, hb3])⟩, by omega, Less.tn ⟨rfl, ⟨incS hlt1 hB1, rfl, rfl, rfl, trivial⟩, ⟨rfl, rfl, trivial⟩⟩⟩
    · skip
      repeat (first | refine AwOps.v hT rfl ?_ | refine AwOps.eff hT rfl ?_ | refine AwOps.nil ?_ | refine Aw.seq ?_ | refine Aw.region ?_ | refine Aw.block ?_ | refine Aw.skip ?_ | refine Aw.exit ?_ | refine Aw.condT rfl ?_ | refine Aw.condF rfl ?_ | refine AwOps.build hT rfl ?_ | refine AwOps.lit hT rfl ?_ | refine AwSch.take (Yd.val hT rfl rfl) ?_ | refine AwSch.take (Yd.build hT rfl) ?_ | refine AwSch.nil ?_)
      refine Aw.ret ?_
      exact ⟨_, [], rfl, trivial, scb (by have := hi1.2; rw [show i1 = base.length by simp at hb2; omega] at this; simp only [withinS, this, Bool.and_true]; simp [hl])⟩
-- f72 certpath/dname.Match
theorem F72 (a b : Name) (ha : okN a) (hb : okN b) : Fn Tryd.prog 25 [.pv (.agg (eName a)), .pv (.agg (eName b))] [] (fun res _ => res = sc (.bool (matchS (hasS m) a b))) := by
  refine Fn.intro (rs := [.tmp 4]) hT Tryd.func25 (by kernel_rfl) rfl rfl rfl rfl fun C => ?_
  repeat (first | refine AwOps.v hT rfl ?_ | refine AwOps.eff hT rfl ?_ | refine AwOps.nil ?_ | refine Aw.seq ?_ | refine Aw.region ?_ | refine Aw.block ?_ | refine Aw.skip ?_ | refine Aw.exit ?_ | refine Aw.condT rfl ?_ | refine Aw.condF rfl ?_ | refine AwOps.build hT rfl ?_ | refine AwOps.lit hT rfl ?_ | refine AwSch.take (Yd.val hT rfl rfl) ?_ | refine AwSch.take (Yd.build hT rfl) ?_ | refine AwSch.nil ?_)
  refine AwOps.split (t := 12) rfl (fun hb1 => ?_) (fun hb1 => ?_)
  · skip
    repeat (first | refine AwOps.v hT rfl ?_ | refine AwOps.eff hT rfl ?_ | refine AwOps.nil ?_ | refine Aw.seq ?_ | refine Aw.region ?_ | refine Aw.block ?_ | refine Aw.skip ?_ | refine Aw.exit ?_ | refine Aw.condT rfl ?_ | refine Aw.condF rfl ?_ | refine AwOps.build hT rfl ?_ | refine AwOps.lit hT rfl ?_ | refine AwSch.take (Yd.val hT rfl rfl) ?_ | refine AwSch.take (Yd.build hT rfl) ?_ | refine AwSch.nil ?_)
    refine AwOps.call (F84 m hM _ _ ha hb) [] rfl ⟨⟨rfl, rfl⟩, ⟨rfl, rfl⟩, trivial⟩ trivial rfl ?_   -- certpath/dname.Within
    rintro _ _ rfl _ _
    repeat (first | refine AwOps.v hT rfl ?_ | refine AwOps.eff hT rfl ?_ | refine AwOps.nil ?_ | refine Aw.seq ?_ | refine Aw.region ?_ | refine Aw.block ?_ | refine Aw.skip ?_ | refine Aw.exit ?_ | refine Aw.condT rfl ?_ | refine Aw.condF rfl ?_ | refine AwOps.build hT rfl ?_ | refine AwOps.lit hT rfl ?_ | refine AwSch.take (Yd.val hT rfl rfl) ?_ | refine AwSch.take (Yd.build hT rfl) ?_ | refine AwSch.nil ?_)
    refine Aw.ret ?_
    exact ⟨_, [], rfl, trivial, scb (by simp at hb1; simp [matchS, show a.length = b.length by omega])⟩
  · skip
    repeat (first | refine AwOps.v hT rfl ?_ | refine AwOps.eff hT rfl ?_ | refine AwOps.nil ?_ | refine Aw.seq ?_ | refine Aw.region ?_ | refine Aw.block ?_ | refine Aw.skip ?_ | refine Aw.exit ?_ | refine Aw.condT rfl ?_ | refine Aw.condF rfl ?_ | refine AwOps.build hT rfl ?_ | refine AwOps.lit hT rfl ?_ | refine AwSch.take (Yd.val hT rfl rfl) ?_ | refine AwSch.take (Yd.build hT rfl) ?_ | refine AwSch.nil ?_)
    refine Aw.ret ?_
    exact ⟨_, [], rfl, trivial, scb (by simp [matchS, show ¬ a.length = b.length by (simp at hb1; omega)])⟩
end
section
variable (m : ByteArray → ByteArray → Bool) (hM : ∀ x y, okS x → okS y → Fn Tryd.prog 85 [.pv (sc (.string x)), .pv (sc (.string y))] [] (fun z _ => z = sc (.bool (m x y))))
include hM
-- f102 certpath/certpathref07.has
theorem F102 (r : Rdn) (a : Attr) (hr : okR r) (ha : okS a.v) : Fn Tryd.prog 72 [.pv (.one (.p (.sl (r.map eAttr)))), .pv (.agg (eAttr a))] [] (fun res _ => res = sc (.bool (hasR m r a))) := by
  refine Fn.intro (rs := [.tmp 4]) hT Tryd.func72 (by kernel_rfl) rfl rfl rfl rfl fun C => ?_
  repeat (first | refine AwOps.v hT rfl ?_ | refine AwOps.eff hT rfl ?_ | refine AwOps.nil ?_ | refine Aw.seq ?_ | refine Aw.region ?_ | refine Aw.block ?_ | refine Aw.skip ?_ | refine Aw.exit ?_ | refine Aw.condT rfl ?_ | refine Aw.condF rfl ?_ | refine AwOps.build hT rfl ?_ | refine AwOps.lit hT rfl ?_ | refine AwSch.take (Yd.val hT rfl rfl) ?_ | refine AwSch.take (Yd.build hT rfl) ?_ | refine AwSch.nil ?_)
  refine Aw.bnd 7 rfl fun hB1 => ?_
  replace hB1 : r.length ≤ maxLen := by simpa using hB1
  -- LOOP 1: stays [3, 7, 8]; turns [9]; boxes stay [3], turn []
  refine Aw.lp (ι := Nat) (n := 26) [(3, _), (7, _), (8, _)] [(3, _)] (fun i1 => [(9, sc (.int .i64 i1))]) (fun i1 => [])
    (fun i1 => i1 ≤ r.length ∧ (r.take i1).any (fun b => seq b.t a.t && m b.v a.v) = false) (fun i1 => r.length - i1) 0 (by simp) (Less.tn ⟨rfl, ⟨rfl, rfl, rfl, rfl, trivial⟩, ⟨rfl, trivial⟩⟩) ?_
  intro i1 hi1
  repeat (first | refine AwOps.v hT rfl ?_ | refine AwOps.eff hT rfl ?_ | refine AwOps.nil ?_ | refine Aw.seq ?_ | refine Aw.region ?_ | refine Aw.block ?_ | refine Aw.skip ?_ | refine Aw.exit ?_ | refine Aw.condT rfl ?_ | refine Aw.condF rfl ?_ | refine AwOps.build hT rfl ?_ | refine AwOps.lit hT rfl ?_ | refine AwSch.take (Yd.val hT rfl rfl) ?_ | refine AwSch.take (Yd.build hT rfl) ?_ | refine AwSch.nil ?_)
  refine Aw.tst rfl (fun hb1 => ?_) (fun hb1 => ?_)
  · have hlt1 : i1 < r.length := by simpa using hb1
    repeat (first | refine AwOps.v hT rfl ?_ | refine AwOps.eff hT rfl ?_ | refine AwOps.nil ?_ | refine Aw.seq ?_ | refine Aw.region ?_ | refine Aw.block ?_ | refine Aw.skip ?_ | refine Aw.exit ?_ | refine Aw.condT rfl ?_ | refine Aw.condF rfl ?_ | refine AwOps.build hT rfl ?_ | refine AwOps.lit hT rfl ?_ | refine AwSch.take (Yd.val hT rfl rfl) ?_ | refine AwSch.take (Yd.build hT rfl) ?_ | refine AwSch.nil ?_)
    refine AwOps.im hT rfl hlt1 rfl ?_
    repeat (first | refine AwOps.v hT rfl ?_ | refine AwOps.eff hT rfl ?_ | refine AwOps.nil ?_ | refine Aw.seq ?_ | refine Aw.region ?_ | refine Aw.block ?_ | refine Aw.skip ?_ | refine Aw.exit ?_ | refine Aw.condT rfl ?_ | refine Aw.condF rfl ?_ | refine AwOps.build hT rfl ?_ | refine AwOps.lit hT rfl ?_ | refine AwSch.take (Yd.val hT rfl rfl) ?_ | refine AwSch.take (Yd.build hT rfl) ?_ | refine AwSch.nil ?_)
    refine AwOps.split (t := 18) rfl (fun hb2 => ?_) (fun hb2 => ?_)
    · skip
      repeat (first | refine AwOps.v hT rfl ?_ | refine AwOps.eff hT rfl ?_ | refine AwOps.nil ?_ | refine Aw.seq ?_ | refine Aw.region ?_ | refine Aw.block ?_ | refine Aw.skip ?_ | refine Aw.exit ?_ | refine Aw.condT rfl ?_ | refine Aw.condF rfl ?_ | refine AwOps.build hT rfl ?_ | refine AwOps.lit hT rfl ?_ | refine AwSch.take (Yd.val hT rfl rfl) ?_ | refine AwSch.take (Yd.build hT rfl) ?_ | refine AwSch.nil ?_)
      refine AwOps.call (hM _ _ (hr _ (List.getElem_mem hlt1)) ha) [] rfl ⟨⟨rfl, rfl⟩, ⟨rfl, rfl⟩, trivial⟩ trivial rfl ?_   -- certpath/certpathref01.MatchText
      rintro _ _ rfl _ _
      repeat (first | refine AwOps.v hT rfl ?_ | refine AwOps.eff hT rfl ?_ | refine AwOps.nil ?_ | refine Aw.seq ?_ | refine Aw.region ?_ | refine Aw.block ?_ | refine Aw.skip ?_ | refine Aw.exit ?_ | refine Aw.condT rfl ?_ | refine Aw.condF rfl ?_ | refine AwOps.build hT rfl ?_ | refine AwOps.lit hT rfl ?_ | refine AwSch.take (Yd.val hT rfl rfl) ?_ | refine AwSch.take (Yd.build hT rfl) ?_ | refine AwSch.nil ?_)
      refine Aw.tst rfl (fun hb3 => ?_) (fun hb3 => ?_)
      · skip
        repeat (first | refine AwOps.v hT rfl ?_ | refine AwOps.eff hT rfl ?_ | refine AwOps.nil ?_ | refine Aw.seq ?_ | refine Aw.region ?_ | refine Aw.block ?_ | refine Aw.skip ?_ | refine Aw.exit ?_ | refine Aw.condT rfl ?_ | refine Aw.condF rfl ?_ | refine AwOps.build hT rfl ?_ | refine AwOps.lit hT rfl ?_ | refine AwSch.take (Yd.val hT rfl rfl) ?_ | refine AwSch.take (Yd.build hT rfl) ?_ | refine AwSch.nil ?_)
        refine Aw.ret ?_
        exact ⟨_, [], rfl, trivial, scb (any_hit hlt1 (by simp only [seq, hb2, hb3]; rfl)).symm⟩
      · skip
        repeat (first | refine AwOps.v hT rfl ?_ | refine AwOps.eff hT rfl ?_ | refine AwOps.nil ?_ | refine Aw.seq ?_ | refine Aw.region ?_ | refine Aw.block ?_ | refine Aw.skip ?_ | refine Aw.exit ?_ | refine Aw.condT rfl ?_ | refine Aw.condF rfl ?_ | refine AwOps.build hT rfl ?_ | refine AwOps.lit hT rfl ?_ | refine AwSch.take (Yd.val hT rfl rfl) ?_ | refine AwSch.take (Yd.build hT rfl) ?_ | refine AwSch.nil ?_)
        exact ⟨i1 + 1, ⟨hlt1, any_take hlt1 hi1.2 (by simp [hb3])⟩, by omega, Less.tn ⟨rfl, ⟨incS hlt1 hB1, rfl, rfl, rfl, trivial⟩, ⟨rfl, trivial⟩⟩⟩
    · skip
      repeat (first | refine AwOps.v hT rfl ?_ | refine AwOps.eff hT rfl ?_ | refine AwOps.nil ?_ | refine Aw.seq ?_ | refine Aw.region ?_ | refine Aw.block ?_ | refine Aw.skip ?_ | refine Aw.exit ?_ | refine Aw.condT rfl ?_ | refine Aw.condF rfl ?_ | refine AwOps.build hT rfl ?_ | refine AwOps.lit hT rfl ?_ | refine AwSch.take (Yd.val hT rfl rfl) ?_ | refine AwSch.take (Yd.build hT rfl) ?_ | refine AwSch.nil ?_)
      exact ⟨i1 + 1, ⟨hlt1, any_take hlt1 hi1.2 (by simp only [seq, hb2]; rfl)⟩, by omega, Less.tn ⟨rfl, ⟨incS hlt1 hB1, rfl, rfl, rfl, trivial⟩, ⟨rfl, trivial⟩⟩⟩
  · skip
    repeat (first | refine AwOps.v hT rfl ?_ | refine AwOps.eff hT rfl ?_ | refine AwOps.nil ?_ | refine Aw.seq ?_ | refine Aw.region ?_ | refine Aw.block ?_ | refine Aw.skip ?_ | refine Aw.exit ?_ | refine Aw.condT rfl ?_ | refine Aw.condF rfl ?_ | refine AwOps.build hT rfl ?_ | refine AwOps.lit hT rfl ?_ | refine AwSch.take (Yd.val hT rfl rfl) ?_ | refine AwSch.take (Yd.build hT rfl) ?_ | refine AwSch.nil ?_)
    refine Aw.ret ?_
    exact ⟨_, [], rfl, trivial, scb (by have := hi1.2; rw [List.take_of_length_le (by simp at hb1; omega)] at this; exact this.symm)⟩
-- f93 certpath/certpathref07.matchRDN
theorem F93 (a b : Rdn) (ha : okR a) (hb : okR b) : Fn Tryd.prog 59 [.pv (.one (.p (.sl (a.map eAttr)))), .pv (.one (.p (.sl (b.map eAttr))))] [] (fun res _ => res = sc (.bool (sameS (hasR m) a b))) := by
  refine Fn.intro (rs := [.tmp 4]) hT Tryd.func59 (by kernel_rfl) rfl rfl rfl rfl fun C => ?_
  repeat (first | refine AwOps.v hT rfl ?_ | refine AwOps.eff hT rfl ?_ | refine AwOps.nil ?_ | refine Aw.seq ?_ | refine Aw.region ?_ | refine Aw.block ?_ | refine Aw.skip ?_ | refine Aw.exit ?_ | refine Aw.condT rfl ?_ | refine Aw.condF rfl ?_ | refine AwOps.build hT rfl ?_ | refine AwOps.lit hT rfl ?_ | refine AwSch.take (Yd.val hT rfl rfl) ?_ | refine AwSch.take (Yd.build hT rfl) ?_ | refine AwSch.nil ?_)
  refine Aw.tst rfl (fun hb1 => ?_) (fun hb1 => ?_)
  · skip
    repeat (first | refine AwOps.v hT rfl ?_ | refine AwOps.eff hT rfl ?_ | refine AwOps.nil ?_ | refine Aw.seq ?_ | refine Aw.region ?_ | refine Aw.block ?_ | refine Aw.skip ?_ | refine Aw.exit ?_ | refine Aw.condT rfl ?_ | refine Aw.condF rfl ?_ | refine AwOps.build hT rfl ?_ | refine AwOps.lit hT rfl ?_ | refine AwSch.take (Yd.val hT rfl rfl) ?_ | refine AwSch.take (Yd.build hT rfl) ?_ | refine AwSch.nil ?_)
    refine Aw.ret ?_
    exact ⟨_, [], rfl, trivial, scb (by simp [sameS, show ¬ a.length = b.length by (simp at hb1; omega)])⟩
  · skip
    have hl : a.length = b.length := by simp at hb1; omega
    repeat (first | refine AwOps.v hT rfl ?_ | refine AwOps.eff hT rfl ?_ | refine AwOps.nil ?_ | refine Aw.seq ?_ | refine Aw.region ?_ | refine Aw.block ?_ | refine Aw.skip ?_ | refine Aw.exit ?_ | refine Aw.condT rfl ?_ | refine Aw.condF rfl ?_ | refine AwOps.build hT rfl ?_ | refine AwOps.lit hT rfl ?_ | refine AwSch.take (Yd.val hT rfl rfl) ?_ | refine AwSch.take (Yd.build hT rfl) ?_ | refine AwSch.nil ?_)
    refine Aw.bnd 0 rfl fun hB1 => ?_
    replace hB1 : a.length ≤ maxLen := by simpa using hB1
    -- LOOP 1: stays [0, 1, 12]; turns [13]; boxes stay [], turn []
    refine Aw.lp (ι := Nat) (n := 33) [(0, _), (1, _), (12, _)] [] (fun i1 => [(13, sc (.int .i64 i1))]) (fun i1 => [])
      (fun i1 => i1 ≤ a.length ∧ (List.range i1).all (sameP (hasR m) a b) = true) (fun i1 => a.length - i1) 0 (by simp) (Less.tn ⟨rfl, ⟨rfl, rfl, rfl, rfl, trivial⟩, trivial⟩) ?_
    intro i1 hi1
    repeat (first | refine AwOps.v hT rfl ?_ | refine AwOps.eff hT rfl ?_ | refine AwOps.nil ?_ | refine Aw.seq ?_ | refine Aw.region ?_ | refine Aw.block ?_ | refine Aw.skip ?_ | refine Aw.exit ?_ | refine Aw.condT rfl ?_ | refine Aw.condF rfl ?_ | refine AwOps.build hT rfl ?_ | refine AwOps.lit hT rfl ?_ | refine AwSch.take (Yd.val hT rfl rfl) ?_ | refine AwSch.take (Yd.build hT rfl) ?_ | refine AwSch.nil ?_)
    refine Aw.tst rfl (fun hb2 => ?_) (fun hb2 => ?_)
    · have hlt1 : i1 < a.length := by simpa using hb2
      repeat (first | refine AwOps.v hT rfl ?_ | refine AwOps.eff hT rfl ?_ | refine AwOps.nil ?_ | refine Aw.seq ?_ | refine Aw.region ?_ | refine Aw.block ?_ | refine Aw.skip ?_ | refine Aw.exit ?_ | refine Aw.condT rfl ?_ | refine Aw.condF rfl ?_ | refine AwOps.build hT rfl ?_ | refine AwOps.lit hT rfl ?_ | refine AwSch.take (Yd.val hT rfl rfl) ?_ | refine AwSch.take (Yd.build hT rfl) ?_ | refine AwSch.nil ?_)
      refine AwOps.im hT rfl hlt1 rfl ?_
      repeat (first | refine AwOps.v hT rfl ?_ | refine AwOps.eff hT rfl ?_ | refine AwOps.nil ?_ | refine Aw.seq ?_ | refine Aw.region ?_ | refine Aw.block ?_ | refine Aw.skip ?_ | refine Aw.exit ?_ | refine Aw.condT rfl ?_ | refine Aw.condF rfl ?_ | refine AwOps.build hT rfl ?_ | refine AwOps.lit hT rfl ?_ | refine AwSch.take (Yd.val hT rfl rfl) ?_ | refine AwSch.take (Yd.build hT rfl) ?_ | refine AwSch.nil ?_)
      refine AwOps.call (F102 m hM _ _ hb (ha _ (List.getElem_mem hlt1))) [] rfl ⟨⟨rfl, rfl⟩, ⟨rfl, rfl⟩, trivial⟩ trivial rfl ?_   -- certpath/certpathref07.has
      rintro _ _ rfl _ _
      repeat (first | refine AwOps.v hT rfl ?_ | refine AwOps.eff hT rfl ?_ | refine AwOps.nil ?_ | refine Aw.seq ?_ | refine Aw.region ?_ | refine Aw.block ?_ | refine Aw.skip ?_ | refine Aw.exit ?_ | refine Aw.condT rfl ?_ | refine Aw.condF rfl ?_ | refine AwOps.build hT rfl ?_ | refine AwOps.lit hT rfl ?_ | refine AwSch.take (Yd.val hT rfl rfl) ?_ | refine AwSch.take (Yd.build hT rfl) ?_ | refine AwSch.nil ?_)
      refine AwOps.split (t := 23) rfl (fun hb3 => ?_) (fun hb3 => ?_)
      · skip
        repeat (first | refine AwOps.v hT rfl ?_ | refine AwOps.eff hT rfl ?_ | refine AwOps.nil ?_ | refine Aw.seq ?_ | refine Aw.region ?_ | refine Aw.block ?_ | refine Aw.skip ?_ | refine Aw.exit ?_ | refine Aw.condT rfl ?_ | refine Aw.condF rfl ?_ | refine AwOps.build hT rfl ?_ | refine AwOps.lit hT rfl ?_ | refine AwSch.take (Yd.val hT rfl rfl) ?_ | refine AwSch.take (Yd.build hT rfl) ?_ | refine AwSch.nil ?_)
        refine Aw.ret ?_
        exact ⟨_, [], rfl, trivial, scb (by rw [sameS, all_miss hlt1 (by simp at hb3; simp [sameP, hlt1, hl ▸ hlt1, hb3])]; simp)⟩
      · skip
        repeat (first | refine AwOps.v hT rfl ?_ | refine AwOps.eff hT rfl ?_ | refine AwOps.nil ?_ | refine Aw.seq ?_ | refine Aw.region ?_ | refine Aw.block ?_ | refine Aw.skip ?_ | refine Aw.exit ?_ | refine Aw.condT rfl ?_ | refine Aw.condF rfl ?_ | refine AwOps.build hT rfl ?_ | refine AwOps.lit hT rfl ?_ | refine AwSch.take (Yd.val hT rfl rfl) ?_ | refine AwSch.take (Yd.build hT rfl) ?_ | refine AwSch.nil ?_)
        refine AwOps.im hT rfl (hl ▸ hlt1) rfl ?_
        repeat (first | refine AwOps.v hT rfl ?_ | refine AwOps.eff hT rfl ?_ | refine AwOps.nil ?_ | refine Aw.seq ?_ | refine Aw.region ?_ | refine Aw.block ?_ | refine Aw.skip ?_ | refine Aw.exit ?_ | refine Aw.condT rfl ?_ | refine Aw.condF rfl ?_ | refine AwOps.build hT rfl ?_ | refine AwOps.lit hT rfl ?_ | refine AwSch.take (Yd.val hT rfl rfl) ?_ | refine AwSch.take (Yd.build hT rfl) ?_ | refine AwSch.nil ?_)
        refine AwOps.call (F102 m hM _ _ ha (hb _ (List.getElem_mem (hl ▸ hlt1)))) [] rfl ⟨⟨rfl, rfl⟩, ⟨rfl, rfl⟩, trivial⟩ trivial rfl ?_   -- certpath/certpathref07.has
        rintro _ _ rfl _ _
        repeat (first | refine AwOps.v hT rfl ?_ | refine AwOps.eff hT rfl ?_ | refine AwOps.nil ?_ | refine Aw.seq ?_ | refine Aw.region ?_ | refine Aw.block ?_ | refine Aw.skip ?_ | refine Aw.exit ?_ | refine Aw.condT rfl ?_ | refine Aw.condF rfl ?_ | refine AwOps.build hT rfl ?_ | refine AwOps.lit hT rfl ?_ | refine AwSch.take (Yd.val hT rfl rfl) ?_ | refine AwSch.take (Yd.build hT rfl) ?_ | refine AwSch.nil ?_)
        refine Aw.tst rfl (fun hb4 => ?_) (fun hb4 => ?_)
        · skip
          repeat (first | refine AwOps.v hT rfl ?_ | refine AwOps.eff hT rfl ?_ | refine AwOps.nil ?_ | refine Aw.seq ?_ | refine Aw.region ?_ | refine Aw.block ?_ | refine Aw.skip ?_ | refine Aw.exit ?_ | refine Aw.condT rfl ?_ | refine Aw.condF rfl ?_ | refine AwOps.build hT rfl ?_ | refine AwOps.lit hT rfl ?_ | refine AwSch.take (Yd.val hT rfl rfl) ?_ | refine AwSch.take (Yd.build hT rfl) ?_ | refine AwSch.nil ?_)
          refine Aw.ret ?_
          exact ⟨_, [], rfl, trivial, scb (by rw [sameS, all_miss hlt1 (by simp at hb3 hb4; simp [sameP, hlt1, hl ▸ hlt1, hb3, hb4])]; simp)⟩
        · skip
          repeat (first | refine AwOps.v hT rfl ?_ | refine AwOps.eff hT rfl ?_ | refine AwOps.nil ?_ | refine Aw.seq ?_ | refine Aw.region ?_ | refine Aw.block ?_ | refine Aw.skip ?_ | refine Aw.exit ?_ | refine Aw.condT rfl ?_ | refine Aw.condF rfl ?_ | refine AwOps.build hT rfl ?_ | refine AwOps.lit hT rfl ?_ | refine AwSch.take (Yd.val hT rfl rfl) ?_ | refine AwSch.take (Yd.build hT rfl) ?_ | refine AwSch.nil ?_)
          exact ⟨i1 + 1, ⟨hlt1, all_next hi1.2 (by simp at hb3 hb4; simp [sameP, hlt1, hl ▸ hlt1, hb3, hb4])⟩, by omega, Less.tn ⟨rfl, ⟨incS hlt1 hB1, rfl, rfl, rfl, trivial⟩, trivial⟩⟩
    · skip
      repeat (first | refine AwOps.v hT rfl ?_ | refine AwOps.eff hT rfl ?_ | refine AwOps.nil ?_ | refine Aw.seq ?_ | refine Aw.region ?_ | refine Aw.block ?_ | refine Aw.skip ?_ | refine Aw.exit ?_ | refine Aw.condT rfl ?_ | refine Aw.condF rfl ?_ | refine AwOps.build hT rfl ?_ | refine AwOps.lit hT rfl ?_ | refine AwSch.take (Yd.val hT rfl rfl) ?_ | refine AwSch.take (Yd.build hT rfl) ?_ | refine AwSch.nil ?_)
      refine Aw.ret ?_
      exact ⟨_, [], rfl, trivial, scb (by have := hi1.2; rw [show i1 = a.length by simp at hb2; omega] at this; simp only [sameS, this, Bool.and_true]; simp [hl])⟩
-- f85 certpath/certpathref07.WithinName
theorem F85 (n base : Name) (hn : okN n) (hb : okN base) : Fn Tryd.prog 46 [.pv (.agg (eName n)), .pv (.agg (eName base))] [] (fun res _ => res = sc (.bool (withinS (hasR m) n base))) := by
  refine Fn.intro (rs := [.tmp 4]) hT Tryd.func46 (by kernel_rfl) rfl rfl rfl rfl fun C => ?_
  repeat (first | refine AwOps.v hT rfl ?_ | refine AwOps.eff hT rfl ?_ | refine AwOps.nil ?_ | refine Aw.seq ?_ | refine Aw.region ?_ | refine Aw.block ?_ | refine Aw.skip ?_ | refine Aw.exit ?_ | refine Aw.condT rfl ?_ | refine Aw.condF rfl ?_ | refine AwOps.build hT rfl ?_ | refine AwOps.lit hT rfl ?_ | refine AwSch.take (Yd.val hT rfl rfl) ?_ | refine AwSch.take (Yd.build hT rfl) ?_ | refine AwSch.nil ?_)
  refine Aw.tst rfl (fun hb1 => ?_) (fun hb1 => ?_)
  · skip
    repeat (first | refine AwOps.v hT rfl ?_ | refine AwOps.eff hT rfl ?_ | refine AwOps.nil ?_ | refine Aw.seq ?_ | refine Aw.region ?_ | refine Aw.block ?_ | refine Aw.skip ?_ | refine Aw.exit ?_ | refine Aw.condT rfl ?_ | refine Aw.condF rfl ?_ | refine AwOps.build hT rfl ?_ | refine AwOps.lit hT rfl ?_ | refine AwSch.take (Yd.val hT rfl rfl) ?_ | refine AwSch.take (Yd.build hT rfl) ?_ | refine AwSch.nil ?_)
    refine Aw.ret ?_
    exact ⟨_, [], rfl, trivial, scb (by simp [withinS, show ¬ base.length ≤ n.length by (simp at hb1; omega)])⟩
  · skip
    have hl : base.length ≤ n.length := by simp at hb1; omega
    repeat (first | refine AwOps.v hT rfl ?_ | refine AwOps.eff hT rfl ?_ | refine AwOps.nil ?_ | refine Aw.seq ?_ | refine Aw.region ?_ | refine Aw.block ?_ | refine Aw.skip ?_ | refine Aw.exit ?_ | refine Aw.condT rfl ?_ | refine Aw.condF rfl ?_ | refine AwOps.build hT rfl ?_ | refine AwOps.lit hT rfl ?_ | refine AwSch.take (Yd.val hT rfl rfl) ?_ | refine AwSch.take (Yd.build hT rfl) ?_ | refine AwSch.nil ?_)
    refine Aw.bnd 14 rfl fun hB1 => ?_
    replace hB1 : base.length ≤ maxLen := by simpa using hB1
    -- LOOP 1: stays [2, 3, 15]; turns [16]; boxes stay [2, 3], turn []
    refine Aw.lp (ι := Nat) (n := 32) [(2, _), (3, _), (15, _)] [(2, _), (3, _)] (fun i1 => [(16, sc (.int .i64 i1))]) (fun i1 => [])
      (fun i1 => i1 ≤ base.length ∧ (List.range i1).all (withinP (hasR m) n base) = true) (fun i1 => base.length - i1) 0 (by simp) (Less.tn ⟨rfl, ⟨rfl, rfl, rfl, rfl, trivial⟩, ⟨rfl, rfl, trivial⟩⟩) ?_
    intro i1 hi1
    repeat (first | refine AwOps.v hT rfl ?_ | refine AwOps.eff hT rfl ?_ | refine AwOps.nil ?_ | refine Aw.seq ?_ | refine Aw.region ?_ | refine Aw.block ?_ | refine Aw.skip ?_ | refine Aw.exit ?_ | refine Aw.condT rfl ?_ | refine Aw.condF rfl ?_ | refine AwOps.build hT rfl ?_ | refine AwOps.lit hT rfl ?_ | refine AwSch.take (Yd.val hT rfl rfl) ?_ | refine AwSch.take (Yd.build hT rfl) ?_ | refine AwSch.nil ?_)
    refine Aw.tst rfl (fun hb2 => ?_) (fun hb2 => ?_)
    · have hlt1 : i1 < base.length := by simpa using hb2
      repeat (first | refine AwOps.v hT rfl ?_ | refine AwOps.eff hT rfl ?_ | refine AwOps.nil ?_ | refine Aw.seq ?_ | refine Aw.region ?_ | refine Aw.block ?_ | refine Aw.skip ?_ | refine Aw.exit ?_ | refine Aw.condT rfl ?_ | refine Aw.condF rfl ?_ | refine AwOps.build hT rfl ?_ | refine AwOps.lit hT rfl ?_ | refine AwSch.take (Yd.val hT rfl rfl) ?_ | refine AwSch.take (Yd.build hT rfl) ?_ | refine AwSch.nil ?_)
      refine Aw.regionS [] [(true, 0), (true, 1), (true, 2), (true, 3), (true, 4), (true, 5), (true, 6), (true, 7), (true, 8), (true, 9), (false, 10), (true, 11)] (by kernel_rfl) (by kernel_rfl) ?_
      repeat (first | refine AwOps.v hT rfl ?_ | refine AwOps.eff hT rfl ?_ | refine AwOps.nil ?_ | refine Aw.seq ?_ | refine Aw.region ?_ | refine Aw.block ?_ | refine Aw.skip ?_ | refine Aw.exit ?_ | refine Aw.condT rfl ?_ | refine Aw.condF rfl ?_ | refine AwOps.build hT rfl ?_ | refine AwOps.lit hT rfl ?_ | refine AwSch.take (Yd.val hT rfl rfl) ?_ | refine AwSch.take (Yd.build hT rfl) ?_ | refine AwSch.nil ?_)
      refine AwSch.take (Yd.im hT rfl (Nat.lt_of_lt_of_le hlt1 hl) rfl) ?_
      repeat (first | refine AwOps.v hT rfl ?_ | refine AwOps.eff hT rfl ?_ | refine AwOps.nil ?_ | refine Aw.seq ?_ | refine Aw.region ?_ | refine Aw.block ?_ | refine Aw.skip ?_ | refine Aw.exit ?_ | refine Aw.condT rfl ?_ | refine Aw.condF rfl ?_ | refine AwOps.build hT rfl ?_ | refine AwOps.lit hT rfl ?_ | refine AwSch.take (Yd.val hT rfl rfl) ?_ | refine AwSch.take (Yd.build hT rfl) ?_ | refine AwSch.nil ?_)
      refine AwSch.take (Yd.im hT rfl hlt1 rfl) ?_
      repeat (first | refine AwOps.v hT rfl ?_ | refine AwOps.eff hT rfl ?_ | refine AwOps.nil ?_ | refine Aw.seq ?_ | refine Aw.region ?_ | refine Aw.block ?_ | refine Aw.skip ?_ | refine Aw.exit ?_ | refine Aw.condT rfl ?_ | refine Aw.condF rfl ?_ | refine AwOps.build hT rfl ?_ | refine AwOps.lit hT rfl ?_ | refine AwSch.take (Yd.val hT rfl rfl) ?_ | refine AwSch.take (Yd.build hT rfl) ?_ | refine AwSch.nil ?_)
      refine AwSch.one ?_
      refine Ed.call (F93 m hM _ _ (hn _ (List.getElem_mem (Nat.lt_of_lt_of_le hlt1 hl))) (hb _ (List.getElem_mem hlt1))) [] rfl ⟨⟨rfl, rfl⟩, ⟨rfl, rfl⟩, trivial⟩ trivial rfl (fun b hb => by cases hb) ?_   -- certpath/certpathref07.matchRDN
      rintro _ _ rfl _ _
      repeat (first | refine AwOps.v hT rfl ?_ | refine AwOps.eff hT rfl ?_ | refine AwOps.nil ?_ | refine Aw.seq ?_ | refine Aw.region ?_ | refine Aw.block ?_ | refine Aw.skip ?_ | refine Aw.exit ?_ | refine Aw.condT rfl ?_ | refine Aw.condF rfl ?_ | refine AwOps.build hT rfl ?_ | refine AwOps.lit hT rfl ?_ | refine AwSch.take (Yd.val hT rfl rfl) ?_ | refine AwSch.take (Yd.build hT rfl) ?_ | refine AwSch.nil ?_)
      repeat (first | refine AwOps.v hT rfl ?_ | refine AwOps.eff hT rfl ?_ | refine AwOps.nil ?_ | refine Aw.seq ?_ | refine Aw.region ?_ | refine Aw.block ?_ | refine Aw.skip ?_ | refine Aw.exit ?_ | refine Aw.condT rfl ?_ | refine Aw.condF rfl ?_ | refine AwOps.build hT rfl ?_ | refine AwOps.lit hT rfl ?_ | refine AwSch.take (Yd.val hT rfl rfl) ?_ | refine AwSch.take (Yd.build hT rfl) ?_ | refine AwSch.nil ?_)
      refine Aw.tst rfl (fun hb3 => ?_) (fun hb3 => ?_)
      · skip
        repeat (first | refine AwOps.v hT rfl ?_ | refine AwOps.eff hT rfl ?_ | refine AwOps.nil ?_ | refine Aw.seq ?_ | refine Aw.region ?_ | refine Aw.block ?_ | refine Aw.skip ?_ | refine Aw.exit ?_ | refine Aw.condT rfl ?_ | refine Aw.condF rfl ?_ | refine AwOps.build hT rfl ?_ | refine AwOps.lit hT rfl ?_ | refine AwSch.take (Yd.val hT rfl rfl) ?_ | refine AwSch.take (Yd.build hT rfl) ?_ | refine AwSch.nil ?_)
        refine Aw.ret ?_
        exact ⟨_, [], rfl, trivial, scb (by rw [withinS, all_miss hlt1 (by simp at hb3; simp [withinP, hlt1, Nat.lt_of_lt_of_le hlt1 hl, hb3])]; simp)⟩
      · skip
        repeat (first | refine AwOps.v hT rfl ?_ | refine AwOps.eff hT rfl ?_ | refine AwOps.nil ?_ | refine Aw.seq ?_ | refine Aw.region ?_ | refine Aw.block ?_ | refine Aw.skip ?_ | refine Aw.exit ?_ | refine Aw.condT rfl ?_ | refine Aw.condF rfl ?_ | refine AwOps.build hT rfl ?_ | refine AwOps.lit hT rfl ?_ | refine AwSch.take (Yd.val hT rfl rfl) ?_ | refine AwSch.take (Yd.build hT rfl) ?_ | refine AwSch.nil ?_)
        exact ⟨i1 + 1, ⟨hlt1, all_next hi1.2 (by simp at hb3; simp [withinP, hlt1, Nat.lt_of_lt_of_le hlt1 hl, hb3])⟩, by omega, Less.tn ⟨rfl, ⟨incS hlt1 hB1, rfl, rfl, rfl, trivial⟩, ⟨rfl, rfl, trivial⟩⟩⟩
    · skip
      repeat (first | refine AwOps.v hT rfl ?_ | refine AwOps.eff hT rfl ?_ | refine AwOps.nil ?_ | refine Aw.seq ?_ | refine Aw.region ?_ | refine Aw.block ?_ | refine Aw.skip ?_ | refine Aw.exit ?_ | refine Aw.condT rfl ?_ | refine Aw.condF rfl ?_ | refine AwOps.build hT rfl ?_ | refine AwOps.lit hT rfl ?_ | refine AwSch.take (Yd.val hT rfl rfl) ?_ | refine AwSch.take (Yd.build hT rfl) ?_ | refine AwSch.nil ?_)
      refine Aw.ret ?_
      exact ⟨_, [], rfl, trivial, scb (by have := hi1.2; rw [show i1 = base.length by simp at hb2; omega] at this; simp only [withinS, this, Bool.and_true]; simp [hl])⟩
-- f73 certpath/certpathref07.MatchName
theorem F73 (a b : Name) (ha : okN a) (hb : okN b) : Fn Tryd.prog 30 [.pv (.agg (eName a)), .pv (.agg (eName b))] [] (fun res _ => res = sc (.bool (matchS (hasR m) a b))) := by
  refine Fn.intro (rs := [.tmp 4]) hT Tryd.func30 (by kernel_rfl) rfl rfl rfl rfl fun C => ?_
  repeat (first | refine AwOps.v hT rfl ?_ | refine AwOps.eff hT rfl ?_ | refine AwOps.nil ?_ | refine Aw.seq ?_ | refine Aw.region ?_ | refine Aw.block ?_ | refine Aw.skip ?_ | refine Aw.exit ?_ | refine Aw.condT rfl ?_ | refine Aw.condF rfl ?_ | refine AwOps.build hT rfl ?_ | refine AwOps.lit hT rfl ?_ | refine AwSch.take (Yd.val hT rfl rfl) ?_ | refine AwSch.take (Yd.build hT rfl) ?_ | refine AwSch.nil ?_)
  refine AwOps.split (t := 12) rfl (fun hb1 => ?_) (fun hb1 => ?_)
  · skip
    repeat (first | refine AwOps.v hT rfl ?_ | refine AwOps.eff hT rfl ?_ | refine AwOps.nil ?_ | refine Aw.seq ?_ | refine Aw.region ?_ | refine Aw.block ?_ | refine Aw.skip ?_ | refine Aw.exit ?_ | refine Aw.condT rfl ?_ | refine Aw.condF rfl ?_ | refine AwOps.build hT rfl ?_ | refine AwOps.lit hT rfl ?_ | refine AwSch.take (Yd.val hT rfl rfl) ?_ | refine AwSch.take (Yd.build hT rfl) ?_ | refine AwSch.nil ?_)
    refine AwOps.call (F85 m hM _ _ ha hb) [] rfl ⟨⟨rfl, rfl⟩, ⟨rfl, rfl⟩, trivial⟩ trivial rfl ?_   -- certpath/certpathref07.WithinName
    rintro _ _ rfl _ _
    repeat (first | refine AwOps.v hT rfl ?_ | refine AwOps.eff hT rfl ?_ | refine AwOps.nil ?_ | refine Aw.seq ?_ | refine Aw.region ?_ | refine Aw.block ?_ | refine Aw.skip ?_ | refine Aw.exit ?_ | refine Aw.condT rfl ?_ | refine Aw.condF rfl ?_ | refine AwOps.build hT rfl ?_ | refine AwOps.lit hT rfl ?_ | refine AwSch.take (Yd.val hT rfl rfl) ?_ | refine AwSch.take (Yd.build hT rfl) ?_ | refine AwSch.nil ?_)
    refine Aw.ret ?_
    exact ⟨_, [], rfl, trivial, scb (by simp at hb1; simp [matchS, show a.length = b.length by omega])⟩
  · skip
    repeat (first | refine AwOps.v hT rfl ?_ | refine AwOps.eff hT rfl ?_ | refine AwOps.nil ?_ | refine Aw.seq ?_ | refine Aw.region ?_ | refine Aw.block ?_ | refine Aw.skip ?_ | refine Aw.exit ?_ | refine Aw.condT rfl ?_ | refine Aw.condF rfl ?_ | refine AwOps.build hT rfl ?_ | refine AwOps.lit hT rfl ?_ | refine AwSch.take (Yd.val hT rfl rfl) ?_ | refine AwSch.take (Yd.build hT rfl) ?_ | refine AwSch.nil ?_)
    refine Aw.ret ?_
    exact ⟨_, [], rfl, trivial, scb (by simp [matchS, show ¬ a.length = b.length by (simp at hb1; omega)])⟩
end
end Go.Proofs.YtbdgmondalkhlaaDoor.Aw
