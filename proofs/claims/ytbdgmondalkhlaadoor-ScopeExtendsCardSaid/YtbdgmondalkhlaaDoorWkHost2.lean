
/- The walks of the reference's functions over mail addresses, ranges, general names, constraints: exact.
   Conditions: none. -/
import Derived.Test.YtbdgmondalkhlaaDoorWkHost
namespace Go.Proofs.YtbdgmondalkhlaaDoor.Aw
open Go
set_option maxRecDepth 100000
set_option maxHeartbeats 4000000
set_option linter.unusedSimpArgs false
set_option linter.unusedVariables false

def mailBaseB (s : ByteArray) : Bool := partsOk s || (dnsB s || (decide ((s.size : Int) ≤ 128) && (decide ((s.size : Int) > 1) && (bt s 0 == 46 && dnsB (s.extract 1 s.size)))))
def mailMatchB (a b : ByteArray) : Bool := partsOk a && (partsOk b && (seq (partL a) (partL b) && alikeB (partD a) (partD b)))
def mailWithinB (s b : ByteArray) : Bool := mailBaseB b && if partsOk s then (if partsOk b then mailMatchB s b else alikeB (partD s) b || (bt b 0 == 46 && endsB (partD s) b)) else mailBaseB s && (!partsOk b && (alikeB s b || (bt b 0 == 46 && endsB s b)))
theorem partL_size (s : ByteArray) : (partL s).size ≤ s.size := by
  have := atK_le s
  unfold partL
  split
  · simp only [ByteArray.size_extract]; omega
  · exact Nat.zero_le _
theorem partD_size (s : ByteArray) : (partD s).size ≤ s.size := by
  have := atK_le s
  unfold partD
  split
  · simp only [ByteArray.size_extract]; omega
  · exact Nat.zero_le _
theorem dnsB_ne {s : ByteArray} (h : dnsB s = true) : 0 < s.size := by
  rcases Nat.eq_zero_or_pos s.size with h0 | h0
  · rw [dnsB, Bool.and_eq_true] at h
    have e : splitS s 46 = [s.extract 0 0] := by rw [splitS, h0]; simp [splitSt, h0]
    rw [e] at h
    have h2 := h.2
    simp only [List.all_cons, List.all_nil, Bool.and_true] at h2
    rw [labB_no (.inl (by simp))] at h2
    exact Bool.noConfusion h2
  · exact h0
theorem partsOk_ne {s : ByteArray} (h : partsOk s = true) : 0 < s.size := by
  have := atK_le s
  simp only [partsOk, Bool.and_eq_true, Bool.not_eq_true', Bool.or_eq_false_iff] at h
  have := h.2.1.1
  simp at this
  omega
theorem mailBaseB_ne {s : ByteArray} (h : mailBaseB s = true) : 0 < s.size := by
  rw [mailBaseB, Bool.or_eq_true, Bool.or_eq_true] at h
  rcases h with h | h | h
  · exact partsOk_ne h
  · exact dnsB_ne h
  · simp only [Bool.and_eq_true] at h
    have := h.2.1
    simp at this
    omega
-- f140 certpath/certpathref07.Mail
theorem F140 (s : ByteArray) (hs : s.size ≤ 1073741824) : Fn Tryd.prog 60 [.pv (sc (.string s))] [] (fun r _ => r = sc (.bool (partsOk s))) := by
  refine Fn.intro (rs := [.tmp 2]) hT Tryd.func60 (by kernel_rfl) rfl rfl rfl rfl fun C => ?_
  refine Aw.seq (Aw.region ?_)
  refine AwOps.v hT rfl ?_
  refine AwOps.nil (Aw.seq (Aw.region ?_))
  refine AwOps.v hT rfl ?_
  refine AwOps.cl (F139 _ (by first | omega | (simp only [ByteArray.size_extract, ByteArray.size_append, loI, hiI]; omega))) [] rfl ⟨⟨rfl, rfl⟩, trivial⟩ trivial rfl ?_   -- certpathref07.parts
  rintro _ _ rfl
  iterate 7 refine AwOps.v hT rfl ?_
  refine AwOps.nil (Aw.seq (Aw.region ?_))
  refine AwOps.v hT rfl ?_
  refine AwOps.v hT rfl ?_
  refine AwOps.nil ?_
  refine Aw.ret ?_
  refine ⟨_, [], rfl, trivial, ?_⟩
  exact rfl
-- f141 certpath/certpathref07.MailMatch
theorem F141 (a b : ByteArray) (ha : a.size ≤ 1073741824) (hb : b.size ≤ 1073741824) : Fn Tryd.prog 61 [.pv (sc (.string a)), .pv (sc (.string b))] [] (fun r _ => r = sc (.bool (mailMatchB a b))) := by
  refine Fn.intro (rs := [.tmp 4]) hT Tryd.func61 (by kernel_rfl) rfl rfl rfl rfl fun C => ?_
  refine Aw.seq (Aw.region ?_)
  refine AwOps.v hT rfl ?_
  refine AwOps.nil (Aw.seq (Aw.region ?_))
  refine AwOps.v hT rfl ?_
  refine AwOps.cl (F139 _ (by first | omega | (simp only [ByteArray.size_extract, ByteArray.size_append, loI, hiI]; omega))) [] rfl ⟨⟨rfl, rfl⟩, trivial⟩ trivial rfl ?_   -- certpathref07.parts
  rintro _ _ rfl
  iterate 7 refine AwOps.v hT rfl ?_
  refine AwOps.nil (Aw.seq (Aw.region ?_))
  refine AwOps.v hT rfl ?_
  refine AwOps.cl (F139 _ (by first | omega | (simp only [ByteArray.size_extract, ByteArray.size_append, loI, hiI]; omega))) [] rfl ⟨⟨rfl, rfl⟩, trivial⟩ trivial rfl ?_   -- certpathref07.parts
  rintro _ _ rfl
  iterate 7 refine AwOps.v hT rfl ?_
  refine AwOps.nil (Aw.seq (Aw.region ?_))
  refine AwOps.v hT rfl ?_
  refine AwOps.v hT rfl ?_
  refine AwOps.split (t := 24) rfl (fun hb24 => ?_) (fun hb24 => ?_)
  · skip
    iterate 3 refine AwOps.v hT rfl ?_
    refine AwOps.split (t := 27) rfl (fun hb27 => ?_) (fun hb27 => ?_)
    · skip
      iterate 5 refine AwOps.v hT rfl ?_
      refine AwOps.split (t := 32) rfl (fun hb32 => ?_) (fun hb32 => ?_)
      · skip
        refine AwOps.v hT rfl ?_
        refine AwOps.v hT rfl ?_
        refine AwOps.cl (F142 _ _ (by have := partL_size a; have := partL_size b; have := partD_size a; have := partD_size b; omega) (by have := partL_size a; have := partL_size b; have := partD_size a; have := partD_size b; omega)) [] rfl ⟨⟨rfl, rfl⟩, ⟨rfl, rfl⟩, trivial⟩ trivial rfl ?_   -- certpathref07.alike
        rintro _ _ rfl
        refine AwOps.v hT rfl ?_
        refine AwOps.v hT rfl ?_
        refine AwOps.nil ?_
        refine Aw.ret ?_
        refine ⟨_, [], rfl, trivial, ?_⟩
        exact scb (by rw [mailMatchB]; simp only [show (partsOk a) = true from hb24, show (partsOk b) = true from hb27, show (seq (partL a) (partL b)) = true from hb32, Bool.true_and, Bool.false_and, Bool.true_or, Bool.false_or, Bool.or_true, Bool.and_true, Bool.or_false, Bool.and_false, Bool.not_true, Bool.not_false] <;> first | done | rfl | (simp; done))
      · skip
        iterate 5 refine AwOps.v hT rfl ?_
        refine AwOps.nil ?_
        refine Aw.ret ?_
        refine ⟨_, [], rfl, trivial, ?_⟩
        exact scb (by rw [mailMatchB]; simp only [show (partsOk a) = true from hb24, show (partsOk b) = true from hb27, show (seq (partL a) (partL b)) = false from hb32, Bool.true_and, Bool.false_and, Bool.true_or, Bool.false_or, Bool.or_true, Bool.and_true, Bool.or_false, Bool.and_false, Bool.not_true, Bool.not_false] <;> first | done | rfl | (simp; done))
    · skip
      iterate 10 refine AwOps.v hT rfl ?_
      refine AwOps.nil ?_
      refine Aw.ret ?_
      refine ⟨_, [], rfl, trivial, ?_⟩
      exact scb (by rw [mailMatchB]; simp only [show (partsOk a) = true from hb24, show (partsOk b) = false from hb27, Bool.true_and, Bool.false_and, Bool.true_or, Bool.false_or, Bool.or_true, Bool.and_true, Bool.or_false, Bool.and_false, Bool.not_true, Bool.not_false] <;> first | done | rfl | (simp; done))
  · skip
    iterate 13 refine AwOps.v hT rfl ?_
    refine AwOps.nil ?_
    refine Aw.ret ?_
    refine ⟨_, [], rfl, trivial, ?_⟩
    exact scb (by rw [mailMatchB]; simp only [show (partsOk a) = false from hb24, Bool.true_and, Bool.false_and, Bool.true_or, Bool.false_or, Bool.or_true, Bool.and_true, Bool.or_false, Bool.and_false, Bool.not_true, Bool.not_false] <;> first | done | rfl | (simp; done))
def bitI (s : ByteArray) (i j : Int) : Bool := ((bt s i.toNat).fdiv (2 ^ (min (7 - j % 8).toNat IntKind.u8.bits))).tmod 2 == 1
def oneR (s : ByteArray) (j : Nat) : Bool := bitI s ((s.size : Int) / 2 + (j : Int) / 8) j
def netR (s : ByteArray) (j : Nat) : Bool := bitI s ((j : Int) / 8) j
def zerosR (s : ByteArray) (n : Nat) : Bool := (List.range n).any fun j => !oneR s j
theorem zerosR_next (s : ByteArray) (n : Nat) : zerosR s (n + 1) = (zerosR s n || !oneR s n) := by rw [zerosR, zerosR, List.range_succ, List.any_append]; simp
def badR (s : ByteArray) (j : Nat) : Bool := (oneR s j && zerosR s j) || (!oneR s j && netR s j)
def rangeB (s : ByteArray) : Bool := !((s.size : Int) != 8 && (s.size : Int) != 32) && (List.range (8 * (s.size / 2))).all fun j => !badR s j
def andK (k : IntKind) (a b : Int) : Int := k.wrap ((BitVec.ofInt k.bits a &&& BitVec.ofInt k.bits b).toNat : Int)
theorem andK_run {P : Program} {k : IntKind} {t : TypeId} {x y : Operand} {a b : Int} : BinRun P .and t x y (.int k a) (.int k b) (.int k (andK k a b)) := fun w => by
  rw [Sem.run_bind]
  show ((binOp .and t (.int k a) (.int k b))).run P w = _
  simp [binOp, Op.intBits, andK]
def adrB (s : ByteArray) : Bool := (s.size : Int) == 4 || (s.size : Int) == 16
def wholeB (a r : ByteArray) : Bool := adrB a && (a.size : Int) == (r.size : Int) / 2
def adw1 (a r : ByteArray) (j : Nat) : Bool := andK .u8 (bt a j) (bt r (r.size / 2 + j)) != bt r j
def adw2 (a r : ByteArray) (j : Nat) : Bool := andK .u8 (bt a (r.size / 2 + j)) (bt r (r.size / 2 + j)) != bt r (r.size / 2 + j)
def addrWithinB (a r : ByteArray) : Bool := rangeB r && (!(!wholeB a r && (!rangeB a || (a.size : Int) != (r.size : Int))) && (List.range (r.size / 2)).all fun j => !(adw1 a r j || (!wholeB a r && adw2 a r j)))
theorem rangeB_size {s : ByteArray} (h : rangeB s = true) : s.size = 8 ∨ s.size = 32 := by
  rw [rangeB, Bool.and_eq_true] at h
  have := h.1
  simp at this
  omega
theorem adw_ix {r : ByteArray} {i : Nat} : ((r.size : Int) / 2 + (i : Int)).toNat = r.size / 2 + i := by omega
def withinG (g b : Gn) : Bool := !(g.kind != b.kind) && if g.kind == 1 then mailWithinB g.text b.text else if g.kind == 2 then dnsWithinB g.text b.text else if g.kind == 4 then nwithin g.name b.name else if g.kind == 7 then addrWithinB g.text b.text else false
def inG (g : Gn) (l : List Gn) : Bool := l.any fun b => withinG g b
def limG (l : List Gn) (k : Int) : Bool := l.any fun b => b.kind == k
def noG (g : Gn) (s : Sub) : Bool := inG g s.x || (limG s.p g.kind && !inG g s.p)
def permS (l : List Sub) (g : Gn) : Bool := l.all fun s => !noG g s
theorem anyt_step {α : Type} {p : α → Bool} {l : List α} {i : Nat} (hi : i < l.length) (h : (l.take i).any p = false) (hx : p l[i] = false) : (l.take (i + 1)).any p = false := any_take hi h hx
theorem any_full {α : Type} {p : α → Bool} {l : List α} {i : Nat} (h : (l.take i).any p = false) (hi : decide ((i : Int) < (l.length : Nat)) = false) : l.any p = false := by
  have : l.length ≤ i := by have := of_decide_eq_false hi; omega
  rwa [List.take_of_length_le this] at h
end Go.Proofs.YtbdgmondalkhlaaDoor.Aw
