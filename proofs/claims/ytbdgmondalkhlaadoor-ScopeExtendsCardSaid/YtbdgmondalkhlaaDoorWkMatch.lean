
/- Matching of names: the program's and the reference's are one.
   Conditions: none. -/
import Derived.Test.YtbdgmondalkhlaaDoorWkName
import Derived.Test.YtbdgmondalkhlaaDoorPuText
namespace Go.Proofs.YtbdgmondalkhlaaDoor.Aw
open Go

def mt (x y : ByteArray) : Bool := seq (bS (tfold x.data.toList).1) (bS (tfold y.data.toList).1)
theorem seq_iff {a b : ByteArray} : seq a b = true ↔ a.toList = b.toList := by simp [seq]
theorem seq_comm (a b : ByteArray) : seq a b = seq b a := by
  rw [Bool.eq_iff_iff, seq_iff, seq_iff]
  exact ⟨Eq.symm, Eq.symm⟩
theorem mt_comm (x y : ByteArray) : mt x y = mt y x := seq_comm _ _
theorem hasS_hasR : hasR mt = hasS mt := by
  funext r a
  simp only [hasR, hasS]
  congr 1
  funext b
  rw [seq_comm, mt_comm]
/-- Two names match. -/
def nmatch (a b : Name) : Bool := matchS (hasS mt) a b
def nwithin (a b : Name) : Bool := withinS (hasS mt) a b
theorem F108' : ∀ x y, okS x → okS y → Fn Tryd.prog 76 [.pv (sc (.string x)), .pv (sc (.string y))] [] (fun z _ => z = sc (.bool (mt x y))) := fun x y hx hy => F108 x y hx hy
theorem F109' : ∀ x y, okS x → okS y → Fn Tryd.prog 85 [.pv (sc (.string x)), .pv (sc (.string y))] [] (fun z _ => z = sc (.bool (mt x y))) := fun x y hx hy => by
  have := F109 x y hx hy
  rw [← fold_same, ← fold_same] at this
  exact this
theorem Match_ok (a b : Name) (ha : okN a) (hb : okN b) : Fn Tryd.prog 25 [.pv (.agg (eName a)), .pv (.agg (eName b))] [] (fun z _ => z = sc (.bool (nmatch a b))) := F72 mt F108' a b ha hb
theorem MatchName_ok (a b : Name) (ha : okN a) (hb : okN b) : Fn Tryd.prog 30 [.pv (.agg (eName a)), .pv (.agg (eName b))] [] (fun z _ => z = sc (.bool (nmatch a b))) := by
  have := F73 mt F109' a b ha hb
  rw [hasS_hasR] at this
  exact this
theorem Within_ok (a b : Name) (ha : okN a) (hb : okN b) : Fn Tryd.prog 42 [.pv (.agg (eName a)), .pv (.agg (eName b))] [] (fun z _ => z = sc (.bool (nwithin a b))) := F84 mt F108' a b ha hb
theorem WithinName_ok (a b : Name) (ha : okN a) (hb : okN b) : Fn Tryd.prog 46 [.pv (.agg (eName a)), .pv (.agg (eName b))] [] (fun z _ => z = sc (.bool (nwithin a b))) := by
  have := F85 mt F109' a b ha hb
  rw [hasS_hasR] at this
  exact this
end Go.Proofs.YtbdgmondalkhlaaDoor.Aw
