
/- Rules that a printed walk uses: tests that are known, loops with what stays, elements of mapped lists.
   Conditions: none; generic in the program. -/
import Derived.Test.YtbdgmondalkhlaaDoorAwIdx
import Derived.IntWalk
namespace Go.Proofs.YtbdgmondalkhlaaDoor.Aw
open Go

variable {P : Program} {C : Ctx P} {T : TT} {σ τ : AS} {a : Act} {w w1 : World} {β β1 : Map} {ops : Array Oper} {i : Nat} {l : List Nat} {K : AS → Prop} {F : Nat → Prop}

theorem Aw.condT {t : Tmp} {x y : Code} {n : Nat} {s : List (Nat × AV)} {h : List (Nat × HB)} {Q : Exit → AS → Prop} (hs : s.lookup t = some (.one (.p (.v (.bool true))))) (k : Aw P C x ⟨n, s, h⟩ Q) : Aw P C (.cond (.tmp t) x y) ⟨n, s, h⟩ Q :=
  Aw.cond hs (fun _ => k) (fun e => by cases e)
theorem Aw.condF {t : Tmp} {x y : Code} {n : Nat} {s : List (Nat × AV)} {h : List (Nat × HB)} {Q : Exit → AS → Prop} (hs : s.lookup t = some (.one (.p (.v (.bool false))))) (k : Aw P C y ⟨n, s, h⟩ Q) : Aw P C (.cond (.tmp t) x y) ⟨n, s, h⟩ Q :=
  Aw.cond hs (fun e => by cases e) (fun _ => k)
/-- A test, both ways, with what is learned. -/
theorem Aw.tst {t : Tmp} {x y : Code} {b : Bool} {n : Nat} {s : List (Nat × AV)} {h : List (Nat × HB)} {Q : Exit → AS → Prop} (hs : s.lookup t = some (.one (.p (.v (.bool b)))))
    (ht : b = true → Aw P C x ⟨n, (t, sc (.bool true)) :: s, h⟩ Q) (hf : b = false → Aw P C y ⟨n, (t, sc (.bool false)) :: s, h⟩ Q) : Aw P C (.cond (.tmp t) x y) ⟨n, s, h⟩ Q := by
  intro a w ⟨β, r⟩
  obtain ⟨v, hv, hrep⟩ := r.slots t _ hs
  have he : a.eval (.tmp t) = .bool b := by simp [Act.eval, hv, hrep.1]
  cases b with
  | true => exact wp_cond_true he (ht rfl a w ⟨β, r.same hv hrep⟩)
  | false => exact wp_cond_false he (hf rfl a w ⟨β, r.same hv hrep⟩)

/-- A slice's length is bounded. -/
theorem Rel.bnd {t : Nat} {es : List (List PL)} {n : Nat} {s : List (Nat × AV)} {h : List (Nat × HB)} (r : Rel C ⟨n, s, h⟩ a w β) (hs : s.lookup t = some (.one (.p (.sl es)))) : es.length ≤ maxLen := by
  obtain ⟨v, hv, A, c, sz, h1, h2, h3⟩ := r.slots t _ hs
  exact Nat.le_trans h2.1 h2.2
theorem AwOps.bnd (t : Nat) {es : List (List PL)} {n : Nat} {s : List (Nat × AV)} {h : List (Nat × HB)} (hs : s.lookup t = some (.one (.p (.sl es)))) (k : es.length ≤ maxLen → AwOps P C ops l ⟨n, s, h⟩ K) : AwOps P C ops l ⟨n, s, h⟩ K :=
  fun a w ⟨β, r⟩ => k (r.bnd hs) a w ⟨β, r⟩
theorem Aw.bnd (t : Nat) {c : Code} {Q : Exit → AS → Prop} {es : List (List PL)} {n : Nat} {s : List (Nat × AV)} {h : List (Nat × HB)} (hs : s.lookup t = some (.one (.p (.sl es)))) (k : es.length ≤ maxLen → Aw P C c ⟨n, s, h⟩ Q) : Aw P C c ⟨n, s, h⟩ Q :=
  fun a w ⟨β, r⟩ => k (r.bnd hs) a w ⟨β, r⟩
theorem AwAny.bnd (t : Nat) {N : List Nat} {fuel : Nat} {listed : Array Bool} {es : List (List PL)} {n : Nat} {s : List (Nat × AV)} {h : List (Nat × HB)} (hs : s.lookup t = some (.one (.p (.sl es)))) (k : es.length ≤ maxLen → AwAny P C ops N fuel listed ⟨n, s, h⟩ K) : AwAny P C ops N fuel listed ⟨n, s, h⟩ K :=
  fun a w β r => k (r.bnd hs) a w β r
theorem AwAny.split {t : Nat} {b : Bool} {N : List Nat} {fuel : Nat} {listed : Array Bool} {n : Nat} {s : List (Nat × AV)} {h : List (Nat × HB)} (hs : s.lookup t = some (sc (.bool b))) (ht : b = true → AwAny P C ops N fuel listed ⟨n, (t, sc (.bool true)) :: s, h⟩ K)
    (hf : b = false → AwAny P C ops N fuel listed ⟨n, (t, sc (.bool false)) :: s, h⟩ K) : AwAny P C ops N fuel listed ⟨n, s, h⟩ K := by
  intro a w β r
  obtain ⟨y, hy, hv⟩ := r.slots t _ hs
  cases b with
  | true => exact ht rfl a w β (r.same hy hv)
  | false => exact hf rfl a w β (r.same hy hv)
/-- A slot is told otherwise. -/
theorem Less.say {t : Nat} {A B : AV} {n : Nat} {s : List (Nat × AV)} {h : List (Nat × HB)} (hs : s.lookup t = some A) (e : A = B) : Tn ⟨n, s, h⟩ ⟨n, (t, B) :: s, h⟩ := by
  rintro _ C a w ⟨β, r⟩
  obtain ⟨y, hy, hv⟩ := r.slots t _ hs
  subst e
  exact ⟨β, r.same hy hv⟩
theorem wrap_succ {i k : Nat} (h : i < k) (hk : k ≤ maxLen) : IntKind.wrap .i64 ((i : Int) + 1) = ((i + 1 : Nat) : Int) := by
  have hk' : k ≤ 2 ^ 63 - 1 := hk
  rw [IntWalk.i64_in _ (by omega)]
  rfl

theorem incS {i k : Nat} (h : i < k) (hk : k ≤ maxLen) : some (sc (.int .i64 (IntKind.wrap .i64 ((i : Int) + 1)))) = some (sc (.int .i64 ((i + 1 : Nat) : Int))) := by rw [wrap_succ h hk]

/-- Two ways meet: J says what stands behind both. -/
theorem Aw.join {c : Code} {Q : Exit → AS → Prop} {K : AS → Prop} (J : AS → Prop) (h : Aw P C c σ (thn J Q)) (k : ∀ σ', J σ' → K σ') : Aw P C c σ (thn K Q) :=
  h.mono fun x σ' q => by cases x <;> first | exact k σ' q | exact q

theorem AwOps.join {K : AS → Prop} (J : AS → Prop) (h : AwOps P C ops l σ J) (k : ∀ σ', J σ' → K σ') : AwOps P C ops l σ K :=
  fun a w hr Q hQ => h a w hr Q fun a' w' σ' j r => hQ a' w' σ' (k σ' j) r

/-- A loop, with what stays (fs, fh) and what an index tells (ms, mh). -/
theorem Aw.lp {ι : Type} {c : Code} {Q : Exit → AS → Prop} {n : Nat} (fs : List (Nat × AV)) (fh : List (Nat × HB)) (ms : ι → List (Nat × AV)) (mh : ι → List (Nat × HB)) (ok : ι → Prop) (μ : ι → Nat) (i0 : ι) (hok : ok i0)
    (h0 : Tn σ ⟨n, ms i0 ++ fs, mh i0 ++ fh⟩) (hr : ∀ i, ok i → Aw P C c ⟨n, ms i ++ fs, mh i ++ fh⟩ (thn (fun σ' => ∃ i', ok i' ∧ μ i' < μ i ∧ Tn σ' ⟨n, ms i' ++ fs, mh i' ++ fh⟩) Q)) : Aw P C (.loop c) σ Q :=
  Aw.loopT (fun i => ⟨n, ms i ++ fs, mh i ++ fh⟩) ok μ i0 h0 hok hr

section
variable {n d sz : Nat} {s : List (Nat × AV)} {h : List (Nat × HB)} {N : List Nat}
theorem Yd.im {α : Type} {f : α → List PL} {xs : List α} {k : Nat} (hT : TT.ok P T) (hs : idxV T ops i n s h = some (d, .one (.p (.sl (xs.map f))), (k : Int), sz)) (hk : k < xs.length) (hl : (f xs[k]).length = sz) :
    Yd P C ops N i ⟨n, s, h⟩ d (.one (.el (f xs[k]) 0)) := Yd.idx hT hs (f xs[k]) (by omega) (by simp [hk]) hl
theorem AwOps.im {α : Type} {f : α → List PL} {xs : List α} {k : Nat} (hT : TT.ok P T) (hs : idxV T ops i n s h = some (d, .one (.p (.sl (xs.map f))), (k : Int), sz)) (hk : k < xs.length) (hl : (f xs[k]).length = sz)
    (hK : AwOps P C ops l ⟨n, (d, .one (.el (f xs[k]) 0)) :: s, h⟩ K) : AwOps P C ops (i :: l) ⟨n, s, h⟩ K := AwOps.yd (Yd.im hT hs hk hl) hK
end

/-! ### A region that draws its order, by one order that stands for all -/
/-- (true, i): number i is taken first; (false, i): number i alone may come up. -/
def schedOk (ops : Array Oper) : Array Bool → List (Bool × Nat) → Bool
  | listed, [] => (Region.ready .any ops listed).isEmpty
  | listed, (true, i) :: r => Region.free .any ops listed i && (Region.ready .any ops listed).contains i && schedOk ops (listed.setIfInBounds i true) r
  | listed, (false, i) :: r => Region.ready .any ops listed == [i] && schedOk ops (listed.setIfInBounds i true) r
def AwSch (P : Program) (C : Ctx P) (ops : Array Oper) (N : List Nat) (listed : Array Bool) (order : List (Bool × Nat)) (σ : AS) (K : AS → Prop) : Prop :=
  Region.noSelect ops = true → schedOk ops listed order = true → AwAny P C ops N order.length listed σ K
theorem Aw.regionS (N : List Nat) (order : List (Bool × Nat)) {id : Nat} {Q : Exit → AS → Prop} (hm : P.follows .mixedOrders = true) (hs : (Region.noSelect ops && schedOk ops (Array.replicate ops.size false) order && order.length == ops.size) = true)
    (h : AwSch P C ops N (Array.replicate ops.size false) order σ (fun σ' => Q .normal σ')) : Aw P C (.region id ops true) σ Q := by
  simp only [Bool.and_eq_true, beq_iff_eq] at hs
  have := h hs.1.1 hs.1.2
  rw [hs.2] at this
  exact Aw.regionAny N hm this
section
variable {N : List Nat} {listed : Array Bool} {order : List (Bool × Nat)}
theorem AwSch.nil (h : K σ) : AwSch P C ops N listed [] σ K := fun _ hs => AwAny.done (by simpa [schedOk] using hs) h
theorem AwSch.take {d : Nat} {A : AV} {n : Nat} {s : List (Nat × AV)} {h : List (Nat × HB)} (hy : Yd P C ops N i ⟨n, s, h⟩ d A) (k : AwSch P C ops N (listed.setIfInBounds i true) order ⟨n, (d, A) :: s, h⟩ K) : AwSch P C ops N listed ((true, i) :: order) ⟨n, s, h⟩ K := by
  intro hn hs
  simp only [schedOk, Bool.and_eq_true] at hs
  exact AwAny.take hy hn hs.1.1 hs.1.2 (k hn hs.2)
theorem AwSch.one (h : Ed P C ops N i σ (fun σ' => AwSch P C ops N (listed.setIfInBounds i true) order σ' K)) : AwSch P C ops N listed ((false, i) :: order) σ K := by
  intro hn hs
  simp only [schedOk, Bool.and_eq_true, beq_iff_eq] at hs
  exact AwAny.one hs.1 (h.mono fun σ' k => k hn hs.2)
theorem AwSch.bnd (t : Nat) {es : List (List PL)} {n : Nat} {s : List (Nat × AV)} {h : List (Nat × HB)} (hs : s.lookup t = some (.one (.p (.sl es)))) (k : es.length ≤ maxLen → AwSch P C ops N listed order ⟨n, s, h⟩ K) : AwSch P C ops N listed order ⟨n, s, h⟩ K :=
  fun hn ho a w β r => k (r.bnd hs) hn ho a w β r
theorem AwSch.split {t : Nat} {b : Bool} {n : Nat} {s : List (Nat × AV)} {h : List (Nat × HB)} (hs : s.lookup t = some (sc (.bool b))) (ht : b = true → AwSch P C ops N listed order ⟨n, (t, sc (.bool true)) :: s, h⟩ K)
    (hf : b = false → AwSch P C ops N listed order ⟨n, (t, sc (.bool false)) :: s, h⟩ K) : AwSch P C ops N listed order ⟨n, s, h⟩ K :=
  fun hn ho => AwAny.split hs (fun e => ht e hn ho) (fun e => hf e hn ho)
end
end Go.Proofs.YtbdgmondalkhlaaDoor.Aw
