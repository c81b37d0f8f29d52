
/- Rules in the form that the printed walks use.
   Conditions: none; generic in the program. -/
import Derived.Test.YtbdgmondalkhlaaDoorAwArr
namespace Go.Proofs.YtbdgmondalkhlaaDoor.Aw
open Go

variable {P : Program} {C : Ctx P} {T : TT} {σ τ : AS} {a : Act} {w w1 : World} {β β1 : Map} {ops : Array Oper} {i : Nat} {l : List Nat} {K : AS → Prop} {F : Nat → Prop}

section
variable {n d sz : Nat} {s : List (Nat × AV)} {h : List (Nat × HB)} {N : List Nat}
theorem Yd.imI {α : Type} {f : α → List PL} {xs : List α} {m : Int} (hT : TT.ok P T) (hs : idxV T ops i n s h = some (d, .one (.p (.sl (xs.map f))), m, sz)) (h0 : 0 ≤ m) (h1 : m.toNat < xs.length) (hl : (f xs[m.toNat]).length = sz) :
    Yd P C ops N i ⟨n, s, h⟩ d (.one (.el (f xs[m.toNat]) 0)) := Yd.idx hT hs (f xs[m.toNat]) h0 (by simp [h1]) hl
theorem AwOps.imI {α : Type} {f : α → List PL} {xs : List α} {m : Int} (hT : TT.ok P T) (hs : idxV T ops i n s h = some (d, .one (.p (.sl (xs.map f))), m, sz)) (h0 : 0 ≤ m) (h1 : m.toNat < xs.length) (hl : (f xs[m.toNat]).length = sz)
    (hK : AwOps P C ops l ⟨n, (d, .one (.el (f xs[m.toNat]) 0)) :: s, h⟩ K) : AwOps P C ops (i :: l) ⟨n, s, h⟩ K := AwOps.yd (Yd.imI hT hs h0 h1 hl) hK

/-- append, over mapped lists. -/
theorem Ed.appm {α : Type} {f : α → List PL} {xs ys : List α} {v : AppV} (hT : TT.ok P T) (hs : appV T ops i n s h = some v) (he : v.es = xs.map f) (hf : v.fs = ys.map f) (hn : v.n = xs.length) (hm : v.m = ys.length) (hl : ∀ y, (f y).length = v.sz)
    (hlim : (xs.length + ys.length) * v.bytes ≤ 140737488355328) (hN : ∀ b, v.ob = some b → b ∈ N) (hK : K ⟨n, (v.d, .one (.own v.d (xs ++ ys).length)) :: s, (v.d, .row v.e v.sz true ((xs ++ ys).map f)) :: goneH v.ob h⟩) : Ed P C ops N i ⟨n, s, h⟩ K := by
  refine Ed.app hT hs (by rw [hn, he]; simp) (by rw [hm, hf]; simp) (fun x hx => ?_) (by rw [he, hf]; simpa using hlim) hN ?_
  · rw [hf] at hx
    obtain ⟨y, _, rfl⟩ := List.mem_map.1 hx
    exact hl y
  · rw [he, hf, List.length_map, List.length_map, ← List.map_append]
    rw [List.length_append] at hK
    exact hK
theorem AwOps.appm {α : Type} {f : α → List PL} {xs ys : List α} {v : AppV} (hT : TT.ok P T) (hs : appV T ops i n s h = some v) (he : v.es = xs.map f) (hf : v.fs = ys.map f) (hn : v.n = xs.length) (hm : v.m = ys.length) (hl : ∀ y, (f y).length = v.sz)
    (hlim : (xs.length + ys.length) * v.bytes ≤ 140737488355328) (hK : AwOps P C ops l ⟨n, (v.d, .one (.own v.d (xs ++ ys).length)) :: s, (v.d, .row v.e v.sz true ((xs ++ ys).map f)) :: goneH v.ob h⟩ K) : AwOps P C ops (i :: l) ⟨n, s, h⟩ K :=
  AwOps.ed (N := match v.ob with | some b => [b] | none => []) (Ed.appm hT hs he hf hn hm hl hlim (fun b hb => by rw [hb]; exact List.mem_singleton.2 rfl) hK)

/-- Part of a slice that is read. -/
def slpV (T : TT) (ops : Array Oper) (i n : Nat) (s : List (Nat × AV)) (h : List (Nat × HB)) : Option (Nat × List (List PL) × Option Int) := match ops[i]? with
  | some o => match gd ops ⟨n, s, h⟩ o, o.op, o.dst with
    | some true, .slice t x none hi none, some d => match T.lookup t, ev ⟨n, s, h⟩ x, evI ⟨n, s, h⟩ hi with
      | some ti, some (.one (.p (.sl es))), some k => match ti.kd with
        | .sli _ _ _ => if d < n then some (d, es, k) else none
        | _ => none
      | _, _, _ => none
    | _, _, _ => none
  | none => none
theorem Yd.slp (hT : TT.ok P T) {es : List (List PL)} {k : Int} (hs : slpV T ops i n s h = some (d, es, some k)) (h0 : 0 ≤ k) (h1 : k ≤ es.length) : Yd P C ops N i ⟨n, s, h⟩ d (.one (.p (.sl (es.take k.toNat)))) := by
  unfold slpV at hs
  split at hs
  · rename_i o ho
    split at hs
    · rename_i t x hi d' hg hop hd
      split at hs
      · rename_i ti es' k' hti hx hk'
        split at hs
        · rename_i e sz' ag hk
          split at hs
          · rename_i hn
            injection hs with hs
            injection hs with hs1 hs
            injection hs with hs2 hs3
            subst hs1 hs2 hs3
            obtain ⟨u1, u2⟩ := kd_sli (hT _ _ hti) hk
            obtain ⟨yi, dj, k1, k2, k3⟩ := sizeT_ok u2
            refine Yd.of ho hg hd hn fun a w β r => ?_
            obtain ⟨A, c, sz2, hy, hfit, hrows⟩ := r.ev hx
            obtain ⟨oo, kk, rfl, hev⟩ := evI_ok r hk'
            have hkc : k ≤ (c : Int) := by have := hfit.1; omega
            refine ⟨.slice A k.toNat c, fun w' _ => ?_, A, c, sz2, by rw [List.length_take, Nat.min_eq_left (by omega)], ⟨by rw [List.length_take]; have := hfit.1; omega, hfit.2⟩, rows_take _ hrows⟩
            have hadd : (A.map fun x => x.add 0) = A := by cases A <;> simp [add_zero']
            simp [execOp, hop, Instr.sliceAt, Instr.slice, Instr.sliceBounds, Instr.sliceBound, asIntOf, hy, hev, run_underlying' u1, run_size' k1, h0, hkc, hadd]
          · cases hs
        · cases hs
      · cases hs
    · cases hs
  · cases hs
theorem AwOps.slp (hT : TT.ok P T) {es : List (List PL)} {k : Int} (hs : slpV T ops i n s h = some (d, es, some k)) (h0 : 0 ≤ k) (h1 : k ≤ es.length)
    (hK : AwOps P C ops l ⟨n, (d, .one (.p (.sl (es.take k.toNat)))) :: s, h⟩ K) : AwOps P C ops (i :: l) ⟨n, s, h⟩ K := AwOps.yd (Yd.slp hT hs h0 h1) hK

/-- Bytes told as integers, to a string. -/
def eB (x : Int) : List PL := [.v (.int .u8 x)]
def ofI (xs : List Int) : ByteArray := bS (xs.map fun x => UInt8.ofNat x.toNat)
theorem ofI_size (xs : List Int) : (ofI xs).size = xs.length := by simp [ofI, bS, ByteArray.size]
theorem eB_eU {xs : List Int} (hx : ∀ x ∈ xs, 0 ≤ x ∧ x < 256) : xs.map eB = eU (xs.map fun x => UInt8.ofNat x.toNat) := by
  simp only [eU, List.map_map]
  apply List.map_congr_left
  intro x hm
  have := hx x hm
  simp only [eB, eUn, Function.comp]
  have e : (UInt8.ofNat x.toNat).toNat = x.toNat := by rw [UInt8.toNat_ofNat']; omega
  rw [e]
  have : ((x.toNat : Nat) : Int) = x := by omega
  rw [this]
theorem Yd.strB (hT : TT.ok P T) {b m : Nat} {es : List (List PL)} {xs : List Int} (hs : strV T ops i n s h = some (d, b, m, es)) (he : es = xs.map eB) (hx : ∀ x ∈ xs, 0 ≤ x ∧ x < 256) (hm : m = xs.length) (hN : b ∉ N) : Yd P C ops N i ⟨n, s, h⟩ d (sc (.string (ofI xs))) := by
  have := Yd.str (C := C) (N := N) hT hs (he.trans (eB_eU hx)) (by simp [hm]) hN
  rwa [hm, List.take_of_length_le (by simp)] at this
theorem AwOps.strB (hT : TT.ok P T) {b m : Nat} {es : List (List PL)} {xs : List Int} (hs : strV T ops i n s h = some (d, b, m, es)) (he : es = xs.map eB) (hx : ∀ x ∈ xs, 0 ≤ x ∧ x < 256) (hm : m = xs.length)
    (hK : AwOps P C ops l ⟨n, (d, sc (.string (ofI xs))) :: s, h⟩ K) : AwOps P C ops (i :: l) ⟨n, s, h⟩ K := AwOps.yd (Yd.strB hT hs he hx hm List.not_mem_nil) hK
end

/-! ### Bounds of bytes -/
theorem wu8 (x : Int) : 0 ≤ IntKind.wrap .u8 x ∧ IntKind.wrap .u8 x < 256 := by rw [IntKind.wrap_u8]; omega
theorem wu32 (x : Int) : 0 ≤ IntKind.wrap .u32 x ∧ IntKind.wrap .u32 x < 4294967296 := by rw [IntKind.wrap_u32]; omega

/-! ### A region in one order that stands for all: slots told otherwise -/
theorem AwSch.say {t : Nat} {A B : AV} {N : List Nat} {listed : Array Bool} {order : List (Bool × Nat)} {n : Nat} {s : List (Nat × AV)} {h : List (Nat × HB)} (hs : s.lookup t = some A) (e : A = B) (k : AwSch P C ops N listed order ⟨n, (t, B) :: s, h⟩ K) : AwSch P C ops N listed order ⟨n, s, h⟩ K := by
  intro hn ho a w β r
  obtain ⟨y, hy, hv⟩ := r.slots t _ hs
  subst e
  exact k hn ho a w β (r.same hy hv)
end Go.Proofs.YtbdgmondalkhlaaDoor.Aw
