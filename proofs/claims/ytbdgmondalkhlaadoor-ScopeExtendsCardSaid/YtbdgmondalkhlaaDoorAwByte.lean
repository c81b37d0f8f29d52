
/- Bytes: strings to rows and back; elements of rows of one's own are written; rows are named anew at a loop's head.
   Conditions: none; generic in the program. -/
import Derived.Test.YtbdgmondalkhlaaDoorAwGo
import Derived.Lib.ConvBytes
import Derived.Laws.BytesArg
import Derived.Laws.AppendOwn
namespace Go.Proofs.YtbdgmondalkhlaaDoor.Aw
open Go

variable {P : Program} {C : Ctx P} {T : TT} {σ τ : AS} {a : Act} {w w1 : World} {β β1 : Map} {ops : Array Oper} {i : Nat} {l : List Nat} {K : AS → Prop} {F : Nat → Prop}

/-! ### 1. A row is named anew -/
theorem Tn.back (t d : Nat) {b m m' n ty sz : Nat} {pl : Bool} {es es' : List (List PL)} {s fs : List (Nat × AV)} {h fh : List (Nat × HB)} (hs : s.lookup t = some (.one (.own b m))) (hb : h.lookup b = some (.row ty sz pl es))
    (hlo : Nat.blt b 1000 = true) (hd : Nat.blt d 1000 = true) (hno : AS.no d ⟨n, (t, .one (.own b m)) :: fs, (b, .row ty sz pl es) :: fh⟩ = true) (hfs : (fs.all fun x => x.1 != t) = true) (hfh : (fh.all fun x => x.1 != b) = true)
    (hl : lessS s fs) (hh : lessH h fh) (hm : m = m') (he : es = es') : Tn ⟨n, s, h⟩ ⟨n, (t, .one (.own d m')) :: fs, (d, .row ty sz pl es') :: fh⟩ := by
  subst hm he
  refine Tn.trans (Less.tn (τ := ⟨n, (t, .one (.own b m)) :: fs, (b, .row ty sz pl es) :: fh⟩) ⟨rfl, ⟨hs, hl⟩, ⟨hb, hh⟩⟩) ?_
  refine Tn.trans (Tn.name t d (lookup_cons_self _ _ _) (lookup_cons_self _ _ _) (by simpa using hlo) (by simpa using hd) hno) ?_
  rintro _ C a w ⟨β, r⟩
  refine ⟨β, r.less rfl (fun t' x hx => ?_) (fun b' x hx => ?_)⟩
  · by_cases e : t' = t
    · subst e
      rw [lookup_cons_self] at hx ⊢
      exact hx
    · rw [lookup_cons_ne _ _ e] at hx ⊢
      rw [lookup_cons_ne _ _ e]
      exact hx
  · by_cases e : b' = d
    · subst e
      rw [lookup_cons_self] at hx ⊢
      exact hx
    · rw [lookup_cons_ne _ _ e] at hx ⊢
      have hne : b' ≠ b := fun e' => by
        have := List.all_eq_true.1 hfh _ (lookup_mem hx)
        simp [e'] at this
      rw [lookup_cons_ne _ _ hne, lookup_cons_ne _ _ hne]
      exact hx

/-! ### 2. Bytes -/
def eUn (b : UInt8) : List PL := [.v (.int .u8 (b.toNat : Int))]
def eU (xs : List UInt8) : List (List PL) := xs.map eUn
def bS (xs : List UInt8) : ByteArray := ⟨xs.toArray⟩
theorem eU_one (xs : List UInt8) : ∀ e ∈ eU xs, e.length = 1 := by
  intro e he
  simp only [eU, List.mem_map] at he
  obtain ⟨b, _, rfl⟩ := he
  rfl
theorem eU_flat : ∀ xs : List UInt8, (eU xs).flatten = xs.map fun b => PL.v (.int .u8 (b.toNat : Int))
  | [] => rfl
  | x :: xs => by
    show [PL.v (Value.int .u8 (x.toNat : Int))] ++ (eU xs).flatten = _
    rw [eU_flat xs]
    rfl
theorem ats_u8 : ∀ {xs : List UInt8} {ys : List Value}, PL.ats w F (xs.map fun b => PL.v (.int .u8 (b.toNat : Int))) ys → ys = xs.map fun b => Value.int .u8 (b.toNat : Int)
  | [], [], _ => rfl
  | [], _ :: _, h => by simp [PL.ats] at h
  | _ :: _, [], h => by simp [PL.ats] at h
  | x :: xs, y :: ys, h => by
    rw [List.map_cons, PL.ats] at h
    rw [List.map_cons, ats_u8 h.2, h.1.1]

def bytesV (T : TT) (ops : Array Oper) (i n : Nat) (s : List (Nat × AV)) (h : List (Nat × HB)) : Option (Nat × Nat × ByteArray) := match ops[i]? with
  | some o => match gd ops ⟨n, s, h⟩ o, o.op, o.dst with
    | some true, .convert src dst x, some d => match T.lookup src, T.lookup dst, ev ⟨n, s, h⟩ x with
      | some ti, some tj, some (.one (.p (.v (.string b)))) => match ti.kd, tj.kd with
        | .str, .sli e 1 _ => match T.lookup e with
          | some te => match te.kd with
            | .int .u8 => if d < n ∧ d < 1000 ∧ AS.no d ⟨n, s, h⟩ = true then some (d, e, b) else none
            | _ => none
          | none => none
        | _, _ => none
      | _, _, _ => none
    | _, _, _ => none
  | none => none

theorem kd_str {t : Nat} {ti : TI} (h : tiOf P t = some ti) (hk : ti.kd = .str) : P.underlying t = some .string := by
  obtain ⟨xi, dd, z, i1, i2, i3, i4, i5, i6, i7, i8, i9⟩ := TI.info h
  rw [hk] at i6
  cases dd <;> simp only [tkOf] at i6 <;> first | exact i2 | (split at i6 <;> cases i6; done) | cases i6
theorem kd_int {t : Nat} {ti : TI} {k : IntKind} (h : tiOf P t = some ti) (hk : ti.kd = .int k) : P.underlying t = some (.int k) := by
  obtain ⟨xi, dd, z, i1, i2, i3, i4, i5, i6, i7, i8, i9⟩ := TI.info h
  rw [hk] at i6
  cases dd <;> simp only [tkOf] at i6 <;> first | (cases i6; exact i2) | (split at i6 <;> cases i6; done) | cases i6
theorem kd_sli {t : Nat} {ti : TI} {e sz : Nat} {ag : Bool} (h : tiOf P t = some ti) (hk : ti.kd = .sli e sz ag) : P.underlying t = some (.slice e) ∧ sizeT P e = some sz := by
  obtain ⟨xi, dd, z, i1, i2, i3, i4, i5, i6, i7, i8, i9⟩ := TI.info h
  rw [hk] at i6
  cases dd <;> simp only [tkOf] at i6 <;> first | cases i6; done | skip
  all_goals first | (split at i6 <;> first | (cases i6; done) | (rename_i hs'; injection i6 with a1 a2; subst a1 a2; exact ⟨i2, hs'⟩)) | cases i6

theorem Ed.bytes (hT : TT.ok P T) {N : List Nat} {n d e : Nat} {b : ByteArray} {s : List (Nat × AV)} {h : List (Nat × HB)} (hs : bytesV T ops i n s h = some (d, e, b)) (hb : b.size ≤ maxLen)
    (hK : K ⟨n, (d, .one (.own d b.data.toList.length)) :: s, (d, .row e 1 false (eU b.data.toList)) :: h⟩) : Ed P C ops N i ⟨n, s, h⟩ K := by
  unfold bytesV at hs
  split at hs
  · rename_i o ho
    split at hs
    · rename_i src dst x d' hg hop hd
      split at hs
      · rename_i ti tj b' hti htj hx
        split at hs
        · rename_i e' ag hk1 hk2
          split at hs
          · rename_i te hte
            split at hs
            · rename_i hk3
              split at hs
              · rename_i hc
                obtain ⟨hn, hlo, hno⟩ := hc
                injection hs with hs
                injection hs with hs1 hs
                injection hs with hs2 hs3
                subst hs1 hs2 hs3
                refine Ed.of ho hg fun a w β r _ => ?_
                have u1 := kd_str (hT _ _ hti) hk1
                have u2 := (kd_sli (hT _ _ htj) hk2).1
                have u3 := kd_int (hT _ _ hte) hk3
                have hrun : (execOp a.eval o).run P w = .ok (.value (.slice (some ⟨w.heap.size, 0, none⟩) b'.size (grownCap w b'.size 0 e'))) (Lib.bytesWorld w e' b') := by
                  simp [execOp, hop, r.ev_v hx, Lib.run_convert_string_bytes w src dst e' b' u1 u2 u3]
                simp only [Oper.wp, hrun, Oper.upon_value, hd]
                have hst : ∀ M, St M w (Lib.bytesWorld w e' b') := fun M => ⟨rfl, rfl, rfl, by rw [Lib.bytesWorld_size]; omega, fun k hk _ => Lib.bytesWorld_at_old w e' b' k hk⟩
                have hge := grownCap_ge w b'.size 0 e'
                have hle := grownCap_le_maxLen w b'.size 0 e' hb
                have hsz : (Lib.bytesCells w e' b').size = grownCap w b'.size 0 e' := by
                  have : b'.data.size = b'.size := rfl
                  simp [Lib.bytesCells]
                  omega
                have hdl : b'.data.toList.length = b'.size := rfl
                have r1 := r.new (d := d') (g := w.heap.size) (c := grownCap w b'.size 0 e') (x := .row e' 1 false (eU b'.data.toList)) hno hlo (hst _) (Nat.le_refl _) (by rw [Lib.bytesWorld_size]; omega) (by
                  refine ⟨Lib.bytesCells w e' b', _, Lib.bytesWorld_at_new w e' b', (by intro h; cases h), by rw [hsz]; omega, by simp only [eU, List.length_map, hdl]; exact hge, hle, fun j hj => by simp; omega, by omega, eU_one _, ?_⟩
                  rw [eU_flat]
                  refine PL.ats_mk (by simp [eU, hsz, hdl]; omega) fun j p y hp hy => ?_
                  rw [List.getElem?_map] at hp
                  cases hj : b'.data.toList[j]? with
                  | none => rw [hj] at hp; cases hp
                  | some u =>
                    rw [hj] at hp
                    simp at hp
                    subst hp
                    have hlt := getElem?_prop hj
                    rw [List.getElem?_take_of_lt (by simpa [eU] using hlt)] at hy
                    have : (Lib.bytesCells w e' b').toList[j]? = some (.int .u8 (u.toNat : Int)) := by
                      have h2 : j < b'.data.size := by simpa using hlt
                      rw [Lib.bytesCells, Array.toList_append, List.getElem?_append_left (by simpa using h2), Array.toList_map, List.getElem?_map, hj]
                      rfl
                    rw [this] at hy
                    injection hy with hy
                    subst hy
                    exact ⟨rfl, rfl⟩)
                refine ⟨_, _, hK, r1.put hn ?_, Mv.new (hst _) (Nat.le_refl _)⟩
                simp only [AVs, AV.rep, AL.rep, upd_self]
                exact ⟨by rw [hdl], by rw [hdl]; exact hge⟩
              · cases hs
            · cases hs
          · cases hs
        · cases hs
      · cases hs
    · cases hs
  · cases hs
theorem AwOps.bytes (hT : TT.ok P T) {n d e : Nat} {b : ByteArray} {s : List (Nat × AV)} {h : List (Nat × HB)} (hs : bytesV T ops i n s h = some (d, e, b)) (hb : b.size ≤ maxLen)
    (hK : AwOps P C ops l ⟨n, (d, .one (.own d b.data.toList.length)) :: s, (d, .row e 1 false (eU b.data.toList)) :: h⟩ K) : AwOps P C ops (i :: l) ⟨n, s, h⟩ K := AwOps.ed (N := []) (Ed.bytes hT hs hb hK)


/-- The bytes of a row of one's own, as a string. -/
def strV (T : TT) (ops : Array Oper) (i n : Nat) (s : List (Nat × AV)) (h : List (Nat × HB)) : Option (Nat × Nat × Nat × List (List PL)) := match ops[i]? with
  | some o => match gd ops ⟨n, s, h⟩ o, o.op, o.dst with
    | some true, .convert src dst x, some d => match T.lookup src, T.lookup dst, ev ⟨n, s, h⟩ x with
      | some ti, some tj, some (.one (.own b m)) => match ti.kd, tj.kd with
        | .sli e 1 _, .str => match T.lookup e with
          | some te => match te.kd, h.lookup b with
            | .int .u8, some (.row _ 1 _ es) => if d < n then some (d, b, m, es) else none
            | _, _ => none
          | none => none
        | _, _ => none
      | _, _, _ => none
    | _, _, _ => none
  | none => none
theorem Yd.str (hT : TT.ok P T) {N : List Nat} {n d b m : Nat} {es : List (List PL)} {xs : List UInt8} {s : List (Nat × AV)} {h : List (Nat × HB)} (hs : strV T ops i n s h = some (d, b, m, es)) (he : es = eU xs) (hm : m ≤ xs.length) (hN : b ∉ N) :
    Yd P C ops N i ⟨n, s, h⟩ d (sc (.string (bS (xs.take m)))) := by
  subst he
  unfold strV at hs
  split at hs
  · rename_i o ho
    split at hs
    · rename_i src dst x d' hg hop hd
      split at hs
      · rename_i ti tj b' m' hti htj hx
        split at hs
        · rename_i e' ag hk1 hk2
          split at hs
          · rename_i te hte
            split at hs
            · rename_i ty pl es' hk3 hb
              split at hs
              · rename_i hn
                injection hs with hs
                injection hs with hs1 hs
                injection hs with hs2 hs
                injection hs with hs3 hs4
                subst hs1 hs2 hs3 hs4
                refine Yd.of ho hg hd hn fun a w β r => ?_
                have u1 := (kd_sli (hT _ _ hti) hk1).1
                have u2 := kd_str (hT _ _ htj) hk2
                have u3 := kd_int (hT _ _ hte) hk3
                have hv := r.ev hx
                have hok := r.heap b' _ hb
                simp only [AVs, AV.rep, AL.rep] at hv
                cases hl : β b' with
                | dead => rw [hl] at hok; exact hok.elim
                | nil =>
                  rw [hl] at hok hv
                  have hx0 : xs = [] := by
                    have := hok.1
                    cases xs with
                    | nil => rfl
                    | cons x xs => cases this
                  subst hx0
                  refine ⟨.string (bS ([].take m')), fun w' _ => ?_, rfl, rfl⟩
                  have hr : (convert src dst (.slice none 0 0)).run P w' = .ok (.string ByteArray.empty) w' := run_convert_bytes_nil w' src e' u1 u3 0 0 dst u2
                  have : bS [] = ByteArray.empty := rfl
                  simp [execOp, hop, hv.1, hr, this]
                | here g c =>
                  rw [hl] at hok hv
                  obtain ⟨arr, fz, h1, h2, h3, h4, h5, h6, h7, h8, h9⟩ := hok
                  refine ⟨_, fun w' hw' => ?_, rfl, rfl⟩
                  have hsame := hw'.same g (r.young b' _ g c hb hl).1 (by
                    rintro ⟨b2, hb2, x2, c2, k1, k2⟩
                    have := r.apart b2 b' _ _ g c2 c k1 hb k2 hl
                    subst this
                    exact hN hb2)
                  rw [eU_flat] at h9
                  have hys := ats_u8 h9
                  have hr := run_convert_bytes_arg w' src e' u1 u3 g 0 m' c ((xs.take m').map fun b => (b.toNat : Int)) (by simp; omega) (fun j hj => by
                    have hjx : j < xs.length := by omega
                    have h10 : arr[j]? = some (.int .u8 (xs[j].toNat : Int)) := by
                      have := congrArg (fun l => l[j]?) hys
                      simp only [List.getElem?_map, List.getElem?_eq_getElem hjx] at this
                      rw [List.getElem?_take_of_lt (by simpa [eU] using hjx)] at this
                      simpa using this
                    simp only [World.cell?, hsame, h1, Nat.zero_add, h10]
                    simp [List.getD, hj, hjx]) dst u2
                  have hstr : strOfNums ((xs.take m').map fun b => (b.toNat : Int)) = bS (xs.take m') := by
                    simp only [strOfNums, bS, List.map_map]
                    congr 2
                    rw [List.map_congr_left (g := id)]
                    · simp
                    · intro u _
                      simp
                  rw [hstr] at hr
                  simp [execOp, hop, hv.1, hr]
              · cases hs
            · cases hs
          · cases hs
        · cases hs
      · cases hs
    · cases hs
  · cases hs
theorem AwOps.str (hT : TT.ok P T) {n d b m : Nat} {es : List (List PL)} {xs : List UInt8} {s : List (Nat × AV)} {h : List (Nat × HB)} (hs : strV T ops i n s h = some (d, b, m, es)) (he : es = eU xs) (hm : m ≤ xs.length)
    (hK : AwOps P C ops l ⟨n, (d, sc (.string (bS (xs.take m)))) :: s, h⟩ K) : AwOps P C ops (i :: l) ⟨n, s, h⟩ K := AwOps.yd (Yd.str hT hs he hm List.not_mem_nil) hK

/-! ### 3. An element of a row of one's own is written -/
theorem flat_get {α : Type} {sz : Nat} (h0 : 0 < sz) : ∀ {es : List (List α)} {q : Nat}, (∀ e ∈ es, e.length = sz) → es.flatten[q]? = (es[q / sz]?).bind fun e => e[q % sz]?
  | [], q, _ => by simp
  | x :: es, q, h => by
    have hx := h x List.mem_cons_self
    rw [List.flatten_cons]
    by_cases hq : q < sz
    · rw [List.getElem?_append_left (by omega), Nat.div_eq_of_lt hq, Nat.mod_eq_of_lt hq]
      rfl
    · have e1 : q / sz = (q - sz) / sz + 1 := by
        rw [← Nat.add_div_right _ h0]
        congr 1
        omega
      have e2 : q % sz = (q - sz) % sz := (Nat.mod_eq_sub_mod (by omega))
      rw [List.getElem?_append_right (by omega), hx, e1, e2, List.getElem?_cons_succ]
      exact flat_get h0 fun e he => h e (List.mem_cons_of_mem _ he)

def stoV (T : TT) (ops : Array Oper) (i n : Nat) (s : List (Nat × AV)) (h : List (Nat × HB)) : Option (Nat × Nat × Nat × Nat × List PL) := match ops[i]? with
  | some o => match gd ops ⟨n, s, h⟩ o, o.op, o.dst with
    | some true, .store t x v, none => match T.lookup t, ev ⟨n, s, h⟩ x, ev ⟨n, s, h⟩ v with
      | some ti, some (.one (.oel b k sz off)), some A => match pcells A with
        | some qs => if qs.length = ti.size then some (b, k, sz, off, qs) else none
        | none => none
      | _, _, _ => none
    | _, _, _ => none
  | none => none
theorem splice_get {α : Type} {xs ys : List α} {off : Nat} (h : off + ys.length ≤ xs.length) (j : Nat) : (splice xs off ys)[j]? = if off ≤ j ∧ j < off + ys.length then ys[j - off]? else xs[j]? := by
  unfold splice
  by_cases h1 : j < off
  · rw [List.append_assoc, List.getElem?_append_left (by simp; omega), List.getElem?_take_of_lt h1, if_neg (by omega)]
  · by_cases h2 : j < off + ys.length
    · rw [List.append_assoc, List.getElem?_append_right (by simp; omega), List.getElem?_append_left (by simp; omega), if_pos (by omega)]
      congr 1
      simp
      omega
    · rw [List.getElem?_append_right (by simp; omega), if_neg (by omega), List.getElem?_drop]
      congr 1
      simp
      omega

theorem Ed.sto (hT : TT.ok P T) {N : List Nat} {n b k sz off ty : Nat} {pl : Bool} {es : List (List PL)} {qs : List PL} {s : List (Nat × AV)} {h : List (Nat × HB)} (hs : stoV T ops i n s h = some (b, k, sz, off, qs)) (hb : h.lookup b = some (.row ty sz pl es)) (e : List PL) (he : es[k]? = some e)
    (hfit : off + qs.length ≤ sz) (hN : b ∈ N) (hK : K ⟨n, s, (b, .row ty sz pl (es.set k (splice e off qs))) :: h⟩) : Ed P C ops N i ⟨n, s, h⟩ K := by
  unfold stoV at hs
  split at hs
  · rename_i o ho
    split at hs
    · rename_i t x v hg hop hd
      split at hs
      · rename_i ti b' k' sz' off' A hti hx hv
        split at hs
        · rename_i qs' hq
          split at hs
          · rename_i hqs
            injection hs with hs
            injection hs with hs1 hs
            injection hs with hs2 hs
            injection hs with hs3 hs
            injection hs with hs4 hs5
            subst hs1 hs2 hs3 hs4 hs5
            refine Ed.of ho hg fun a w β r _ => ?_
            have hok := r.heap b' _ hb
            have hx' := r.ev hx
            have hvc := pcells_ok hq (r.ev hv)
            simp only [AVs, AV.rep, AL.rep] at hx'
            cases hl : β b' with
            | dead => rw [hl] at hok; exact hok.elim
            | nil => rw [hl] at hok; obtain ⟨rfl, _⟩ := hok; simp at he
            | here g c =>
              rw [hl] at hok hx'
              obtain ⟨arr, fz, h1, h2, h3, h4, h5, h6, h7, h8, h9⟩ := hok
              have hk : k' < es.length := getElem?_prop he
              have hel := h8 e (List.mem_of_getElem? he)
              have hkk : k' * sz' + sz' ≤ es.length * sz' := by
                have := Nat.mul_le_mul_right sz' (show k' + 1 ≤ es.length from hk)
                rw [Nat.add_mul, Nat.one_mul] at this
                exact this
              have hle : es.length * sz' ≤ arr.size := by rw [h3]; exact Nat.mul_le_mul_right _ h4
              have hvl : (a.eval v).cells.toList.length = qs'.length := PL.ats_length hvc
              obtain ⟨xi, dd, z, i1, i2, i3, i4, _⟩ := TI.info (hT _ _ hti)
              obtain ⟨arr', q1, q2, q3⟩ := run_storeCells (P := P) (a.eval v).cells.toList w arr (k' * sz' + off') 0 h1 (by rw [hvl]; omega) h6 (ats_leaf hvc)
              have hrun : (execOp a.eval o).run P w = .ok .skip (setBlk w g (.cells arr' ty fz)) := by
                have hs : (a.eval v).cells.size = ti.size := by rw [← hqs, ← hvl]; simp
                simp [execOp, hop, Instr.storeAt, hx', Instr.sureAddr, storeVar, run_size' i1, i4, hs, q1]
              simp only [Oper.wp, hrun, Oper.upon_skip, hd, Act.put]
              have hg' := (r.young b' _ g c hb hl).1
              have hst : St (fun k => k = g) w (setBlk w g (.cells arr' ty fz)) := setBlk_st w g _ rfl
              have hgood : ∀ q, good (Mt C h β) w q → good (Mt C ((b', HB.row ty sz' pl (es.set k' (splice e off' qs'))) :: h) β) (setBlk w g (.cells arr' ty fz)) q ∧ (setBlk w g (.cells arr' ty fz)).heap[q]? = w.heap[q]? := fun q hq => by
                have hne : q ≠ g := fun e => hq.2 (.inr ⟨b', _, c, hb, by rw [e]; exact hl⟩)
                refine ⟨⟨Nat.lt_of_lt_of_le hq.1 hst.size, fun hm => hq.2 ?_⟩, hst.same q hq.1 hne⟩
                rcases hm with hm | ⟨b2, x2, c2, k1, k2⟩
                · exact .inl hm
                · by_cases e2 : b2 = b'
                  · subst e2; exact .inr ⟨b2, _, c2, hb, k2⟩
                  · rw [lookup_cons_ne _ _ e2] at k1; exact .inr ⟨b2, x2, c2, k1, k2⟩
              have hall : ∀ u ∈ es.set k' (splice e off' qs'), u.length = sz' := fun u hu => by
                rcases List.mem_or_eq_of_mem_set hu with h | h
                · exact h8 u h
                · rw [h, splice_len (by omega), hel]
              refine ⟨_, β, hK, r.over hb hl hst ⟨arr', fz, setBlk_at _ _ _ hg', h2, by rw [q2, h3], by simpa using h4, h5, by rw [q2]; exact h6, h7, hall, ?_⟩, Mv.over hb hl hN hst⟩
              refine PL.ats_mk (by rw [flatten_len hall]; simp [q2]; omega) fun j p y hp hy => ?_
              rw [flat_get h7 hall] at hp
              have hjl : j < es.length * sz' := by
                have := getElem?_prop hy
                simp at this
                omega
              rw [List.getElem?_take_of_lt (by simpa using hjl), Array.getElem?_toList, q3 j] at hy
              simp only [Nat.add_zero, hvl] at hy
              have hjd := Nat.div_add_mod j sz'
              have hjm := Nat.mod_lt j h7
              have old : es.flatten[j]? = some p → arr[j]? = some y → PL.at (setBlk w g (.cells arr' ty fz)) (good (Mt C ((b', HB.row ty sz' pl (es.set k' (splice e off' qs'))) :: h) β) (setBlk w g (.cells arr' ty fz))) p y := fun k1 k2 => by
                obtain ⟨y', hy', hat⟩ := PL.ats_get h9 k1
                rw [List.getElem?_take_of_lt hjl] at hy'
                have : y' = y := by
                  have h3 : arr.toList[j]? = some y := by simpa using k2
                  rw [hy'] at h3
                  injection h3
                subst this
                exact PL.at_move hgood p hat
              by_cases hjk : j / sz' = k'
              · rw [hjk, List.getElem?_set_self (by omega)] at hp
                simp only [Option.bind_some] at hp
                rw [splice_get (by omega)] at hp
                have hjj : k' * sz' + j % sz' = j := by rw [← hjk, Nat.mul_comm]; exact hjd
                by_cases hin : off' ≤ j % sz' ∧ j % sz' < off' + qs'.length
                · rw [if_pos hin] at hp
                  rw [if_pos (by omega)] at hy
                  have : j - (k' * sz' + off') = j % sz' - off' := by omega
                  rw [this] at hy
                  obtain ⟨y', hy', hat⟩ := PL.ats_get hvc hp
                  rw [hy] at hy'
                  injection hy' with hy'
                  subst hy'
                  exact PL.at_move hgood p hat
                · rw [if_neg hin] at hp
                  rw [if_neg (by omega)] at hy
                  refine old ?_ hy
                  rw [flat_get h7 h8, hjk, he]
                  exact hp
              · rw [List.getElem?_set_ne (Ne.symm hjk)] at hp
                have hout : ¬ (k' * sz' + off' ≤ j ∧ j < k' * sz' + off' + qs'.length) := fun ⟨g1, g2⟩ => hjk (by
                  apply Nat.div_eq_of_lt_le
                  · omega
                  · rw [Nat.add_mul, Nat.one_mul]; omega)
                rw [if_neg hout] at hy
                refine old ?_ hy
                rw [flat_get h7 h8]
                exact hp
          · cases hs
        · cases hs
      · cases hs
    · cases hs
  · cases hs
theorem AwOps.sto (hT : TT.ok P T) {n b k sz off ty : Nat} {pl : Bool} {es : List (List PL)} {qs : List PL} {s : List (Nat × AV)} {h : List (Nat × HB)} (hs : stoV T ops i n s h = some (b, k, sz, off, qs)) (hb : h.lookup b = some (.row ty sz pl es)) (e : List PL) (he : es[k]? = some e)
    (hfit : off + qs.length ≤ sz) (hK : AwOps P C ops l ⟨n, s, (b, .row ty sz pl (es.set k (splice e off qs))) :: h⟩ K) : AwOps P C ops (i :: l) ⟨n, s, h⟩ K := AwOps.ed (N := [b]) (Ed.sto hT hs hb e he hfit (by simp) hK)
end Go.Proofs.YtbdgmondalkhlaaDoor.Aw
