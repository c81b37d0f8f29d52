
/- The library's functions over strings, out of the kit's shelf, as contracts of ours.
   Conditions: none. -/
import Derived.Test.YtbdgmondalkhlaaDoorWkHost
import Derived.Test.YtbdgmondalkhlaaDoorShelf
namespace Go.Proofs.YtbdgmondalkhlaaDoor.Aw
open Go
set_option maxRecDepth 100000
theorem Glob.cell {P : Program} {M : Nat → Prop} {w : World} (h : Glob P M w) : ∃ m, w.cell? ⟨gn, 0, none⟩ = some (.int .i64 m) := (h gn rfl).2
theorem args_sc {M : Nat → Prop} {w : World} {gs : List Nat} {vs : List Value} {ys : Array Value} (hy : ys.size = (vs.map fun v => AR.pv (sc v)).length)
    (ha : ∀ (j : Nat) (x : AR) (y : Value), (vs.map fun v => AR.pv (sc v))[j]? = some x → ys[j]? = some y → AR.rep M w gs x y) : ys = vs.toArray := by
  apply Array.ext
  · simpa using hy
  · intro i h1 h2
    have h3 : i < vs.length := by simpa using h2
    have := ha i (.pv (sc vs[i])) ys[i] (by simp [h3]) (by simp [h1])
    have h4 := this.2
    simp only [sc, AVs, AV.rep, AL.rep] at h4
    rw [PL.at] at h4
    simpa using h4.1
theorem St.drewN (M : Nat → Prop) (w : World) (n : Nat) : St M w (w.drewN n) := ⟨rfl, rfl, rfl, Nat.le_refl _, fun _ _ _ => rfl⟩
/-- A contract over plain values, of a function that leaves the world as it was. -/
theorem Fn.ofScalar {P : Program} {f : FuncId} (hc : Callable P f) (vs : List Value) {r : AV} {v : Value} (hr : r.pure = true) (hv : ∀ (M : Nat → Prop) (w : World), AVs M (fun _ => .dead) w r v)
    (h : ∀ w, (∃ m, w.cell? ⟨gn, 0, none⟩ = some (.int .i64 m)) → Calls P f vs.toArray w fun e w' => e = .returned v ∧ ∃ n, w' = w.drewN n) : Fn P f (vs.map fun v => .pv (sc v)) [] (fun x _ => x = r) := by
  refine ⟨hc, fun M w ys gs _ _ _ _ hG _ hy ha => ?_⟩
  obtain rfl := args_sc hy ha
  refine (h w hG.cell).mono ?_
  rintro e w' ⟨rfl, n, rfl⟩
  exact ⟨r, [], v, rfl, rfl, hr, hv _ _, rfl, by simp, St.drewN _ _ _⟩
theorem same_drew {α : Type} {w w' : World} {e v : α} (h : e = v ∧ w' = w) : e = v ∧ ∃ n, w' = w.drewN n := ⟨h.1, 0, by rw [h.2]; rfl⟩
theorem av_sc {v : Value} (hl : leaf v = true) (M : Nat → Prop) (w : World) : AVs M (fun _ => .dead) w (sc v) v := by
  simp only [sc, AVs, AV.rep, AL.rep]
  rw [PL.at]
  exact ⟨rfl, hl⟩
theorem cb191 : Callable Tryd.prog 68 := ⟨Tryd.f68, Tryd.func68, by kernel_rfl, by kernel_rfl⟩
theorem cb196 : Callable Tryd.prog 78 := ⟨Tryd.f78, Tryd.func78, by kernel_rfl, by kernel_rfl⟩
theorem cb199 : Callable Tryd.prog 81 := ⟨Tryd.f81, Tryd.func81, by kernel_rfl, by kernel_rfl⟩
theorem cb200 : Callable Tryd.prog 82 := ⟨Tryd.f82, Tryd.func82, by kernel_rfl, by kernel_rfl⟩
/-- strings.IndexByte -/
theorem F199 (s : ByteArray) (c : Int) : Fn Tryd.prog 81 [.pv (sc (.string s)), .pv (sc (.int .u8 c))] [] (fun r _ => r = sc (.int .i64 (Lib.indexByte s.data.toList c.toNat.toUInt8))) :=
  Fn.ofScalar cb199 [.string s, .int .u8 c] rfl (fun _ _ => av_sc rfl _ _) fun w _ => (Tryd.strings_IndexByte s c w).mono fun _ _ h => same_drew h
/-- strings.Contains -/
theorem F196 (s t : ByteArray) (hs : s.size ≤ 1073741824) : Fn Tryd.prog 78 [.pv (sc (.string s)), .pv (sc (.string t))] [] (fun r _ => r = sc (.bool (Lib.contains s.data.toList t.data.toList))) :=
  Fn.ofScalar cb196 [.string s, .string t] rfl (fun _ _ => av_sc rfl _ _) fun w ⟨m, hm⟩ => (Tryd.strings_Contains s t m w (by omega) hm).mono fun _ _ h => same_drew h
/-- strings.Cut -/
def cutS (s t : ByteArray) : AV := .tup [.one (.p (.v (.string ⟨(Lib.cut s.data.toList t.data.toList).1.toArray⟩))), .one (.p (.v (.string ⟨(Lib.cut s.data.toList t.data.toList).2.1.toArray⟩))), .one (.p (.v (.bool (Lib.cut s.data.toList t.data.toList).2.2)))]
theorem F191 (s t : ByteArray) (hs : s.size ≤ 1073741824) : Fn Tryd.prog 68 [.pv (sc (.string s)), .pv (sc (.string t))] [] (fun r _ => r = cutS s t) :=
  Fn.ofScalar cb191 [.string s, .string t] rfl (fun M w => by
    refine ⟨[_, _, _], rfl, rfl, fun j x u hx hu => ?_⟩
    match j, hx, hu with
    | 0, hx, hu => injection hx with hx; injection hu with hu; subst hx hu; simp only [TV.rep, AL.rep]; rw [PL.at]; exact ⟨rfl, rfl⟩
    | 1, hx, hu => injection hx with hx; injection hu with hu; subst hx hu; simp only [TV.rep, AL.rep]; rw [PL.at]; exact ⟨rfl, rfl⟩
    | 2, hx, hu => injection hx with hx; injection hu with hu; subst hx hu; simp only [TV.rep, AL.rep]; rw [PL.at]; exact ⟨rfl, rfl⟩
    | j + 3, hx, hu => cases hx) fun w ⟨m, hm⟩ => (Tryd.strings_Cut s t m w (by omega) hm).mono fun _ _ h => h
/-- The parts of a list between the bytes c. -/
def sp (c : UInt8) : List UInt8 → List (List UInt8)
  | [] => [[]]
  | x :: l => if x == c then [] :: sp c l else match sp c l with
    | h :: t => (x :: h) :: t
    | [] => [[x]]
theorem sp_ne (c : UInt8) (l : List UInt8) : ∃ h t, sp c l = h :: t := by
  cases l with
  | nil => exact ⟨_, _, rfl⟩
  | cons x l =>
    rw [sp]
    split
    · exact ⟨_, _, rfl⟩
    · split <;> exact ⟨_, _, rfl⟩
theorem idx_cons (c x : UInt8) (l : List UInt8) : Lib.index (x :: l) [c] = if x == c then 0 else if Lib.index l [c] == -1 then -1 else Lib.index l [c] + 1 := by
  rw [Lib.index]
  have : [c].isPrefixOf (x :: l) = (x == c) := by
    show (c == x && true) = (x == c)
    by_cases h : c = x
    · simp [h]
    · have h' : x ≠ c := fun e => h e.symm
      rw [beq_eq_false_iff_ne.2 h, beq_eq_false_iff_ne.2 h']
      rfl
  rw [this]
theorem sp_miss (c : UInt8) : ∀ l : List UInt8, Lib.index l [c] = -1 → sp c l = [l]
  | [], _ => rfl
  | x :: l, h => by
    rw [idx_cons] at h
    have hg := Lib.index_ge l [c]
    by_cases hx : (x == c) = true
    · rw [if_pos hx] at h; omega
    · rw [if_neg hx] at h
      by_cases hm : (Lib.index l [c] == -1) = true
      · rw [sp, if_neg hx, sp_miss c l (by simpa using hm)]
      · rw [if_neg hm] at h
        have : Lib.index l [c] ≠ -1 := by simpa using hm
        omega
theorem sp_hit (c : UInt8) : ∀ (l : List UInt8) (i : Nat), Lib.index l [c] = i → sp c l = l.take i :: sp c (l.drop (i + 1))
  | [], i, h => by
    have : Lib.index [] [c] = -1 := rfl
    omega
  | x :: l, i, h => by
    rw [idx_cons] at h
    have hg := Lib.index_ge l [c]
    by_cases hx : (x == c) = true
    · rw [if_pos hx] at h
      have : i = 0 := by omega
      subst this
      rw [sp, if_pos hx]
      rfl
    · rw [if_neg hx] at h
      by_cases hm : (Lib.index l [c] == -1) = true
      · rw [if_pos hm] at h; omega
      · rw [if_neg hm] at h
        have hne : Lib.index l [c] ≠ -1 := by simpa using hm
        obtain ⟨j, rfl⟩ : ∃ j, i = j + 1 := ⟨i - 1, by omega⟩
        have ih := sp_hit c l j (by omega)
        rw [sp, if_neg hx, ih]
        rfl
theorem lib_split (c : UInt8) : ∀ (n : Nat) (s : ByteArray), s.size ≤ n → (Lib.splitB ⟨#[c]⟩ 0 (Lib.countB s ⟨#[c]⟩) s).map (fun x => x.data.toList) = sp c s.data.toList := by
  intro n
  induction n with
  | zero =>
    intro s hs
    have h0 : s.data.toList = [] := by
      have : s.data.size = 0 := by have : s.data.size = s.size := rfl; omega
      exact List.eq_nil_of_length_eq_zero (by simpa using this)
    have hm : Lib.indexB s ⟨#[c]⟩ = -1 := by show Lib.index s.data.toList [c] = -1; rw [h0]; rfl
    rw [Lib.splitB_miss _ _ _ _ hm, sp_miss c _ (by exact hm)]
    rfl
  | succ n ih =>
    intro s hs
    rcases Int.lt_or_le (Lib.indexB s ⟨#[c]⟩) 0 with h | h
    · have hm : Lib.indexB s ⟨#[c]⟩ = -1 := by have : -1 ≤ Lib.indexB s ⟨#[c]⟩ := Lib.index_ge _ _; omega
      rw [Lib.splitB_miss _ _ _ _ hm, sp_miss c _ (by exact hm)]
      rfl
    · obtain ⟨i, hi⟩ : ∃ i : Nat, Lib.indexB s ⟨#[c]⟩ = i := ⟨(Lib.indexB s ⟨#[c]⟩).toNat, by omega⟩
      have hroom := Lib.index_room s.data.toList [c] (by show 0 ≤ Lib.indexB s ⟨#[c]⟩; exact h)
      have hroom' : i + 1 ≤ s.size := by
        have e1 : Lib.index s.data.toList [c] = i := hi
        have e2 : s.data.toList.length = s.size := Array.length_toList
        rw [e1] at hroom
        simp only [List.length_cons, List.length_nil] at hroom
        omega
      rw [sp_hit c s.data.toList i hi, Lib.countB_hit s ⟨#[c]⟩ i (Nat.le_refl 1) hi, Nat.add_comm 1, Lib.splitB_hit _ _ _ _ _ hi, List.map_cons, ih _ (by
        rw [ByteArray.size_extract]
        have : (⟨#[c]⟩ : ByteArray).size = 1 := rfl
        omega)]
      congr 1
      · rw [Lib.extract_from_zero]; rfl
      · congr 1
        have : (⟨#[c]⟩ : ByteArray).size = 1 := rfl
        rw [this]
        simp [ByteArray.data_extract]
        exact List.take_of_length_le (by simp)
def pre (p : List UInt8) : List (List UInt8) → List (List UInt8)
  | [] => [p]
  | h :: t => (p ++ h) :: t
theorem pre_nil (c : UInt8) (l : List UInt8) : pre [] (sp c l) = sp c l := by
  obtain ⟨h, t, e⟩ := sp_ne c l
  rw [e]
  rfl
theorem ext_data (s : ByteArray) (a i : Nat) : (s.extract a i).data.toList = (s.data.toList.take i).drop a := by
  rw [ByteArray.data_extract]
  simp [Array.toList_extract, List.extract_eq_take_drop, List.drop_take]
theorem bt_data {s : ByteArray} {i : Nat} (h : i < s.data.toList.length) : bt s i = (s.data.toList[i].toNat : Int) := by
  have : bS s.data.toList = s := by rfl
  rw [← bt_at h, this]
theorem splitSt_sp (s : ByteArray) (c : UInt8) : ∀ (n i : Nat), i + n = s.size → (splitSt s c.toNat i).2 ≤ i →
    ((splitSt s c.toNat (s.size + 1)).1.map fun x => x.data.toList) = ((splitSt s c.toNat i).1.map fun x => x.data.toList) ++ pre ((s.data.toList.take i).drop (splitSt s c.toNat i).2) (sp c (s.data.toList.drop i)) := by
  have hlen : s.data.toList.length = s.size := Array.length_toList
  intro n
  induction n with
  | zero =>
    intro i hi ha
    obtain rfl : i = s.size := by omega
    have hd : s.data.toList.drop s.size = [] := List.drop_of_length_le (by omega)
    rw [splitSt, if_pos (by simp), List.map_append, List.map_cons, List.map_nil, ext_data, hd]
    simp [sp, pre]
  | succ n ih =>
    intro i hi ha
    have hlt : i < s.data.toList.length := by omega
    rw [List.drop_eq_getElem_cons hlt]
    by_cases hc : (s.data.toList[i] == c) = true
    · have e : splitSt s c.toNat (i + 1) = ((splitSt s c.toNat i).1 ++ [s.extract (splitSt s c.toNat i).2 i], i + 1) := by
        rw [splitSt, if_pos]
        rw [bt_data hlt, beq_iff_eq.1 hc]
        simp
      have hd : (s.data.toList.take (i + 1)).drop (i + 1) = [] := List.drop_of_length_le (by rw [List.length_take]; omega)
      rw [ih (i + 1) (by omega) (by rw [e]; exact Nat.le_refl _), e, sp, if_pos hc, hd, pre_nil]
      rw [List.map_append, List.map_cons, List.map_nil, ext_data]
      simp only [pre, List.append_nil, List.append_assoc, List.cons_append, List.nil_append]
    · have e : splitSt s c.toNat (i + 1) = splitSt s c.toNat i := by
        rw [splitSt, if_neg]
        rw [bt_data hlt]
        have h1 : ¬ i = s.size := by omega
        have h2 : ¬ s.data.toList[i].toNat = c.toNat := fun h => hc (beq_iff_eq.2 (UInt8.toNat_inj.1 h))
        have h3 : ((s.data.toList[i].toNat : Int) == (c.toNat : Int)) = false := beq_eq_false_iff_ne.2 (fun e => h2 (by omega))
        simp only [h3, Bool.or_false, beq_iff_eq]
        exact h1
      obtain ⟨h, t, e2⟩ := sp_ne c (s.data.toList.drop (i + 1))
      rw [ih (i + 1) (by omega) (by rw [e]; omega), e, sp, if_neg hc, e2]
      simp only [pre]
      rw [List.take_succ_eq_append_getElem hlt, List.drop_append_of_le_length (by rw [List.length_take]; omega)]
      simp
theorem splitS_sp (s : ByteArray) (c : UInt8) : ((splitS s c.toNat).map fun x => x.data.toList) = sp c s.data.toList := by
  have := splitSt_sp s c s.size 0 (by omega) (Nat.le_refl _)
  rw [splitS, this]
  simp only [splitSt, List.map_nil, List.nil_append, List.take_zero, List.drop_zero]
  exact pre_nil _ _
theorem data_inj {a b : ByteArray} (h : a.data.toList = b.data.toList) : a = b := by
  cases a; cases b
  simp at h
  rw [h]
theorem map_data_inj : ∀ {a b : List ByteArray}, (a.map fun x => x.data.toList) = (b.map fun x => x.data.toList) → a = b
  | [], [], _ => rfl
  | [], _ :: _, h => by simp at h
  | _ :: _, [], h => by simp at h
  | x :: a, y :: b, h => by
    simp only [List.map_cons, List.cons.injEq] at h
    rw [data_inj h.1, map_data_inj h.2]
/-- The library's parts are ours. -/
theorem split_lib (s : ByteArray) (c : UInt8) : Lib.splitB ⟨#[c]⟩ 0 (Lib.countB s ⟨#[c]⟩) s = splitS s c.toNat :=
  map_data_inj ((lib_split c s.size s (Nat.le_refl _)).trans (splitS_sp s c).symm)
theorem splitK_len (c : UInt8) : ∀ (n : Nat) (s : ByteArray), s.size ≤ n → (Lib.splitB ⟨#[c]⟩ 0 (Lib.countB s ⟨#[c]⟩) s).length = Lib.countB s ⟨#[c]⟩ + 1 := by
  intro n
  induction n with
  | zero =>
    intro s hs
    rcases Int.lt_or_le (Lib.indexB s ⟨#[c]⟩) 0 with h | h
    · have hm : Lib.indexB s ⟨#[c]⟩ = -1 := by have : -1 ≤ Lib.indexB s ⟨#[c]⟩ := Lib.index_ge _ _; omega
      rw [Lib.splitB_miss _ _ _ _ hm, Lib.countB_miss _ _ hm]
      rfl
    · have hroom := Lib.index_room s.data.toList [c] (by show 0 ≤ Lib.indexB s ⟨#[c]⟩; exact h)
      have e1 : 0 ≤ Lib.index s.data.toList [c] := h
      have e2 : s.data.toList.length = s.size := Array.length_toList
      simp only [List.length_cons, List.length_nil] at hroom
      omega
  | succ n ih =>
    intro s hs
    rcases Int.lt_or_le (Lib.indexB s ⟨#[c]⟩) 0 with h | h
    · have hm : Lib.indexB s ⟨#[c]⟩ = -1 := by have : -1 ≤ Lib.indexB s ⟨#[c]⟩ := Lib.index_ge _ _; omega
      rw [Lib.splitB_miss _ _ _ _ hm, Lib.countB_miss _ _ hm]
      rfl
    · obtain ⟨i, hi⟩ : ∃ i : Nat, Lib.indexB s ⟨#[c]⟩ = i := ⟨(Lib.indexB s ⟨#[c]⟩).toNat, by omega⟩
      rw [Lib.countB_hit s ⟨#[c]⟩ i (Nat.le_refl 1) hi, Nat.add_comm 1, Lib.splitB_hit _ _ _ _ _ hi, List.length_cons, ih _ (by
        rw [ByteArray.size_extract]
        have : (⟨#[c]⟩ : ByteArray).size = 1 := rfl
        omega)]
theorem alloc_cell {w : World} {L : List ByteArray} {t : TypeId} {i : Nat} {x : ByteArray} (h : L[i]? = some x) : (w.alloc (.cells (L.map Value.string).toArray t)).cell? ((⟨w.heap.size, 0, none⟩ : Addr).add i) = some (.string x) := by
  have e : ((⟨w.heap.size, 0, none⟩ : Addr).add i) = ⟨w.heap.size, i, none⟩ := by
    unfold Addr.add
    split
    · rename_i h0; rw [h0]
    · simp
  rw [e]
  unfold World.cell?
  rw [show (w.alloc (.cells (L.map Value.string).toArray t)).heap[w.heap.size]? = some (.cells (L.map Value.string).toArray t) from Array.getElem?_push_size]
  show (L.map Value.string).toArray[i]? = _
  rw [List.getElem?_toArray, List.getElem?_map, h]
  rfl
/-- strings.Split at a part of one byte. -/
theorem F200 (s : ByteArray) (c : UInt8) (hs : s.size ≤ 1073741824) : Fn Tryd.prog 82 [.pv (sc (.string s)), .pv (sc (.string ⟨#[c]⟩))] [] (fun r _ => r = .one (.p (.sl ((splitS s c.toNat).map eStr)))) := by
  refine ⟨cb200, fun M w ys gs _ _ _ hM hG _ hy ha => ?_⟩
  obtain rfl := args_sc (vs := [.string s, .string ⟨#[c]⟩]) hy ha
  obtain ⟨m, hm⟩ := hG.cell
  refine (Tryd.strings_Split s ⟨#[c]⟩ m w (by omega) hm (Nat.le_refl 1)).mono ?_
  rintro e w' ⟨rfl, rfl⟩
  have hl := splitK_len c s.size s (Nat.le_refl _)
  rw [← split_lib s c]
  have hc := Lib.count_le s.data.toList [c]
  have e2 : s.data.toList.length = s.size := Array.length_toList
  have hc' : Lib.countB s ⟨#[c]⟩ ≤ s.size + 1 := by rw [← e2]; exact hc
  generalize hL : Lib.splitB ⟨#[c]⟩ 0 (Lib.countB s ⟨#[c]⟩) s = L at hl ⊢
  refine ⟨_, [], _, rfl, rfl, rfl, ?_, rfl, fun j x ps g hx => (by cases hx), St.push _ _ _⟩
  show PL.at _ _ _ _
  rw [PL.at]
  refine ⟨some ⟨w.heap.size, 0, none⟩, Lib.countB s ⟨#[c]⟩ + 1, 1, by rw [List.length_map, hl], ⟨by rw [List.length_map, hl]; exact Nat.le_refl _, by unfold maxLen; omega⟩, PL.rows_mk fun i q hq => ?_⟩
  rw [List.getElem?_map] at hq
  cases hli : L[i]? with
  | none => rw [hli] at hq; cases hq
  | some x =>
    rw [hli] at hq
    injection hq with hq
    subst hq
    refine ⟨rfl, _, [.string x], rfl, ⟨?_, fun hk => Nat.lt_irrefl _ (hM _ hk)⟩, ?_, fun j u hu => ?_⟩
    · show _ < (w.heap.push _).size
      rw [Array.size_push]
      exact Nat.lt_succ_self _
    · rw [eStr, PL.ats, PL.ats, PL.at]
      exact ⟨⟨rfl, rfl⟩, trivial⟩
    · match j, hu with
      | 0, hu =>
        injection hu with hu
        subst hu
        rw [Nat.zero_add, Nat.mul_one, Nat.add_zero]
        exact alloc_cell hli
      | j + 1, hu => cases hu
end Go.Proofs.YtbdgmondalkhlaaDoor.Aw
