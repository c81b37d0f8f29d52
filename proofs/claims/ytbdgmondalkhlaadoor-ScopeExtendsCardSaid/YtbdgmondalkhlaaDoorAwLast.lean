
/- Regions that draw their order and end in one operation that waits for all others: what it writes may be read before.
   Conditions: none; generic in the program. -/
import Derived.Test.YtbdgmondalkhlaaDoorAwMix
namespace Go.Proofs.YtbdgmondalkhlaaDoor.Aw
open Go

section
variable {P : Program} {ops : Array Oper} {Q : Exit → Act → World → Prop} {md : Region.Mode} {S : World → Prop} {z : Nat}
def wpAnyZ (P : Program) (md : Region.Mode) (ops : Array Oper) (z : Nat) (Q : Exit → Act → World → Prop) (S : World → Prop) : Nat → Array Bool → Act → World → Prop
  | 0, listed, a, w => Region.ready md ops listed = [] ∧ Q .normal a w
  | fuel + 1, listed, a, w =>
    (Region.ready md ops listed = [] → Q .normal a w) ∧
    ∀ i ∈ Region.ready md ops listed, wpOp P ops Q i (fun a' w' => ((listed.setIfInBounds i true).getD z true = false → S w') ∧ wpAnyZ P md ops z Q S fuel (listed.setIfInBounds i true) a' w') a w
theorem wpAny_of_Z : ∀ (fuel : Nat) (listed : Array Bool) (a : Act) (w : World), wpAnyZ P md ops z Q S fuel listed a w → wpAny P md ops Q fuel listed a w
  | 0, _, _, _, h => h
  | fuel + 1, _, _, _, h => ⟨h.1, fun i hi => wpOp_mono (fun a' w' h' => wpAny_of_Z fuel _ a' w' h'.2) (h.2 i hi)⟩
theorem wpAnyZ_weak {S' : World → Prop} (hS : ∀ w, S' w → S w) : ∀ (fuel : Nat) (listed : Array Bool) (a : Act) (w : World), wpAnyZ P md ops z Q S' fuel listed a w → wpAnyZ P md ops z Q S fuel listed a w
  | 0, _, _, _, h => h
  | fuel + 1, _, _, _, h => ⟨h.1, fun i hi => wpOp_mono (fun _ _ k => ⟨fun e => hS _ (k.1 e), wpAnyZ_weak hS fuel _ _ _ k.2⟩) (h.2 i hi)⟩
theorem wpAnyZ_free {S' : World → Prop} : ∀ (fuel : Nat) (listed : Array Bool) (a : Act) (w : World), listed.getD z true = true → wpAnyZ P md ops z Q S' fuel listed a w → wpAnyZ P md ops z Q S fuel listed a w
  | 0, _, _, _, _, h => h
  | fuel + 1, listed, _, _, hz, h => ⟨h.1, fun i hi => wpOp_mono (fun _ _ k => by
      have hz' : (listed.setIfInBounds i true).getD z true = true := by
        by_cases e : i = z
        · subst e
          simp [Array.getD]
        · rw [getD_set_ne true e]; exact hz
      exact ⟨fun e => (by rw [hz'] at e; cases e), wpAnyZ_free fuel _ _ _ hz' k.2⟩) (h.2 i hi)⟩

def waitsOn (md : Region.Mode) (o : Oper) (i : Nat) : Bool := o.after.any fun e => Region.binds md e && e.on == i
theorem waitsOn_not {o : Oper} {i : Nat} (h : ∀ e ∈ o.after, Region.binds md e = true → e.on ≠ i) : waitsOn md o i = false := by
  unfold waitsOn
  rw [Bool.eq_false_iff]
  intro hc
  obtain ⟨j, hj, he⟩ := Array.any_eq_true.1 hc
  simp only [Bool.and_eq_true, beq_iff_eq] at he
  exact h _ (Array.getElem_mem hj) he.1 he.2

theorem wpAnyZ_first {i : Nat} {oi oz : Oper} {v : Value} (hi : ops[i]? = some oi) (hz : ops[z]? = some oz) (hzi : waitsOn md oz i = true) (hsel : ∀ (j : Nat) (o : Oper) cs b, ops[j]? = some o → o.op ≠ .select cs b)
    (hQ : ∀ c a w, Q (.panic c) (a.put oi.dst v) w → Q (.panic c) a w) (hne : i ≠ z) :
    ∀ (fuel : Nat) (listed : Array Bool) (a : Act) (w : World),
      (∀ j oj, ops[j]? = some oj → j ≠ i → listed.getD j true = false → (∀ e ∈ oj.after, Region.binds md e = true → e.on ≠ i) → oi.apart ops oj = true) →
      listed.getD z true = false → i ∈ Region.ready md ops listed → YieldsIf P ops S oi v a → S w →
      wpAnyZ P md ops z Q S fuel (listed.setIfInBounds i true) (a.put oi.dst v) w → wpAnyZ P md ops z Q S (fuel + 1) listed a w := by
  intro fuel
  induction fuel with
  | zero =>
    intro listed a w _ hlz hr hy hS H
    refine ⟨fun h => (by rw [h] at hr; cases hr), fun j hj => ?_⟩
    by_cases hji : j = i
    · subst hji; exact hy.wpOp hi hS ⟨fun _ => hS, H⟩
    · have := ready_mono hj hji
      rw [H.1] at this
      cases this
  | succ fuel ih =>
    intro listed a w hfree hlz hr hy hS H
    refine ⟨fun h => (by rw [h] at hr; cases hr), fun j hj => ?_⟩
    by_cases hji : j = i
    · subst hji; exact hy.wpOp hi hS ⟨fun _ => hS, H⟩
    · have h1 := H.2 j (ready_mono hj hji)
      obtain ⟨hjun, oj, hoj, hall⟩ := mem_ready.1 hj
      have hnot : ∀ e ∈ oj.after, Region.binds md e = true → e.on ≠ i := fun e he hb heq => by
        have h1 := hall e he hb
        have h0 := (mem_ready.1 hr).1
        rw [heq] at h1
        rcases Nat.lt_or_ge i listed.size with h' | h'
        · simp [h'] at h0 h1; rw [h0] at h1; cases h1
        · simp [Array.getElem?_eq_none h'] at h1
      have hjz : j ≠ z := fun e => by
        subst e
        rw [hz] at hoj
        injection hoj with hoj
        subst hoj
        rw [waitsOn_not hnot] at hzi
        cases hzi
      have h2 := wpOp_putIf hoj (hfree j oj hoj hji hjun hnot) (fun cs b => hsel i oi cs b hi) (fun cs b => hsel j oj cs b hoj) hQ hy h1
      have hfree' : ∀ k ok, ops[k]? = some ok → k ≠ i → (listed.setIfInBounds j true).getD k true = false →
          (∀ e ∈ ok.after, Region.binds md e = true → e.on ≠ i) → oi.apart ops ok = true := fun k ok hk hki hun hno => by
        refine hfree k ok hk hki ?_ hno
        by_cases hjk : j = k
        · subst hjk; exact hjun
        · rw [getD_set_ne true hjk] at hun; exact hun
      have hlz' : (listed.setIfInBounds j true).getD z true = false := by rw [getD_set_ne true hjz]; exact hlz
      have hlz2 : ((listed.setIfInBounds i true).setIfInBounds j true).getD z true = false := by rw [getD_set_ne true hjz, getD_set_ne true hne]; exact hlz
      refine wpOp_mono (fun a' w' h3 => ⟨fun _ => h3.2.1 hlz2, ih (listed.setIfInBounds j true) a' w' hfree' hlz' (ready_mono hr (Ne.symm hji)) h3.1 (h3.2.1 hlz2) ?_⟩) h2
      rw [Array.setIfInBounds_comm _ _ hji]
      exact h3.2.2
end

variable {P : Program} {C : Ctx P} {T : TT} {σ τ : AS} {a : Act} {w w1 : World} {β β1 : Map} {ops : Array Oper} {i : Nat} {l : List Nat} {K : AS → Prop} {F : Nat → Prop} {z : Nat} {N : List Nat} {fuel : Nat} {listed : Array Bool}
def AwZ (P : Program) (C : Ctx P) (ops : Array Oper) (z : Nat) (N : List Nat) (fuel : Nat) (listed : Array Bool) (σ : AS) (K : AS → Prop) : Prop :=
  ∀ a w β, Rel C σ a w β → wpAnyZ P .any ops z (QK C K) (fun w' => St (tch σ.h β N) w w') fuel listed a w
theorem Aw.regionZ (z : Nat) (N : List Nat) {id : Nat} {Q : Exit → AS → Prop} (hm : P.follows .mixedOrders = true) (h : AwZ P C ops z N ops.size (Array.replicate ops.size false) σ (fun σ' => Q .normal σ')) : Aw P C (.region id ops true) σ Q := by
  intro a w ⟨β, r⟩
  refine wp_mono (wp_region_any hm (wpAny_of_Z _ _ _ _ (h a _ β (r.grow (St.drew _ w (w.drawn + 1)))))) ?_
  rintro e a' w' ⟨rfl, σ', k, r'⟩
  exact ⟨σ', k, r'⟩
theorem AwZ.done (hr : (Region.ready .any ops listed).isEmpty = true) (h : K σ) : AwZ P C ops z N fuel listed σ K := fun a w β r => by
  have hr : Region.ready .any ops listed = [] := by simpa using hr
  cases fuel with
  | zero => exact ⟨hr, rfl, σ, h, β, r⟩
  | succ n => exact ⟨fun _ => ⟨rfl, σ, h, β, r⟩, by rw [hr]; simp⟩
def zOk (ops : Array Oper) (z : Nat) (listed : Array Bool) (i : Nat) : Bool := (match ops[z]? with
  | some o => waitsOn .any o i
  | none => false) && !(listed.getD z true) && (i != z)
theorem AwZ.tk {d : Nat} {A : AV} {n : Nat} {s : List (Nat × AV)} {h : List (Nat × HB)} (hy : Yd P C ops N i ⟨n, s, h⟩ d A) (hs : (Region.noSelect ops && Region.free .any ops listed i && (Region.ready .any ops listed).contains i && zOk ops z listed i) = true)
    (k : AwZ P C ops z N fuel (listed.setIfInBounds i true) ⟨n, (d, A) :: s, h⟩ K) : AwZ P C ops z N (fuel + 1) listed ⟨n, s, h⟩ K := by
  intro a w β r
  simp only [Bool.and_eq_true, zOk] at hs
  obtain ⟨⟨⟨hs1, hs2⟩, hs3⟩, ⟨hs4, hs5⟩, hs6⟩ := hs
  obtain ⟨o, ho, hd, hn, hy⟩ := hy
  obtain ⟨y, hy, hv⟩ := hy a w β r
  cases hz : ops[z]? with
  | none => rw [hz] at hs4; cases hs4
  | some oz =>
    rw [hz] at hs4
    refine wpAnyZ_first ho hz hs4 (Region.noSelect_spec hs1) (fun _ _ _ h => absurd h.1 (by simp)) (by simpa using hs6) fuel listed a w (Region.free_spec ho hs2) (by simpa using hs5) (by simpa using hs3) hy (St.refl _ _) ?_
    rw [hd]
    exact k _ w β (r.put hn hv)
theorem AwZ.all {rs : List Nat} (hr : Region.ready .any ops listed = rs) (hne : rs ≠ []) (h : ∀ i ∈ rs, Ed P C ops N i σ (fun σ' => AwZ P C ops z N fuel (listed.setIfInBounds i true) σ' K)) : AwZ P C ops z N (fuel + 1) listed σ K := by
  intro a w β r
  refine ⟨fun h0 => absurd (hr ▸ h0) hne, hr ▸ fun i hi => wpOp_mono ?_ (h i hi a w β r _)⟩
  rintro a' w' ⟨σ', β', k, r', m⟩
  exact ⟨fun _ => m.st, wpAnyZ_weak (fun w2 h2 => m.step h2) _ _ _ _ (k a' w' β' r')⟩
theorem AwZ.one (hr : (Region.ready .any ops listed == [i]) = true) (h : Ed P C ops N i σ (fun σ' => AwZ P C ops z N fuel (listed.setIfInBounds i true) σ' K)) : AwZ P C ops z N (fuel + 1) listed σ K :=
  AwZ.all (by simpa using hr) (by simp) fun j hj => by
    rw [List.mem_singleton] at hj
    subst hj
    exact h
theorem AwZ.two {j : Nat} (hr : (Region.ready .any ops listed == [i, j]) = true) (h : Ed P C ops N i σ (fun σ' => AwZ P C ops z N fuel (listed.setIfInBounds i true) σ' K))
    (h' : Ed P C ops N j σ (fun σ' => AwZ P C ops z N fuel (listed.setIfInBounds j true) σ' K)) : AwZ P C ops z N (fuel + 1) listed σ K :=
  AwZ.all (by simpa using hr) (by simp) fun k hk => by
    simp only [List.mem_cons, List.not_mem_nil, or_false] at hk
    rcases hk with rfl | rfl
    · exact h
    · exact h'
/-- The last one. -/
theorem AwZ.last {N' : List Nat} (hr : (Region.ready .any ops listed == [z] && Nat.blt z listed.size) = true) (h : Ed P C ops N' z σ K) (hl : (Region.ready .any ops (listed.setIfInBounds z true)).isEmpty = true) : AwZ P C ops z N (fuel + 1) listed σ K := by
  simp only [Bool.and_eq_true, beq_iff_eq] at hr
  intro a w β r
  refine ⟨fun h0 => by rw [hr.1] at h0; simp at h0, hr.1 ▸ fun i hi => ?_⟩
  rw [List.mem_singleton] at hi
  subst hi
  have hzl : i < listed.size := by simpa using hr.2
  refine wpOp_mono ?_ (h a w β r _)
  rintro a' w' ⟨σ', β', k, r', m⟩
  refine ⟨fun e => ?_, AwZ.done (N := N) hl k a' w' β' r' |> wpAnyZ_free _ _ _ _ (by simp [Array.getD, hzl])⟩
  simp [Array.getD, hzl] at e
theorem AwZ.split {t : Nat} {b : Bool} {n : Nat} {s : List (Nat × AV)} {h : List (Nat × HB)} (hs : s.lookup t = some (sc (.bool b))) (ht : b = true → AwZ P C ops z N fuel listed ⟨n, (t, sc (.bool true)) :: s, h⟩ K)
    (hf : b = false → AwZ P C ops z N fuel listed ⟨n, (t, sc (.bool false)) :: s, h⟩ K) : AwZ P C ops z N fuel listed ⟨n, s, h⟩ K := by
  intro a w β r
  obtain ⟨y, hy, hv⟩ := r.slots t _ hs
  cases b with
  | true => exact ht rfl a w β (r.same hy hv)
  | false => exact hf rfl a w β (r.same hy hv)
theorem AwZ.turnG (H : ∀ a w β, Rel C σ a w β → ∃ β', Rel C τ a w β' ∧ ∀ k, tch τ.h β' N k → tch σ.h β N k) (k : AwZ P C ops z N fuel listed τ K) : AwZ P C ops z N fuel listed σ K := by
  intro a w β r
  obtain ⟨β', r', ht⟩ := H a w β r
  exact wpAnyZ_weak (fun w' hw' => hw'.mono fun b _ hb => ht b hb) _ _ _ _ (k a w β' r')
section
variable {n : Nat} {x : Int} {c : Int} {s : List (Nat × AV)} {h : List (Nat × HB)}
theorem AwZ.say {t : Nat} {A B : AV} (hs : s.lookup t = some A) (e : A = B) (k : AwZ P C ops z N fuel listed ⟨n, (t, B) :: s, h⟩ K) : AwZ P C ops z N fuel listed ⟨n, s, h⟩ K := by
  intro a w β r
  obtain ⟨y, hy, hv⟩ := r.slots t _ hs
  subst e
  exact k a w β (r.same hy hv)
theorem AwZ.nm (t : Nat) (hs : s.lookup t = some (sc (.int .i64 (IntKind.wrap .i64 x)))) (h1 : -9223372036854775808 ≤ x) (h2 : x ≤ 9223372036854775807) (k : AwZ P C ops z N fuel listed ⟨n, (t, sc (.int .i64 x)) :: s, h⟩ K) : AwZ P C ops z N fuel listed ⟨n, s, h⟩ K :=
  AwZ.say hs (by rw [w64_of h1 h2]) k
theorem AwZ.nmr (t : Nat) (hs : s.lookup t = some (sc (.int .i64 (x.tmod c)))) (h1 : 0 ≤ x) (k : AwZ P C ops z N fuel listed ⟨n, (t, sc (.int .i64 (x % c))) :: s, h⟩ K) : AwZ P C ops z N fuel listed ⟨n, s, h⟩ K :=
  AwZ.say hs (by rw [Int.tmod_eq_emod_of_nonneg h1]) k
theorem AwZ.nmq (t : Nat) (hs : s.lookup t = some (sc (.int .i64 (IntKind.wrap .i64 (x.tdiv c))))) (h1 : 0 ≤ x) (h2 : 0 < c) (h3 : x ≤ 9223372036854775807) (k : AwZ P C ops z N fuel listed ⟨n, (t, sc (.int .i64 (x / c))) :: s, h⟩ K) : AwZ P C ops z N fuel listed ⟨n, s, h⟩ K :=
  AwZ.say hs (by rw [wq h1 h2 h3]) k
theorem AwZ.freeze (t : Nat) {b m ty sz : Nat} {pl : Bool} {es : List (List PL)} (hs : s.lookup t = some (.one (.own b m))) (hb : h.lookup b = some (.row ty sz pl es)) (hm : m = es.length) (hlo : Nat.blt b 1000 = true)
    (k : AwZ P C ops z N fuel listed ⟨n, (t, .one (.p (.sl es))) :: s, (b, .gone) :: h⟩ K) : AwZ P C ops z N fuel listed ⟨n, s, h⟩ K := by
  refine AwZ.turnG (fun a w β r => ?_) k
  replace hlo : b < 1000 := by simpa using hlo
  obtain ⟨y, hy, hv⟩ := r.slots t _ hs
  refine ⟨_, (r.forget (b := b) hlo).same hy (by have := fz_at hlo r hb hv (Nat.le_of_eq hm); rwa [hm, List.take_length] at this), ?_⟩
  rintro k ⟨b', hb', x, c, h1, h2⟩
  by_cases e : b' = b
  · subst e; rw [upd_self] at h2; cases h2
  · rw [lookup_cons_ne _ _ e] at h1
    rw [upd_ne _ _ e] at h2
    exact ⟨b', hb', x, c, h1, h2⟩
theorem AwZ.sayH {b : Nat} {A B : HB} (hs : h.lookup b = some A) (e : A = B) (k : AwZ P C ops z N fuel listed ⟨n, s, (b, B) :: h⟩ K) : AwZ P C ops z N fuel listed ⟨n, s, h⟩ K := by
  subst e
  refine AwZ.turnG (τ := ⟨n, s, (b, A) :: h⟩) (fun a w β r => ⟨β, r.less rfl (fun _ _ h => h) fun k x hk => ?_, ?_⟩) k
  · replace hk : ((b, A) :: h).lookup k = some x := hk
    by_cases ek : k = b
    · subst ek; rw [lookup_cons_self] at hk; exact hs.trans hk
    · rw [lookup_cons_ne _ _ ek] at hk; exact hk
  · rintro k ⟨b', hb', x, c, h1, h2⟩
    replace h1 : ((b, A) :: h).lookup b' = some x := h1
    by_cases ek : b' = b
    · subst ek; exact ⟨b', hb', A, c, hs, h2⟩
    · rw [lookup_cons_ne _ _ ek] at h1; exact ⟨b', hb', x, c, h1, h2⟩
end
/-- Paths meet: what is known of the state where they do. -/
theorem Aw.joinQ {P : Program} {C : Ctx P} {σ : AS} {c : Code} {Q : Exit → AS → Prop} (J : AS → Prop) (h : Aw P C c σ (thn J Q)) (k : ∀ σ', J σ' → Q .normal σ') : Aw P C c σ Q :=
  h.mono fun x σ' q => by cases x <;> first | exact k σ' q | exact q
section
variable {P : Program}
def band (a b : Int) : Int := IntKind.wrap .i64 ((BitVec.ofInt IntKind.i64.bits a &&& BitVec.ofInt IntKind.i64.bits b).toNat : Int)
theorem band_run {t : TypeId} {x y : Operand} {a b : Int} : BinRun P .and t x y (.int .i64 a) (.int .i64 b) (.int .i64 (band a b)) := fun w => by
  rw [Sem.run_bind]
  show ((binOp .and t (.int .i64 a) (.int .i64 b))).run P w = _
  simp [binOp, Op.intBits, band]
end
end Go.Proofs.YtbdgmondalkhlaaDoor.Aw
