
/- The walks of the makers of data: decks, names, policies.
   Conditions: none. -/
import Derived.Test.YtbdgmondalkhlaaDoorWkDat2
namespace Go.Proofs.YtbdgmondalkhlaaDoor.Aw
open Go
set_option maxRecDepth 100000
set_option linter.unusedSimpArgs false

-- f10 (*certpath/certpathmade.Deck).Next
theorem F10 (d : Dk) (n : Int) (h1 : 1 ≤ n) (h2 : n ≤ 1000000000) : Fn Tryd.prog 18 [.ptr 0 0, .pv (sc (.int .i64 n))] [(68, eDk d)] (fun r H' => ∃ (v : Int) (d' : Dk), r = sc (.int .i64 v) ∧ H' = [eDk d'] ∧ 0 ≤ v ∧ v < n) := by
  refine Fn.intro (rs := [.tmp 4]) hT Tryd.func18 (by kernel_rfl) rfl rfl rfl rfl fun C => ?_
  refine Aw.seq (Aw.region ?_)
  refine AwOps.v hT rfl ?_
  refine AwOps.nil (Aw.seq (Aw.seq ?_))
  refine Aw.regionS [] [(true, 0), (true, 1), (true, 2), (true, 3), (true, 4), (true, 5), (true, 6), (true, 7), (true, 8), (true, 9)] (by kernel_rfl) (by kernel_rfl) ?_
  iterate 10 refine AwSch.take (Yd.val hT rfl rfl) ?_
  refine AwSch.nil ?_
  refine Aw.tst rfl (fun hb14 => ?_) (fun hb14 => ?_)
  · skip
    refine Aw.seq (Aw.region ?_)
    refine AwOps.v hT rfl ?_
    refine AwOps.nil ?_
    refine Aw.ret ?_
    refine ⟨_, [_], rfl, ⟨rfl, trivial⟩, ?_⟩
    exact ⟨0, d, rfl, rfl, by omega, by omega⟩
  · skip
    have hlt : d.k < d.L.length := by have := of_decide_eq_false hb14; simp only [List.length_map] at this; omega
    refine Aw.bnd 12 rfl fun hB => ?_
    replace hB : d.L.length ≤ 9223372036854775807 := by simpa [maxLen] using hB
    have hw1 : IntKind.wrap .i64 ((d.k : Int) + 1) = ((d.k + 1 : Nat) : Int) := by rw [w64]; omega
    have hw2 : IntKind.wrap .i64 (((d.k + 1 : Nat) : Int) - 1) = (d.k : Int) := by rw [w64]; omega
    refine Aw.skip (Aw.seq (Aw.region ?_))
    iterate 5 refine AwOps.v hT rfl ?_
    first | refine AwOps.nm 19 rfl (by omega) (by omega) ?_ | skip
    refine AwOps.turn (Less.say (t := 19) (B := sc (.int .i64 ((d.k + 1 : Nat) : Int))) rfl rfl) ?_
    refine AwOps.v hT rfl ?_
    refine AwOps.v hT rfl ?_
    refine AwOps.eff hT rfl ?_
    refine AwOps.nil (Aw.seq ?_)
    refine Aw.regionS [] [(true, 0), (true, 1), (true, 2), (true, 3), (true, 4), (true, 5), (true, 6), (true, 7), (true, 8), (true, 9), (true, 10), (true, 11), (true, 12), (true, 13), (true, 14), (true, 15), (true, 16), (true, 17)] (by kernel_rfl) (by kernel_rfl) ?_
    iterate 9 refine AwSch.take (Yd.val hT rfl rfl) ?_
    first | refine AwSch.nm 30 rfl (by omega) (by omega) ?_ | skip
    refine AwSch.say (t := 30) (B := sc (.int .i64 (d.k : Int))) rfl (sci (by omega)) ?_
    refine AwSch.take (Yd.im hT rfl hlt rfl) ?_
    refine AwSch.take (Yd.val hT rfl rfl) ?_
    refine AwSch.take (Yd.val hT rfl rfl) ?_
    refine AwSch.take (Yd.bin rfl _ rfl (rem_run (by omega))) ?_
    refine AwSch.take (Yd.val hT rfl rfl) ?_
    refine AwSch.take (Yd.val hT rfl rfl) ?_
    first | refine AwSch.nm 36 rfl (by omega) (by omega) ?_ | skip
    refine AwSch.take (Yd.val hT rfl rfl) ?_
    refine AwSch.take (Yd.bin rfl _ rfl (rem_run (by omega))) ?_
    refine AwSch.take (Yd.val hT rfl rfl) ?_
    refine AwSch.nil ?_
    refine Aw.ret ?_
    refine ⟨_, [_], rfl, ⟨rfl, trivial⟩, ?_⟩
    have q1 := @tmod_lt d.L[d.k] n (by omega)
    have q2 : 0 ≤ (d.L[d.k]).tmod n + n ∧ (d.L[d.k]).tmod n + n < 2 * n := by omega
    exact ⟨_, ⟨d.L, d.k + 1, hlt⟩, rfl, rfl, by rw [w64_of (by omega) (by omega)]; exact tmod_nn (by omega) (by omega)⟩
-- f8 certpath/certpathmade.New
theorem F8 (L : List Int) : FnO Tryd.prog 9 [.one (.p (.sl (L.map eI)))] (fun o => o = .box 68 (eDk ⟨L, 0, Nat.zero_le _⟩)) := by
  refine FnO.intro Tryd.func9 (by kernel_rfl) rfl rfl rfl rfl fun C => ?_
  refine Aw.seq (Aw.region ?_)
  refine AwOps.v hT rfl ?_
  refine AwOps.nil (Aw.seq (Aw.region ?_))
  refine AwOps.v hT rfl ?_
  refine AwOps.build hT rfl ?_
  refine AwOps.eff hT rfl ?_
  refine AwOps.v hT rfl ?_
  refine AwOps.nil ?_
  refine Aw.ret ?_
  exact ⟨5, by decide, .inr ⟨_, _, rfl, rfl, rfl⟩⟩
theorem sci' {p q : Int} (h : p = q) : sc (.int .i64 p) = sc (.int .i64 q) := by rw [h]
def namedL : List Int := [0, 2, 4, 12, 6, 1, 14, 3]
def policyL : List ByteArray := [⟨#[49, 46, 50, 46, 51, 46, 49]⟩, ⟨#[49, 46, 50, 46, 51, 46, 50]⟩, ⟨#[49, 46, 50, 46, 51, 46, 51]⟩, ⟨#[49, 46, 50, 46, 51, 46, 52]⟩, ⟨#[49, 46, 50, 46, 51, 46, 53]⟩, ⟨#[50, 46, 57, 57, 57, 46, 49]⟩, ⟨#[50, 46, 57, 57, 57, 46, 50]⟩, ⟨#[49, 46, 50, 46, 51]⟩, ⟨#[50, 46, 53, 46, 50, 57, 46, 51, 50, 46, 48]⟩]
theorem tm_lt {k : Int} {n m : Nat} (hk : 0 ≤ k) (hn : (n : Int) = m) (hm : 0 < m) : (k.tmod n).toNat < m := by
  have := @tmod_nn k n (by omega) hk
  omega
-- f33 certpath/certpathmade2.Named
theorem F33 (k : Int) (hk : 0 ≤ k) : Fn Tryd.prog 36 [.pv (sc (.int .i64 k))] [] (fun r _ => ∃ v ∈ namedL, r = sc (.int .i64 v)) := by
  refine Fn.intro (rs := [.tmp 2]) hT Tryd.func36 (by kernel_rfl) rfl rfl rfl rfl fun C => ?_
  refine Aw.seq (Aw.region ?_)
  refine AwOps.v hT rfl ?_
  refine AwOps.nil (Aw.seq (Aw.region ?_))
  refine AwOps.lit hT rfl ?_
  refine AwOps.turn (Tn.fz 3 rfl rfl (by first | rfl | (simp; done)) rfl) ?_
  refine AwOps.turn (Less.say (t := 3) (B := .one (.p (.sl (List.map eI [_, _, _, _, _, _, _, _])))) rfl rfl) ?_
  refine AwOps.v hT rfl ?_
  refine AwOps.v hT rfl ?_
  first | refine AwOps.nmr 5 rfl (by omega) ?_ | skip
  refine AwOps.imI hT rfl (by first | omega | (simp only [w64] at *; omega) | (simp [w64] at *; omega)) (by first | omega | (simp only [List.length_cons, List.length_nil, List.length_map]; omega) | (simp only [List.length_cons, List.length_nil, List.length_map, w64] at *; omega) | (simp [w64] at *; omega)) rfl ?_
  refine AwOps.v hT rfl ?_
  refine AwOps.v hT rfl ?_
  refine AwOps.nil ?_
  refine Aw.ret ?_
  refine ⟨_, [], rfl, trivial, ?_⟩
  exact ⟨_, List.getElem_mem (l := namedL) (by show (k % 8).toNat < 8; omega), rfl⟩
def decS (k : Int) : ByteArray := ofI [IntKind.wrap .u8 (48 + k)]
theorem decS_size (k : Int) : (decS k).size = 1 := ofI_size _
-- f55 certpath/certpathref01.Dec
theorem F55 (k : Int) (hk : 0 ≤ k) (hl : k < 10) : Fn Tryd.prog 34 [.pv (sc (.int .i64 k))] [] (fun r _ => r = sc (.string (decS k))) := by
  refine Fn.intro (rs := [.tmp 2]) hT Tryd.func34 (by kernel_rfl) rfl rfl rfl rfl fun C => ?_
  refine Aw.seq (Aw.region ?_)
  refine AwOps.v hT rfl ?_
  refine AwOps.nil (Aw.seq (Aw.seq (Aw.region ?_)))
  refine AwOps.v hT rfl ?_
  refine AwOps.v hT rfl ?_
  refine AwOps.nil ?_
  refine Aw.tst rfl (fun hb4 => ?_) (fun hb4 => ?_)
  · skip
    refine Aw.seq (Aw.region ?_)
    refine AwOps.v hT rfl ?_
    refine AwOps.v hT rfl ?_
    first | refine AwOps.nm 6 rfl (by omega) (by omega) ?_ | skip
    refine AwOps.v hT rfl ?_
    refine AwOps.lit hT rfl ?_
    refine AwOps.strB (xs := [_]) hT rfl rfl (by simp [wu8]) rfl ?_
    refine AwOps.v hT rfl ?_
    refine AwOps.nil ?_
    refine Aw.ret ?_
    refine ⟨_, [], rfl, trivial, ?_⟩
    exact rfl
  · skip
    simp at hb4; omega

theorem namedL_nn : ∀ v ∈ namedL, 0 ≤ v := by decide
def bsOrg : ByteArray := ⟨#[50, 46, 53, 46, 52, 46, 49, 48]⟩
def bsUnit : ByteArray := ⟨#[50, 46, 53, 46, 52, 46, 49, 49]⟩
def authV (k : Int) : ByteArray := if decide (k % 16 ≥ 8) then (⟨#[32, 99, 97, 32, 32]⟩ : ByteArray) ++ decS (k % 8 / 2) else (⟨#[67, 65, 32]⟩ : ByteArray) ++ decS (k % 8 / 2)
def authS (k : Int) : Name := [[⟨bsOrg, 19, authV k⟩]] ++ if k % 2 == 1 then [[⟨bsUnit, 12, ⟨#[85, 110, 105, 116]⟩⟩]] else []
theorem authV_size (k : Int) : (authV k).size ≤ 6 := by
  unfold authV
  split <;> rw [ByteArray.size_append, decS_size] <;> decide
/-- Names that are not too long. -/
def okNm (n : Name) : Prop := okN n ∧ n.length ≤ 1000 ∧ ∀ r ∈ n, r.length ≤ 1000
def okG (g : Gn) : Prop := okS g.text ∧ okNm g.name
def okGs (l : List Gn) : Prop := l.length ≤ 1000 ∧ ∀ g ∈ l, okG g
def okSub (s : Sub) : Prop := okGs s.p ∧ okGs s.x
def okPt (p : Point) : Prop := okGs p.names ∧ okNm p.issuer
theorem okNm_nil : okNm [] := ⟨fun _ h => (by cases h), by simp, fun _ h => (by cases h)⟩
theorem okNm_auth (k : Int) : okNm (authS k) := by
  have h := authV_size k
  have h4 : (ByteArray.mk #[85, 110, 105, 116]).size = 4 := rfl
  refine ⟨fun r hr a ha => ?_, ?_, fun r hr => ?_⟩
  · unfold authS at hr
    split at hr <;> simp at hr
    · rcases hr with rfl | rfl <;> simp at ha <;> subst ha <;> simp only [okS] <;> omega
    · subst hr; simp at ha; subst ha; simp only [okS]; omega
  · unfold authS; split <;> simp
  · unfold authS at hr
    split at hr <;> simp at hr
    · rcases hr with rfl | rfl <;> simp
    · subst hr; simp
theorem okGs_nil : okGs [] := ⟨by simp, fun _ h => by cases h⟩
-- f25 certpath/certpathmade.Authority
theorem F25 (k : Int) (hk : 0 ≤ k) : Fn Tryd.prog 17 [.pv (sc (.int .i64 k))] [] (fun r _ => r = .agg (eName (authS k))) := by
  refine Fn.intro (rs := [.cell 2 25]) hT Tryd.func17 (by kernel_rfl) rfl rfl rfl rfl fun C => ?_
  refine Aw.seq (Aw.region ?_)
  refine AwOps.eff hT rfl ?_
  refine AwOps.nil (Aw.seq (Aw.region ?_))
  refine AwOps.v hT rfl ?_
  refine AwOps.v hT rfl ?_
  first | refine AwOps.nmr 6 rfl (by omega) ?_ | skip
  refine AwOps.v hT rfl ?_
  first | refine AwOps.nmq 7 rfl (by omega) (by omega) (by omega) ?_ | skip
  refine AwOps.cl (F55 _ (by first | omega | (simp only [w64] at *; omega) | (simp [w64] at *; omega)) (by first | omega | (simp only [w64] at *; omega) | (simp [w64] at *; omega))) [] rfl ⟨⟨rfl, rfl⟩, trivial⟩ trivial rfl ?_   -- certpathref01.Dec
  rintro _ _ rfl
  refine AwOps.bin rfl _ rfl (cat_run (by rw [decS_size]; decide)) ?_
  refine AwOps.v hT rfl ?_
  refine AwOps.nil (Aw.seq (Aw.seq (Aw.region ?_)))
  refine AwOps.v hT rfl ?_
  refine AwOps.v hT rfl ?_
  first | refine AwOps.nmr 11 rfl (by omega) ?_ | skip
  refine AwOps.v hT rfl ?_
  refine AwOps.nil ?_
  refine Aw.tst rfl (fun hb12 => ?_) (fun hb12 => ?_)
  · skip
    refine Aw.region ?_
    refine AwOps.v hT rfl ?_
    refine AwOps.v hT rfl ?_
    first | refine AwOps.nmr 14 rfl (by omega) ?_ | skip
    refine AwOps.v hT rfl ?_
    first | refine AwOps.nmq 15 rfl (by omega) (by omega) (by omega) ?_ | skip
    refine AwOps.cl (F55 _ (by first | omega | (simp only [w64] at *; omega) | (simp [w64] at *; omega)) (by first | omega | (simp only [w64] at *; omega) | (simp [w64] at *; omega))) [] rfl ⟨⟨rfl, rfl⟩, trivial⟩ trivial rfl ?_   -- certpathref01.Dec
    rintro _ _ rfl
    refine AwOps.bin rfl _ rfl (cat_run (by rw [decS_size]; decide)) ?_
    refine AwOps.v hT rfl ?_
    refine AwOps.nil (Aw.seq (Aw.region ?_))
    refine AwOps.v hT rfl ?_
    refine AwOps.build hT rfl ?_
    refine AwOps.turn (Less.say (t := 19) (B := .agg [_, _, _]) rfl rfl) ?_
    refine AwOps.lit hT rfl ?_
    refine AwOps.turn (Tn.fz 20 rfl rfl (by first | rfl | (simp; done)) rfl) ?_
    refine AwOps.turn (Less.say (t := 20) (B := .one (.p (.sl (List.map eAttr [⟨_, _, _⟩])))) rfl rfl) ?_
    refine AwOps.lit hT rfl ?_
    refine AwOps.turn (Tn.sayH (b := 21) (B := .row 79 1 true (List.map eRdn [_])) rfl rfl) ?_
    refine AwOps.buildM hT rfl ?_
    refine AwOps.eff hT rfl ?_
    refine AwOps.stoM hT rfl ?_
    refine AwOps.nil (Aw.seq (Aw.seq (Aw.region ?_)))
    refine AwOps.v hT rfl ?_
    refine AwOps.v hT rfl ?_
    first | refine AwOps.nmr 24 rfl (by omega) ?_ | skip
    refine AwOps.v hT rfl ?_
    refine AwOps.nil ?_
    refine Aw.tst rfl (fun hb25 => ?_) (fun hb25 => ?_)
    · skip
      refine Aw.region ?_
      refine AwOps.v hT rfl ?_
      refine AwOps.v hT rfl ?_
      refine AwOps.build hT rfl ?_
      refine AwOps.turn (Less.say (t := 28) (B := .agg [_, _, _]) rfl rfl) ?_
      refine AwOps.lit hT rfl ?_
      refine AwOps.turn (Tn.fz 29 rfl rfl (by first | rfl | (simp; done)) rfl) ?_
      refine AwOps.turn (Less.say (t := 29) (B := .one (.p (.sl (List.map eAttr [⟨_, _, _⟩])))) rfl rfl) ?_
      refine AwOps.lit hT rfl ?_
      refine AwOps.turn (Tn.fz 30 rfl rfl (by first | rfl | (simp; done)) rfl) ?_
      refine AwOps.turn (Less.say (t := 30) (B := .one (.p (.sl (List.map eRdn [_])))) rfl rfl) ?_
      refine AwOps.appm  hT rfl rfl rfl (by first | rfl | (simp; done)) (by first | rfl | (simp; done)) (fun _ => rfl) (by first | exact Nat.le_of_ble_eq_true rfl | (simp only [List.length_cons, List.length_nil]; omega) | (dsimp only; omega) | (simp; omega) | omega) ?_
      refine AwOps.turn (Tn.fz 31 rfl rfl (by first | rfl | (simp; done)) rfl) ?_
      refine AwOps.v hT rfl ?_
      refine AwOps.eff hT rfl ?_
      refine AwOps.nil (Aw.seq (Aw.region ?_))
      refine AwOps.v hT rfl ?_
      refine AwOps.eff hT rfl ?_
      refine AwOps.nil ?_
      refine Aw.ret ?_
      refine ⟨_, [], rfl, trivial, ?_⟩
      simp only [authS, authV, hb12, hb25, if_true, if_false, Bool.false_eq_true]
      rfl
    · skip
      refine Aw.skip (Aw.seq (Aw.region ?_))
      refine AwOps.turn (Tn.freezeC 4 0 rfl rfl rfl (by first | rfl | (simp; done)) rfl rfl) ?_
      refine AwOps.v hT rfl ?_
      refine AwOps.eff hT rfl ?_
      refine AwOps.nil ?_
      refine Aw.ret ?_
      refine ⟨_, [], rfl, trivial, ?_⟩
      simp only [authS, authV, hb12, hb25, if_true, if_false, Bool.false_eq_true]
      rfl
  · skip
    refine Aw.skip (Aw.seq (Aw.region ?_))
    refine AwOps.v hT rfl ?_
    refine AwOps.build hT rfl ?_
    refine AwOps.turn (Less.say (t := 19) (B := .agg [_, _, _]) rfl rfl) ?_
    refine AwOps.lit hT rfl ?_
    refine AwOps.turn (Tn.fz 20 rfl rfl (by first | rfl | (simp; done)) rfl) ?_
    refine AwOps.turn (Less.say (t := 20) (B := .one (.p (.sl (List.map eAttr [⟨_, _, _⟩])))) rfl rfl) ?_
    refine AwOps.lit hT rfl ?_
    refine AwOps.turn (Tn.sayH (b := 21) (B := .row 79 1 true (List.map eRdn [_])) rfl rfl) ?_
    refine AwOps.buildM hT rfl ?_
    refine AwOps.eff hT rfl ?_
    refine AwOps.stoM hT rfl ?_
    refine AwOps.nil (Aw.seq (Aw.seq (Aw.region ?_)))
    refine AwOps.v hT rfl ?_
    refine AwOps.v hT rfl ?_
    first | refine AwOps.nmr 24 rfl (by omega) ?_ | skip
    refine AwOps.v hT rfl ?_
    refine AwOps.nil ?_
    refine Aw.tst rfl (fun hb25 => ?_) (fun hb25 => ?_)
    · skip
      refine Aw.region ?_
      refine AwOps.v hT rfl ?_
      refine AwOps.v hT rfl ?_
      refine AwOps.build hT rfl ?_
      refine AwOps.turn (Less.say (t := 28) (B := .agg [_, _, _]) rfl rfl) ?_
      refine AwOps.lit hT rfl ?_
      refine AwOps.turn (Tn.fz 29 rfl rfl (by first | rfl | (simp; done)) rfl) ?_
      refine AwOps.turn (Less.say (t := 29) (B := .one (.p (.sl (List.map eAttr [⟨_, _, _⟩])))) rfl rfl) ?_
      refine AwOps.lit hT rfl ?_
      refine AwOps.turn (Tn.fz 30 rfl rfl (by first | rfl | (simp; done)) rfl) ?_
      refine AwOps.turn (Less.say (t := 30) (B := .one (.p (.sl (List.map eRdn [_])))) rfl rfl) ?_
      refine AwOps.appm  hT rfl rfl rfl (by first | rfl | (simp; done)) (by first | rfl | (simp; done)) (fun _ => rfl) (by first | exact Nat.le_of_ble_eq_true rfl | (simp only [List.length_cons, List.length_nil]; omega) | (dsimp only; omega) | (simp; omega) | omega) ?_
      refine AwOps.turn (Tn.fz 31 rfl rfl (by first | rfl | (simp; done)) rfl) ?_
      refine AwOps.v hT rfl ?_
      refine AwOps.eff hT rfl ?_
      refine AwOps.nil (Aw.seq (Aw.region ?_))
      refine AwOps.v hT rfl ?_
      refine AwOps.eff hT rfl ?_
      refine AwOps.nil ?_
      refine Aw.ret ?_
      refine ⟨_, [], rfl, trivial, ?_⟩
      simp only [authS, authV, hb12, hb25, if_true, if_false, Bool.false_eq_true]
      rfl
    · skip
      refine Aw.skip (Aw.seq (Aw.region ?_))
      refine AwOps.turn (Tn.freezeC 4 0 rfl rfl rfl (by first | rfl | (simp; done)) rfl rfl) ?_
      refine AwOps.v hT rfl ?_
      refine AwOps.eff hT rfl ?_
      refine AwOps.nil ?_
      refine Aw.ret ?_
      refine ⟨_, [], rfl, trivial, ?_⟩
      simp only [authS, authV, hb12, hb25, if_true, if_false, Bool.false_eq_true]
      rfl
def noneS : Info := ⟨false, false, -1, 0, [], [], [], -1, -1, -1, [], false, ⟨[], []⟩, ⟨#[]⟩, ⟨#[]⟩, [], [], []⟩
theorem okS_of {s : ByteArray} {l : List ByteArray} {n : Nat} (h : s ∈ l) (hl : (l.all fun x => Nat.ble x.size n) = true) (hn : n ≤ 1073741824) : okS s := by
  have := List.all_eq_true.1 hl s h
  have := Nat.le_of_ble_eq_true this
  unfold okS
  omega
-- f83 certpath/certpathmade2.place
theorem F83 (k : Int) (hk : 0 ≤ k) : Fn Tryd.prog 39 [.pv (sc (.int .i64 k))] [] (fun r _ => ∃ g : Gn, r = .agg (eGn g) ∧ okG g) := by
  refine Fn.intro (rs := [.cell 2 60]) hT Tryd.func39 (by kernel_rfl) rfl rfl rfl rfl fun C => ?_
  refine Aw.seq (Aw.region ?_)
  refine AwOps.eff hT rfl ?_
  refine AwOps.nil (Aw.seq (Aw.region ?_))
  refine AwOps.lit hT rfl ?_
  refine AwOps.turn (Tn.fz 3 rfl rfl (by first | rfl | (simp; done)) rfl) ?_
  refine AwOps.turn (Less.say (t := 3) (B := .one (.p (.sl (List.map eStr [_, _, _])))) rfl rfl) ?_
  refine AwOps.v hT rfl ?_
  refine AwOps.v hT rfl ?_
  first | refine AwOps.nmr 5 rfl (by omega) ?_ | skip
  refine AwOps.imI hT rfl (by first | omega | (simp only [w64] at *; omega) | (simp [w64] at *; omega)) (by first | omega | (simp only [List.length_cons, List.length_nil, List.length_map]; omega) | (simp only [List.length_cons, List.length_nil, List.length_map, w64] at *; omega) | (simp [w64] at *; omega)) rfl ?_
  refine AwOps.v hT rfl ?_
  refine AwOps.build hT rfl ?_
  refine AwOps.turn (Less.say (t := 8) (B := .agg [_, _, .sl (List.map eRdn [])]) rfl rfl) ?_
  refine AwOps.eff hT rfl ?_
  refine AwOps.nil ?_
  refine Aw.ret ?_
  refine ⟨_, [], rfl, trivial, ?_⟩
  refine ⟨⟨2, _, []⟩, rfl, ?_, okNm_nil⟩
  exact okS_of (n := 100) (List.getElem_mem _) rfl (by decide)
end Go.Proofs.YtbdgmondalkhlaaDoor.Aw
