
/- The walks of the makers of names, constraints, policies, points.
   Conditions: none. -/
import Derived.Test.YthhjfcmkelmobaaGreatWkMade
namespace Go.Proofs.YthhjfcmkelmobaaGreat.Aw
open Go
set_option maxRecDepth 100000
set_option linter.unusedSimpArgs false
set_option linter.unusedVariables false

def attrL : List Attr := [⟨⟨#[50, 46, 53, 46, 52, 46, 51]⟩, 12, ⟨#[65, 110, 110]⟩⟩, ⟨⟨#[50, 46, 53, 46, 52, 46, 51]⟩, 19, ⟨#[32, 97, 110, 110]⟩⟩, ⟨⟨#[50, 46, 53, 46, 52, 46, 51]⟩, 12, ⟨#[103, 114, 195, 182, 195, 159, 101]⟩⟩, ⟨⟨#[50, 46, 53, 46, 52, 46, 54]⟩, 19, ⟨#[85, 83]⟩⟩,
  ⟨⟨#[50, 46, 53, 46, 52, 46, 49, 48]⟩, 19, ⟨#[69, 120, 97, 109, 112, 108, 101, 32, 32, 67, 111, 114, 112]⟩⟩, ⟨⟨#[50, 46, 53, 46, 52, 46, 49, 48]⟩, 12, ⟨#[101, 120, 97, 109, 112, 108, 101, 32, 99, 111, 114, 112]⟩⟩, ⟨⟨#[50, 46, 53, 46, 52, 46, 49, 49]⟩, 22, ⟨#[97, 44, 98, 43, 99, 61, 100, 92, 101]⟩⟩,
  ⟨⟨#[48, 46, 57, 46, 50, 51, 52, 50, 46, 49, 57, 50, 48, 48, 51, 48, 48, 46, 49, 48, 48, 46, 49, 46, 50, 53]⟩, 22, ⟨#[111, 114, 103]⟩⟩, ⟨⟨#[49, 46, 50, 46, 56, 52, 48, 46, 49, 49, 51, 53, 52, 57, 46, 49, 46, 57, 46, 49]⟩, 22, ⟨#[97, 110, 110, 64, 101, 120, 97, 109, 112, 108, 101, 46, 111, 114, 103]⟩⟩,
  ⟨⟨#[49, 46, 50, 46, 56, 52, 48, 46, 49, 49, 51, 53, 52, 57, 46, 49, 46, 57, 46, 49]⟩, 22, ⟨#[110, 111, 32, 97, 100, 100, 114, 101, 115, 115]⟩⟩, ⟨⟨#[50, 46, 53, 46, 52, 46, 57, 57]⟩, 19, ⟨#[120]⟩⟩, ⟨⟨#[50, 46, 53, 46, 52, 46, 55]⟩, 12, ⟨#[76]⟩⟩]
theorem attrL_ok : ∀ a ∈ attrL, okS a.v := fun a h => by
  have := List.all_eq_true.1 (show (attrL.all fun a => Nat.ble a.v.size 100) = true from rfl) a h
  have := Nat.le_of_ble_eq_true this
  unfold okS
  omega
-- f81 certpath/certpathmade.attribute
theorem F81 (d : Dk) : Fn Tryz.prog 54 [.ptr 0 0] [(59, eDk d)] (fun r H' => ∃ (x : Attr) (d' : Dk), r = .agg (eAttr x) ∧ H' = [eDk d'] ∧ x ∈ attrL) := by
  refine Fn.intro (rs := [.cell 2 95]) hT Tryz.func54 (by kernel_rfl) rfl rfl rfl rfl fun C => ?_
  repeat (first | refine AwOps.nil ?_ | refine AwSch.nil ?_ | refine Aw.seq ?_ | refine Aw.region ?_ | refine Aw.block ?_ | refine Aw.skip ?_ | refine Aw.exit ?_ | refine Aw.condT rfl ?_ | refine Aw.condF rfl ?_)
  refine AwOps.eff hT rfl ?_
  repeat (first | refine AwOps.nil ?_ | refine AwSch.nil ?_ | refine Aw.seq ?_ | refine Aw.region ?_ | refine Aw.block ?_ | refine Aw.skip ?_ | refine Aw.exit ?_ | refine Aw.condT rfl ?_ | refine Aw.condF rfl ?_)
  refine AwOps.build hT rfl ?_
  refine AwOps.turn (Less.say (t := 3) (B := .agg [_, _, _]) rfl rfl) ?_
  refine AwOps.build hT rfl ?_
  refine AwOps.turn (Less.say (t := 4) (B := .agg [_, _, _]) rfl rfl) ?_
  refine AwOps.build hT rfl ?_
  refine AwOps.turn (Less.say (t := 5) (B := .agg [_, _, _]) rfl rfl) ?_
  refine AwOps.build hT rfl ?_
  refine AwOps.turn (Less.say (t := 6) (B := .agg [_, _, _]) rfl rfl) ?_
  refine AwOps.build hT rfl ?_
  refine AwOps.turn (Less.say (t := 7) (B := .agg [_, _, _]) rfl rfl) ?_
  refine AwOps.build hT rfl ?_
  refine AwOps.turn (Less.say (t := 8) (B := .agg [_, _, _]) rfl rfl) ?_
  refine AwOps.build hT rfl ?_
  refine AwOps.turn (Less.say (t := 9) (B := .agg [_, _, _]) rfl rfl) ?_
  refine AwOps.build hT rfl ?_
  refine AwOps.turn (Less.say (t := 10) (B := .agg [_, _, _]) rfl rfl) ?_
  refine AwOps.build hT rfl ?_
  refine AwOps.turn (Less.say (t := 11) (B := .agg [_, _, _]) rfl rfl) ?_
  refine AwOps.build hT rfl ?_
  refine AwOps.turn (Less.say (t := 12) (B := .agg [_, _, _]) rfl rfl) ?_
  refine AwOps.build hT rfl ?_
  refine AwOps.turn (Less.say (t := 13) (B := .agg [_, _, _]) rfl rfl) ?_
  refine AwOps.build hT rfl ?_
  refine AwOps.turn (Less.say (t := 14) (B := .agg [_, _, _]) rfl rfl) ?_
  refine AwOps.lit hT rfl ?_
  refine AwOps.turn (Tn.fz 15 rfl rfl (by first | rfl | (simp; done)) rfl) ?_
  refine AwOps.turn (Less.say (t := 15) (B := .one (.p (.sl (List.map eAttr [⟨_, _, _⟩, ⟨_, _, _⟩, ⟨_, _, _⟩, ⟨_, _, _⟩, ⟨_, _, _⟩, ⟨_, _, _⟩, ⟨_, _, _⟩, ⟨_, _, _⟩, ⟨_, _, _⟩, ⟨_, _, _⟩, ⟨_, _, _⟩, ⟨_, _, _⟩])))) rfl rfl) ?_
  refine AwOps.v hT rfl ?_
  refine AwOps.cl (F10 _ _ (by first | omega | (simp only [w64] at *; omega) | (simp [w64] at *; omega)) (by first | omega | (simp only [w64] at *; omega) | (simp [w64] at *; omega))) [1000] rfl ⟨⟨1000, rfl, rfl⟩, ⟨rfl, rfl⟩, trivial⟩ ⟨rfl, trivial⟩ rfl ?_   -- certpathmade.Deck).Next
  rintro _ _ ⟨v1, d1, rfl, rfl, hv1, hw1⟩
  refine AwOps.imI hT rfl (by first | omega | (simp only [w64] at *; omega) | (simp [w64] at *; omega)) (by first | omega | (simp only [List.length_cons, List.length_nil, List.length_map]; omega) | (simp only [List.length_cons, List.length_nil, List.length_map, w64] at *; omega) | (simp [w64] at *; omega)) rfl ?_
  refine AwOps.v hT rfl ?_
  refine AwOps.eff hT rfl ?_
  repeat (first | refine AwOps.nil ?_ | refine AwSch.nil ?_ | refine Aw.seq ?_ | refine Aw.region ?_ | refine Aw.block ?_ | refine Aw.skip ?_ | refine Aw.exit ?_ | refine Aw.condT rfl ?_ | refine Aw.condF rfl ?_)
  refine Aw.ret ?_
  refine ⟨_, [_], rfl, ⟨rfl, trivial⟩, ?_⟩
  refine ⟨_, _, rfl, rfl, ?_⟩
  exact List.getElem_mem (l := attrL) (show (v1.toNat < 12) by omega)
-- f36 certpath/certpathmade2.Policies
theorem F36 (d : Dk) (n : Int) (h0 : 0 ≤ n) (h1 : n ≤ 1000) : Fn Tryz.prog 41 [.ptr 0 0, .pv (sc (.int .i64 n))] [(59, eDk d)] (fun r H' => ∃ (x : List ByteArray) (d' : Dk), r = .one (.p (.sl (x.map eStr))) ∧ H' = [eDk d'] ∧ (∀ s ∈ x, s ∈ policyL) ∧ (x.length : Int) ≤ n) := by
  refine Fn.intro (rs := [.tmp 4]) hT Tryz.func41 (by kernel_rfl) rfl rfl rfl rfl fun C => ?_
  repeat (first | refine AwOps.nil ?_ | refine AwSch.nil ?_ | refine Aw.seq ?_ | refine Aw.region ?_ | refine Aw.block ?_ | refine Aw.skip ?_ | refine Aw.exit ?_ | refine Aw.condT rfl ?_ | refine Aw.condF rfl ?_)
  refine AwOps.v hT rfl ?_
  repeat (first | refine AwOps.nil ?_ | refine AwSch.nil ?_ | refine Aw.seq ?_ | refine Aw.region ?_ | refine Aw.block ?_ | refine Aw.skip ?_ | refine Aw.exit ?_ | refine Aw.condT rfl ?_ | refine Aw.condF rfl ?_)
  refine AwOps.v hT rfl ?_
  repeat (first | refine AwOps.nil ?_ | refine AwSch.nil ?_ | refine Aw.seq ?_ | refine Aw.region ?_ | refine Aw.block ?_ | refine Aw.skip ?_ | refine Aw.exit ?_ | refine Aw.condT rfl ?_ | refine Aw.condF rfl ?_)
  iterate 3 refine AwOps.v hT rfl ?_
  first | refine AwOps.nm 9 rfl (by omega) (by omega) ?_ | skip
  refine AwOps.cl (F10 _ _ (by first | omega | (simp only [w64] at *; omega) | (simp [w64] at *; omega)) (by first | omega | (simp only [w64] at *; omega) | (simp [w64] at *; omega))) [1000] rfl ⟨⟨1000, rfl, rfl⟩, ⟨rfl, rfl⟩, trivial⟩ ⟨rfl, trivial⟩ rfl ?_   -- certpathmade.Deck).Next
  rintro _ _ ⟨v1, d1, rfl, rfl, hv1, hw1⟩
  refine AwOps.v hT rfl ?_
  repeat (first | refine AwOps.nil ?_ | refine AwSch.nil ?_ | refine Aw.seq ?_ | refine Aw.region ?_ | refine Aw.block ?_ | refine Aw.skip ?_ | refine Aw.exit ?_ | refine Aw.condT rfl ?_ | refine Aw.condF rfl ?_)
  refine Aw.turn (Tn.own 5 905 9 1 rfl (by decide) (by decide) rfl) ?_
  refine Aw.lp (ι := List (ByteArray) × Int × Dk) (n := 25) [(0, _)] [] (fun g => [(5, .one (.own 905 g.1.length)), (6, sc (.int .i64 g.2.1))]) (fun g => [(905, .row 9 1 true (List.map eStr g.1)), (1000, .box ⟨59, eDk g.2.2, []⟩)]) (fun g => 0 ≤ g.2.1 ∧ g.2.1 + g.1.length ≤ n ∧ ∀ s ∈ g.1, s ∈ policyL) (fun g => g.2.1.toNat) ([], _, _) ?ok1 (Less.tn ⟨rfl, ⟨rfl, rfl, rfl, trivial⟩, ⟨rfl, rfl, trivial⟩⟩) ?bd1
  case ok1 =>
    try dsimp only
    refine ⟨by first | omega | (simp only [w64] at *; omega) | (simp [w64] at *; omega), by simp only [List.length_nil]; first | omega | (simp only [w64] at *; omega) | (simp [w64] at *; omega), fun s h => (by cases h)⟩
  case bd1 =>
    rintro ⟨l5, k6, x1000⟩ hi1
    try dsimp only at hi1
    show Aw _ _ _ ⟨25, [(5, .one (.own 905 l5.length)), (6, sc (.int .i64 k6))] ++ [(0, _)], [(905, .row 9 1 true (List.map eStr l5)), (1000, .box ⟨59, eDk x1000, []⟩)] ++ []⟩ _
    repeat (first | refine AwOps.nil ?_ | refine AwSch.nil ?_ | refine Aw.seq ?_ | refine Aw.region ?_ | refine Aw.block ?_ | refine Aw.skip ?_ | refine Aw.exit ?_ | refine Aw.condT rfl ?_ | refine Aw.condF rfl ?_)
    refine AwOps.v hT rfl ?_
    refine AwOps.v hT rfl ?_
    repeat (first | refine AwOps.nil ?_ | refine AwSch.nil ?_ | refine Aw.seq ?_ | refine Aw.region ?_ | refine Aw.block ?_ | refine Aw.skip ?_ | refine Aw.exit ?_ | refine Aw.condT rfl ?_ | refine Aw.condF rfl ?_)
    refine Aw.tst rfl (fun hb12 => ?_) (fun hb12 => ?_)
    · skip
      have hk : 0 < k6 := by simpa using hb12
      repeat (first | refine AwOps.nil ?_ | refine AwSch.nil ?_ | refine Aw.seq ?_ | refine Aw.region ?_ | refine Aw.block ?_ | refine Aw.skip ?_ | refine Aw.exit ?_ | refine Aw.condT rfl ?_ | refine Aw.condF rfl ?_)
      refine AwOps.v hT rfl ?_
      refine AwOps.lit hT rfl ?_
      refine AwOps.turn (Tn.fz 16 rfl rfl (by first | rfl | (simp; done)) rfl) ?_
      refine AwOps.turn (Less.say (t := 16) (B := .one (.p (.sl (List.map eI [_, _, _, _, _])))) rfl rfl) ?_
      refine AwOps.v hT rfl ?_
      refine AwOps.cl (F10 _ _ (by first | omega | (simp only [w64] at *; omega) | (simp [w64] at *; omega)) (by first | omega | (simp only [w64] at *; omega) | (simp [w64] at *; omega))) [1000] rfl ⟨⟨1000, rfl, rfl⟩, ⟨rfl, rfl⟩, trivial⟩ ⟨rfl, trivial⟩ rfl ?_   -- certpathmade.Deck).Next
      rintro _ _ ⟨v2, d2, rfl, rfl, hv2, hw2⟩
      refine AwOps.imI hT rfl (by first | omega | (simp only [w64] at *; omega) | (simp [w64] at *; omega)) (by first | omega | (simp only [List.length_cons, List.length_nil, List.length_map]; omega) | (simp only [List.length_cons, List.length_nil, List.length_map, w64] at *; omega) | (simp [w64] at *; omega)) rfl ?_
      refine AwOps.v hT rfl ?_
      have hz : ∀ v ∈ ([0, 1, 2, 3, 8] : List Int), 0 ≤ v := by decide
      have hz2 := hz _ (List.getElem_mem (l := [0, 1, 2, 3, 8]) (n := v2.toNat) (by show v2.toNat < 5; omega))
      refine AwOps.cl (F63 _ hz2) [] rfl ⟨⟨rfl, rfl⟩, trivial⟩ trivial rfl ?_   -- certpathmade.Policy
      rintro _ _ ⟨p3, hp3, rfl⟩
      refine AwOps.lit hT rfl ?_
      refine AwOps.turn (Tn.fz 22 rfl rfl (by first | rfl | (simp; done)) rfl) ?_
      refine AwOps.turn (Less.say (t := 22) (B := .one (.p (.sl (List.map eStr [_])))) rfl rfl) ?_
      refine AwOps.appm  hT rfl rfl rfl rfl rfl (fun _ => rfl) (by simp only [List.length_cons, List.length_nil]; omega) ?_
      refine AwOps.v hT rfl ?_
      repeat (first | refine AwOps.nil ?_ | refine AwSch.nil ?_ | refine Aw.seq ?_ | refine Aw.region ?_ | refine Aw.block ?_ | refine Aw.skip ?_ | refine Aw.exit ?_ | refine Aw.condT rfl ?_ | refine Aw.condF rfl ?_)
      refine AwOps.v hT rfl ?_
      refine AwOps.v hT rfl ?_
      first | refine AwOps.nm 14 rfl (by omega) (by omega) ?_ | skip
      refine AwOps.v hT rfl ?_
      repeat (first | refine AwOps.nil ?_ | refine AwSch.nil ?_ | refine Aw.seq ?_ | refine Aw.region ?_ | refine Aw.block ?_ | refine Aw.skip ?_ | refine Aw.exit ?_ | refine Aw.condT rfl ?_ | refine Aw.condF rfl ?_)
      refine ⟨(_, _, _), ?nx1, ?mu1, Tn.trans (Less.tn (τ := ⟨25, [(5, _), (6, _), (0, _)], [(23, _), (1000, _)]⟩) ⟨rfl, ⟨rfl, rfl, rfl, trivial⟩, ⟨rfl, rfl, trivial⟩⟩) (Tn.trans (Tn.ren 23 905 rfl rfl rfl) (Less.tn ⟨rfl, ⟨rfl, rfl, rfl, trivial⟩, ⟨rfl, rfl, trivial⟩⟩))⟩
      case nx1 =>
        try dsimp only
        refine ⟨by first | omega | (simp only [w64] at *; omega) | (simp [w64] at *; omega), by simp only [List.length_append, List.length_cons, List.length_nil]; first | omega | (simp only [w64] at *; omega) | (simp [w64] at *; omega), fun s h => ?_⟩
        rcases List.mem_append.1 h with h | h
        · exact hi1.2.2 s h
        · rw [List.mem_singleton.1 h]; exact hp3
      case mu1 =>
        try dsimp only
        first | omega | (simp only [w64] at *; omega) | (simp [w64] at *; omega)
    · skip
      repeat (first | refine AwOps.nil ?_ | refine AwSch.nil ?_ | refine Aw.seq ?_ | refine Aw.region ?_ | refine Aw.block ?_ | refine Aw.skip ?_ | refine Aw.exit ?_ | refine Aw.condT rfl ?_ | refine Aw.condF rfl ?_)
      refine AwOps.v hT rfl ?_
      refine AwOps.v hT rfl ?_
      repeat (first | refine AwOps.nil ?_ | refine AwSch.nil ?_ | refine Aw.seq ?_ | refine Aw.region ?_ | refine Aw.block ?_ | refine Aw.skip ?_ | refine Aw.exit ?_ | refine Aw.condT rfl ?_ | refine Aw.condF rfl ?_)
      refine Aw.turn (Tn.fz 4 rfl rfl (by first | rfl | (simp; done)) rfl) ?_
      refine Aw.ret ?_
      refine ⟨_, [_], rfl, ⟨rfl, trivial⟩, ?_⟩
      exact ⟨_, _, rfl, rfl, hi1.2.2, by first | omega | (simp only [w64] at *; omega) | (simp [w64] at *; omega)⟩
theorem okNm_snoc {n : Name} {r : Rdn} (h : okNm n) (hl : n.length ≤ 900) (hr : r.length ≤ 1000) (ho : okR r) : okNm (n ++ [r]) := by
  refine ⟨fun x hx => ?_, by simp; omega, fun x hx => ?_⟩
  · rcases List.mem_append.1 hx with hx | hx
    · exact h.1 x hx
    · rw [List.mem_singleton.1 hx]; exact ho
  · rcases List.mem_append.1 hx with hx | hx
    · exact h.2.2 x hx
    · rw [List.mem_singleton.1 hx]; exact hr
def okMs (l : List Mapp) : Prop := ∀ m ∈ l, okS m.i ∧ okS m.s
theorem policyL_ok : ∀ s ∈ policyL, okS s := fun s h => okS_of (n := 100) h rfl (by decide)
-- f70 certpath/certpathmade2.Mappings
theorem F70 (d : Dk) (n : Int) (h0 : 0 ≤ n) (h1 : n ≤ 1000) : Fn Tryz.prog 42 [.ptr 0 0, .pv (sc (.int .i64 n))] [(59, eDk d)] (fun r H' => ∃ (x : List Mapp) (d' : Dk), r = .one (.p (.sl (x.map eMapp))) ∧ H' = [eDk d'] ∧ (x.length : Int) ≤ n + 1) := by
  refine Fn.intro (rs := [.tmp 4]) hT Tryz.func42 (by kernel_rfl) rfl rfl rfl rfl fun C => ?_
  repeat (first | refine AwOps.nil ?_ | refine AwSch.nil ?_ | refine Aw.seq ?_ | refine Aw.region ?_ | refine Aw.block ?_ | refine Aw.skip ?_ | refine Aw.exit ?_ | refine Aw.condT rfl ?_ | refine Aw.condF rfl ?_)
  refine AwOps.v hT rfl ?_
  repeat (first | refine AwOps.nil ?_ | refine AwSch.nil ?_ | refine Aw.seq ?_ | refine Aw.region ?_ | refine Aw.block ?_ | refine Aw.skip ?_ | refine Aw.exit ?_ | refine Aw.condT rfl ?_ | refine Aw.condF rfl ?_)
  refine AwOps.v hT rfl ?_
  repeat (first | refine AwOps.nil ?_ | refine AwSch.nil ?_ | refine Aw.seq ?_ | refine Aw.region ?_ | refine Aw.block ?_ | refine Aw.skip ?_ | refine Aw.exit ?_ | refine Aw.condT rfl ?_ | refine Aw.condF rfl ?_)
  iterate 3 refine AwOps.v hT rfl ?_
  first | refine AwOps.nm 9 rfl (by omega) (by omega) ?_ | skip
  refine AwOps.cl (F10 _ _ (by first | omega | (simp only [w64] at *; omega) | (simp [w64] at *; omega)) (by first | omega | (simp only [w64] at *; omega) | (simp [w64] at *; omega))) [1000] rfl ⟨⟨1000, rfl, rfl⟩, ⟨rfl, rfl⟩, trivial⟩ ⟨rfl, trivial⟩ rfl ?_   -- certpathmade.Deck).Next
  rintro _ _ ⟨v1, d1, rfl, rfl, hv1, hw1⟩
  refine AwOps.v hT rfl ?_
  repeat (first | refine AwOps.nil ?_ | refine AwSch.nil ?_ | refine Aw.seq ?_ | refine Aw.region ?_ | refine Aw.block ?_ | refine Aw.skip ?_ | refine Aw.exit ?_ | refine Aw.condT rfl ?_ | refine Aw.condF rfl ?_)
  refine Aw.turn (Tn.own 5 905 72 2 rfl (by decide) (by decide) rfl) ?_
  refine Aw.lp (ι := List (Mapp) × Int × Dk) (n := 34) [(0, _)] [] (fun g => [(5, .one (.own 905 g.1.length)), (6, sc (.int .i64 g.2.1))]) (fun g => [(905, .row 72 2 true (List.map eMapp g.1)), (1000, .box ⟨59, eDk g.2.2, []⟩)]) (fun g => 0 ≤ g.2.1 ∧ g.2.1 + g.1.length ≤ n) (fun g => g.2.1.toNat) ([], _, _) ?ok1 (Less.tn ⟨rfl, ⟨rfl, rfl, rfl, trivial⟩, ⟨rfl, rfl, trivial⟩⟩) ?bd1
  case ok1 =>
    try dsimp only
    exact ⟨by first | omega | (simp only [w64] at *; omega) | (simp [w64] at *; omega), by simp only [List.length_nil]; first | omega | (simp only [w64] at *; omega) | (simp [w64] at *; omega)⟩
  case bd1 =>
    rintro ⟨l5, k6, x1000⟩ hi1
    try dsimp only at hi1
    show Aw _ _ _ ⟨34, [(5, .one (.own 905 l5.length)), (6, sc (.int .i64 k6))] ++ [(0, _)], [(905, .row 72 2 true (List.map eMapp l5)), (1000, .box ⟨59, eDk x1000, []⟩)] ++ []⟩ _
    repeat (first | refine AwOps.nil ?_ | refine AwSch.nil ?_ | refine Aw.seq ?_ | refine Aw.region ?_ | refine Aw.block ?_ | refine Aw.skip ?_ | refine Aw.exit ?_ | refine Aw.condT rfl ?_ | refine Aw.condF rfl ?_)
    refine AwOps.v hT rfl ?_
    refine AwOps.v hT rfl ?_
    repeat (first | refine AwOps.nil ?_ | refine AwSch.nil ?_ | refine Aw.seq ?_ | refine Aw.region ?_ | refine Aw.block ?_ | refine Aw.skip ?_ | refine Aw.exit ?_ | refine Aw.condT rfl ?_ | refine Aw.condF rfl ?_)
    refine Aw.tst rfl (fun hb12 => ?_) (fun hb12 => ?_)
    · skip
      have hk : 0 < k6 := by simpa using hb12
      repeat (first | refine AwOps.nil ?_ | refine AwSch.nil ?_ | refine Aw.seq ?_ | refine Aw.region ?_ | refine Aw.block ?_ | refine Aw.skip ?_ | refine Aw.exit ?_ | refine Aw.condT rfl ?_ | refine Aw.condF rfl ?_)
      refine AwOps.v hT rfl ?_
      refine AwOps.v hT rfl ?_
      refine AwOps.cl (F10 _ _ (by first | omega | (simp only [w64] at *; omega) | (simp [w64] at *; omega)) (by first | omega | (simp only [w64] at *; omega) | (simp [w64] at *; omega))) [1000] rfl ⟨⟨1000, rfl, rfl⟩, ⟨rfl, rfl⟩, trivial⟩ ⟨rfl, trivial⟩ rfl ?_   -- certpathmade.Deck).Next
      rintro _ _ ⟨v2, d2, rfl, rfl, hv2, hw2⟩
      refine AwOps.cl (F63 _ (by first | omega | (simp only [w64] at *; omega) | (simp [w64] at *; omega))) [] rfl ⟨⟨rfl, rfl⟩, trivial⟩ trivial rfl ?_   -- certpathmade.Policy
      rintro _ _ ⟨p3, hp3, rfl⟩
      refine AwOps.v hT rfl ?_
      refine AwOps.cl (F10 _ _ (by first | omega | (simp only [w64] at *; omega) | (simp [w64] at *; omega)) (by first | omega | (simp only [w64] at *; omega) | (simp [w64] at *; omega))) [1000] rfl ⟨⟨1000, rfl, rfl⟩, ⟨rfl, rfl⟩, trivial⟩ ⟨rfl, trivial⟩ rfl ?_   -- certpathmade.Deck).Next
      rintro _ _ ⟨v4, d4, rfl, rfl, hv4, hw4⟩
      refine AwOps.cl (F63 _ (by first | omega | (simp only [w64] at *; omega) | (simp [w64] at *; omega))) [] rfl ⟨⟨rfl, rfl⟩, trivial⟩ trivial rfl ?_   -- certpathmade.Policy
      rintro _ _ ⟨p5, hp5, rfl⟩
      refine AwOps.build hT rfl ?_
      refine AwOps.turn (Less.say (t := 22) (B := .agg [_, _]) rfl rfl) ?_
      refine AwOps.lit hT rfl ?_
      refine AwOps.turn (Tn.fz 23 rfl rfl (by first | rfl | (simp; done)) rfl) ?_
      refine AwOps.turn (Less.say (t := 23) (B := .one (.p (.sl (List.map eMapp [⟨_, _⟩])))) rfl rfl) ?_
      refine AwOps.appm  hT rfl rfl rfl rfl rfl (fun _ => rfl) (by simp only [List.length_cons, List.length_nil]; omega) ?_
      refine AwOps.v hT rfl ?_
      repeat (first | refine AwOps.nil ?_ | refine AwSch.nil ?_ | refine Aw.seq ?_ | refine Aw.region ?_ | refine Aw.block ?_ | refine Aw.skip ?_ | refine Aw.exit ?_ | refine Aw.condT rfl ?_ | refine Aw.condF rfl ?_)
      refine AwOps.v hT rfl ?_
      refine AwOps.v hT rfl ?_
      first | refine AwOps.nm 14 rfl (by omega) (by omega) ?_ | skip
      refine AwOps.v hT rfl ?_
      repeat (first | refine AwOps.nil ?_ | refine AwSch.nil ?_ | refine Aw.seq ?_ | refine Aw.region ?_ | refine Aw.block ?_ | refine Aw.skip ?_ | refine Aw.exit ?_ | refine Aw.condT rfl ?_ | refine Aw.condF rfl ?_)
      refine ⟨(_, _, _), ?nx1, ?mu1, Tn.trans (Less.tn (τ := ⟨34, [(5, _), (6, _), (0, _)], [(24, _), (1000, _)]⟩) ⟨rfl, ⟨rfl, rfl, rfl, trivial⟩, ⟨rfl, rfl, trivial⟩⟩) (Tn.trans (Tn.ren 24 905 rfl rfl rfl) (Less.tn ⟨rfl, ⟨rfl, rfl, rfl, trivial⟩, ⟨rfl, rfl, trivial⟩⟩))⟩
      case nx1 =>
        try dsimp only
        exact ⟨by first | omega | (simp only [w64] at *; omega) | (simp [w64] at *; omega), by simp only [List.length_append, List.length_cons, List.length_nil]; first | omega | (simp only [w64] at *; omega) | (simp [w64] at *; omega)⟩
      case mu1 =>
        try dsimp only
        first | omega | (simp only [w64] at *; omega) | (simp [w64] at *; omega)
    · skip
      repeat (first | refine AwOps.nil ?_ | refine AwSch.nil ?_ | refine Aw.seq ?_ | refine Aw.region ?_ | refine Aw.block ?_ | refine Aw.skip ?_ | refine Aw.exit ?_ | refine Aw.condT rfl ?_ | refine Aw.condF rfl ?_)
      refine AwOps.v hT rfl ?_
      refine AwOps.cl (F10 _ _ (by first | omega | (simp only [w64] at *; omega) | (simp [w64] at *; omega)) (by first | omega | (simp only [w64] at *; omega) | (simp [w64] at *; omega))) [1000] rfl ⟨⟨1000, rfl, rfl⟩, ⟨rfl, rfl⟩, trivial⟩ ⟨rfl, trivial⟩ rfl ?_   -- certpathmade.Deck).Next
      rintro _ _ ⟨v6, d6, rfl, rfl, hv6, hw6⟩
      refine AwOps.v hT rfl ?_
      repeat (first | refine AwOps.nil ?_ | refine AwSch.nil ?_ | refine Aw.seq ?_ | refine Aw.region ?_ | refine Aw.block ?_ | refine Aw.skip ?_ | refine Aw.exit ?_ | refine Aw.condT rfl ?_ | refine Aw.condF rfl ?_)
      refine Aw.tst rfl (fun hb27 => ?_) (fun hb27 => ?_)
      · skip
        repeat (first | refine AwOps.nil ?_ | refine AwSch.nil ?_ | refine Aw.seq ?_ | refine Aw.region ?_ | refine Aw.block ?_ | refine Aw.skip ?_ | refine Aw.exit ?_ | refine Aw.condT rfl ?_ | refine Aw.condF rfl ?_)
        refine AwOps.v hT rfl ?_
        refine AwOps.cl (F63 _ (by first | omega | (simp only [w64] at *; omega) | (simp [w64] at *; omega))) [] rfl ⟨⟨rfl, rfl⟩, trivial⟩ trivial rfl ?_   -- certpathmade.Policy
        rintro _ _ ⟨p7, hp7, rfl⟩
        refine AwOps.build hT rfl ?_
        refine AwOps.turn (Less.say (t := 30) (B := .agg [_, _]) rfl rfl) ?_
        refine AwOps.lit hT rfl ?_
        refine AwOps.turn (Tn.fz 31 rfl rfl (by first | rfl | (simp; done)) rfl) ?_
        refine AwOps.turn (Less.say (t := 31) (B := .one (.p (.sl (List.map eMapp [⟨_, _⟩])))) rfl rfl) ?_
        refine AwOps.appm  hT rfl rfl rfl rfl rfl (fun _ => rfl) (by simp only [List.length_cons, List.length_nil]; omega) ?_
        refine AwOps.v hT rfl ?_
        repeat (first | refine AwOps.nil ?_ | refine AwSch.nil ?_ | refine Aw.seq ?_ | refine Aw.region ?_ | refine Aw.block ?_ | refine Aw.skip ?_ | refine Aw.exit ?_ | refine Aw.condT rfl ?_ | refine Aw.condF rfl ?_)
        refine AwOps.v hT rfl ?_
        refine AwOps.v hT rfl ?_
        repeat (first | refine AwOps.nil ?_ | refine AwSch.nil ?_ | refine Aw.seq ?_ | refine Aw.region ?_ | refine Aw.block ?_ | refine Aw.skip ?_ | refine Aw.exit ?_ | refine Aw.condT rfl ?_ | refine Aw.condF rfl ?_)
        refine Aw.turn (Tn.fz 4 rfl rfl (by first | rfl | (simp; done)) rfl) ?_
        refine Aw.ret ?_
        refine ⟨_, [_], rfl, ⟨rfl, trivial⟩, ?_⟩
        exact ⟨_, _, rfl, rfl, by simp only [List.length_append, List.length_cons, List.length_nil]; omega⟩
      · skip
        repeat (first | refine AwOps.nil ?_ | refine AwSch.nil ?_ | refine Aw.seq ?_ | refine Aw.region ?_ | refine Aw.block ?_ | refine Aw.skip ?_ | refine Aw.exit ?_ | refine Aw.condT rfl ?_ | refine Aw.condF rfl ?_)
        refine AwOps.v hT rfl ?_
        refine AwOps.v hT rfl ?_
        repeat (first | refine AwOps.nil ?_ | refine AwSch.nil ?_ | refine Aw.seq ?_ | refine Aw.region ?_ | refine Aw.block ?_ | refine Aw.skip ?_ | refine Aw.exit ?_ | refine Aw.condT rfl ?_ | refine Aw.condF rfl ?_)
        refine Aw.turn (Tn.fz 4 rfl rfl (by first | rfl | (simp; done)) rfl) ?_
        refine Aw.ret ?_
        refine ⟨_, [_], rfl, ⟨rfl, trivial⟩, ?_⟩
        exact ⟨_, _, rfl, rfl, by omega⟩
-- f35 certpath/certpathmade2.once
theorem F35 (l : List ByteArray) (hl : l.length ≤ 100000) : Fn Tryz.prog 40 [.pv (.one (.p (.sl (l.map eStr))))] [] (fun r _ => ∃ x : List ByteArray, r = .one (.p (.sl (x.map eStr))) ∧ (∀ s ∈ x, s ∈ l) ∧ x.length ≤ l.length) := by
  refine Fn.intro (rs := [.tmp 2]) hT Tryz.func40 (by kernel_rfl) rfl rfl rfl rfl fun C => ?_
  repeat (first | refine AwOps.nil ?_ | refine AwSch.nil ?_ | refine Aw.seq ?_ | refine Aw.region ?_ | refine Aw.block ?_ | refine Aw.skip ?_ | refine Aw.exit ?_ | refine Aw.condT rfl ?_ | refine Aw.condF rfl ?_)
  refine AwOps.v hT rfl ?_
  repeat (first | refine AwOps.nil ?_ | refine AwSch.nil ?_ | refine Aw.seq ?_ | refine Aw.region ?_ | refine Aw.block ?_ | refine Aw.skip ?_ | refine Aw.exit ?_ | refine Aw.condT rfl ?_ | refine Aw.condF rfl ?_)
  refine AwOps.v hT rfl ?_
  repeat (first | refine AwOps.nil ?_ | refine AwSch.nil ?_ | refine Aw.seq ?_ | refine Aw.region ?_ | refine Aw.block ?_ | refine Aw.skip ?_ | refine Aw.exit ?_ | refine Aw.condT rfl ?_ | refine Aw.condF rfl ?_)
  iterate 3 refine AwOps.v hT rfl ?_
  repeat (first | refine AwOps.nil ?_ | refine AwSch.nil ?_ | refine Aw.seq ?_ | refine Aw.region ?_ | refine Aw.block ?_ | refine Aw.skip ?_ | refine Aw.exit ?_ | refine Aw.condT rfl ?_ | refine Aw.condF rfl ?_)
  refine Aw.bnd 9 rfl fun hB1 => ?_
  replace hB1 : l.length ≤ maxLen := by simpa using hB1
  repeat (first | refine AwOps.nil ?_ | refine AwSch.nil ?_ | refine Aw.seq ?_ | refine Aw.region ?_ | refine Aw.block ?_ | refine Aw.skip ?_ | refine Aw.exit ?_ | refine Aw.condT rfl ?_ | refine Aw.condF rfl ?_)
  refine Aw.turn (Tn.own 3 903 9 1 rfl (by decide) (by decide) rfl) ?_
  refine Aw.lp (ι := List (ByteArray) × Nat) (n := 36) [(9, _), (10, _)] [] (fun g => [(3, .one (.own 903 g.1.length)), (11, sc (.int .i64 g.2))]) (fun g => [(903, .row 9 1 true (List.map eStr g.1))]) (fun g => g.2 ≤ l.length ∧ (g.1.length ≤ g.2 ∧ ∀ s ∈ g.1, s ∈ l)) (fun g => l.length - g.2) ([], 0) ?ok1 (Less.tn ⟨rfl, ⟨rfl, rfl, rfl, rfl, trivial⟩, ⟨rfl, trivial⟩⟩) ?bd1
  case ok1 =>
    try dsimp only
    exact ⟨Nat.zero_le _, Nat.le_refl _, fun s h => (by cases h)⟩
  case bd1 =>
    rintro ⟨l3, i1⟩ hi1
    try dsimp only at hi1
    show Aw _ _ _ ⟨36, [(3, .one (.own 903 l3.length)), (11, sc (.int .i64 i1))] ++ [(9, _), (10, _)], [(903, .row 9 1 true (List.map eStr l3))] ++ []⟩ _
    repeat (first | refine AwOps.nil ?_ | refine AwSch.nil ?_ | refine Aw.seq ?_ | refine Aw.region ?_ | refine Aw.block ?_ | refine Aw.skip ?_ | refine Aw.exit ?_ | refine Aw.condT rfl ?_ | refine Aw.condF rfl ?_)
    refine AwOps.v hT rfl ?_
    repeat (first | refine AwOps.nil ?_ | refine AwSch.nil ?_ | refine Aw.seq ?_ | refine Aw.region ?_ | refine Aw.block ?_ | refine Aw.skip ?_ | refine Aw.exit ?_ | refine Aw.condT rfl ?_ | refine Aw.condF rfl ?_)
    refine Aw.tst rfl (fun hb12 => ?_) (fun hb12 => ?_)
    · skip
      have hlt1 : i1 < l.length := by simpa using hb12
      repeat (first | refine AwOps.nil ?_ | refine AwSch.nil ?_ | refine Aw.seq ?_ | refine Aw.region ?_ | refine Aw.block ?_ | refine Aw.skip ?_ | refine Aw.exit ?_ | refine Aw.condT rfl ?_ | refine Aw.condF rfl ?_)
      refine AwOps.im hT rfl hlt1 rfl ?_
      refine AwOps.v hT rfl ?_
      refine AwOps.v hT rfl ?_
      repeat (first | refine AwOps.nil ?_ | refine AwSch.nil ?_ | refine Aw.seq ?_ | refine Aw.region ?_ | refine Aw.block ?_ | refine Aw.skip ?_ | refine Aw.exit ?_ | refine Aw.condT rfl ?_ | refine Aw.condF rfl ?_)
      refine AwOps.v hT rfl ?_
      repeat (first | refine AwOps.nil ?_ | refine AwSch.nil ?_ | refine Aw.seq ?_ | refine Aw.region ?_ | refine Aw.block ?_ | refine Aw.skip ?_ | refine Aw.exit ?_ | refine Aw.condT rfl ?_ | refine Aw.condF rfl ?_)
      iterate 3 refine AwOps.v hT rfl ?_
      repeat (first | refine AwOps.nil ?_ | refine AwSch.nil ?_ | refine Aw.seq ?_ | refine Aw.region ?_ | refine Aw.block ?_ | refine Aw.skip ?_ | refine Aw.exit ?_ | refine Aw.condT rfl ?_ | refine Aw.condF rfl ?_)
      refine Aw.lp (ι := Bool × Nat) (n := 36) [(3, _), (5, _), (9, _), (10, _), (11, _), (15, _), (16, _)] [(903, _)] (fun g => [(6, sc (.bool g.1)), (17, sc (.int .i64 g.2))]) (fun g => []) (fun g => g.2 ≤ l3.length ∧ (True)) (fun g => l3.length - g.2) (_, 0) ?ok2 (Less.tn ⟨rfl, ⟨rfl, rfl, rfl, rfl, rfl, rfl, rfl, rfl, rfl, trivial⟩, ⟨rfl, trivial⟩⟩) ?bd2
      case ok2 =>
        try dsimp only
        first | trivial | exact ⟨Nat.zero_le _, trivial⟩ | (simp; done) | (refine ⟨by simp, ?_⟩; (first | trivial | (simp; done))) | (simp; first | omega | (simp only [w64] at *; omega) | (simp [w64] at *; omega))
      case bd2 =>
        rintro ⟨b6, i2⟩ hi2
        try dsimp only at hi2
        show Aw _ _ _ ⟨36, [(6, sc (.bool b6)), (17, sc (.int .i64 i2))] ++ [(3, _), (5, _), (9, _), (10, _), (11, _), (15, _), (16, _)], [] ++ [(903, _)]⟩ _
        have hB2 : l3.length ≤ maxLen := by unfold maxLen; omega
        repeat (first | refine AwOps.nil ?_ | refine AwSch.nil ?_ | refine Aw.seq ?_ | refine Aw.region ?_ | refine Aw.block ?_ | refine Aw.skip ?_ | refine Aw.exit ?_ | refine Aw.condT rfl ?_ | refine Aw.condF rfl ?_)
        refine AwOps.v hT rfl ?_
        repeat (first | refine AwOps.nil ?_ | refine AwSch.nil ?_ | refine Aw.seq ?_ | refine Aw.region ?_ | refine Aw.block ?_ | refine Aw.skip ?_ | refine Aw.exit ?_ | refine Aw.condT rfl ?_ | refine Aw.condF rfl ?_)
        refine Aw.tst rfl (fun hb18 => ?_) (fun hb18 => ?_)
        · skip
          have hlt2 : i2 < l3.length := by simpa using hb18
          repeat (first | refine AwOps.nil ?_ | refine AwSch.nil ?_ | refine Aw.seq ?_ | refine Aw.region ?_ | refine Aw.block ?_ | refine Aw.skip ?_ | refine Aw.exit ?_ | refine Aw.condT rfl ?_ | refine Aw.condF rfl ?_)
          refine AwOps.idxo hT rfl rfl (by omega) hlt2 ?_
          refine AwOps.ldo hT rfl rfl (eStr l3[i2]) (by simp [hlt2]) rfl ?_
          refine AwOps.v hT rfl ?_
          repeat (first | refine AwOps.nil ?_ | refine AwSch.nil ?_ | refine Aw.seq ?_ | refine Aw.region ?_ | refine Aw.block ?_ | refine Aw.skip ?_ | refine Aw.exit ?_ | refine Aw.condT rfl ?_ | refine Aw.condF rfl ?_)
          refine AwOps.v hT rfl ?_
          refine AwOps.v hT rfl ?_
          refine AwOps.split (t := 22) rfl (fun hb22 => ?_) (fun hb22 => ?_)
          · skip
            iterate 5 refine AwOps.v hT rfl ?_
            repeat (first | refine AwOps.nil ?_ | refine AwSch.nil ?_ | refine Aw.seq ?_ | refine Aw.region ?_ | refine Aw.block ?_ | refine Aw.skip ?_ | refine Aw.exit ?_ | refine Aw.condT rfl ?_ | refine Aw.condF rfl ?_)
            refine AwOps.v hT rfl ?_
            refine AwOps.v hT rfl ?_
            repeat (first | refine AwOps.nil ?_ | refine AwSch.nil ?_ | refine Aw.seq ?_ | refine Aw.region ?_ | refine Aw.block ?_ | refine Aw.skip ?_ | refine Aw.exit ?_ | refine Aw.condT rfl ?_ | refine Aw.condF rfl ?_)
            refine ⟨(_, i2 + 1), ?nx2, ?mu2, Less.tn ⟨rfl, ⟨rfl, incS hlt2 hB2, rfl, rfl, rfl, rfl, rfl, rfl, rfl, trivial⟩, ⟨rfl, trivial⟩⟩⟩
            case nx2 =>
              try dsimp only
              first | exact ⟨hlt2, trivial⟩ | trivial
            case mu2 =>
              try dsimp only
              first | omega | (simp only [w64] at *; omega) | (simp [w64] at *; omega)
          · skip
            iterate 5 refine AwOps.v hT rfl ?_
            repeat (first | refine AwOps.nil ?_ | refine AwSch.nil ?_ | refine Aw.seq ?_ | refine Aw.region ?_ | refine Aw.block ?_ | refine Aw.skip ?_ | refine Aw.exit ?_ | refine Aw.condT rfl ?_ | refine Aw.condF rfl ?_)
            refine AwOps.v hT rfl ?_
            refine AwOps.v hT rfl ?_
            repeat (first | refine AwOps.nil ?_ | refine AwSch.nil ?_ | refine Aw.seq ?_ | refine Aw.region ?_ | refine Aw.block ?_ | refine Aw.skip ?_ | refine Aw.exit ?_ | refine Aw.condT rfl ?_ | refine Aw.condF rfl ?_)
            refine ⟨(_, i2 + 1), ?nx2, ?mu2, Less.tn ⟨rfl, ⟨rfl, incS hlt2 hB2, rfl, rfl, rfl, rfl, rfl, rfl, rfl, trivial⟩, ⟨rfl, trivial⟩⟩⟩
            case nx2 =>
              try dsimp only
              first | exact ⟨hlt2, trivial⟩ | trivial
            case mu2 =>
              try dsimp only
              first | omega | (simp only [w64] at *; omega) | (simp [w64] at *; omega)
        · skip
          repeat (first | refine AwOps.nil ?_ | refine AwSch.nil ?_ | refine Aw.seq ?_ | refine Aw.region ?_ | refine Aw.block ?_ | refine Aw.skip ?_ | refine Aw.exit ?_ | refine Aw.condT rfl ?_ | refine Aw.condF rfl ?_)
          refine AwOps.v hT rfl ?_
          refine AwOps.v hT rfl ?_
          repeat (first | refine AwOps.nil ?_ | refine AwSch.nil ?_ | refine Aw.seq ?_ | refine Aw.region ?_ | refine Aw.block ?_ | refine Aw.skip ?_ | refine Aw.exit ?_ | refine Aw.condT rfl ?_ | refine Aw.condF rfl ?_)
          refine Aw.tst rfl (fun hb29 => ?_) (fun hb29 => ?_)
          · skip
            repeat (first | refine AwOps.nil ?_ | refine AwSch.nil ?_ | refine Aw.seq ?_ | refine Aw.region ?_ | refine Aw.block ?_ | refine Aw.skip ?_ | refine Aw.exit ?_ | refine Aw.condT rfl ?_ | refine Aw.condF rfl ?_)
            refine AwOps.v hT rfl ?_
            refine AwOps.v hT rfl ?_
            refine AwOps.lit hT rfl ?_
            refine AwOps.turn (Tn.fz 32 rfl rfl (by first | rfl | (simp; done)) rfl) ?_
            refine AwOps.turn (Less.say (t := 32) (B := .one (.p (.sl (List.map eStr [_])))) rfl rfl) ?_
            refine AwOps.appm  hT rfl rfl rfl rfl rfl (fun _ => rfl) (by simp only [List.length_cons, List.length_nil]; omega) ?_
            refine AwOps.v hT rfl ?_
            repeat (first | refine AwOps.nil ?_ | refine AwSch.nil ?_ | refine Aw.seq ?_ | refine Aw.region ?_ | refine Aw.block ?_ | refine Aw.skip ?_ | refine Aw.exit ?_ | refine Aw.condT rfl ?_ | refine Aw.condF rfl ?_)
            refine AwOps.v hT rfl ?_
            refine AwOps.v hT rfl ?_
            repeat (first | refine AwOps.nil ?_ | refine AwSch.nil ?_ | refine Aw.seq ?_ | refine Aw.region ?_ | refine Aw.block ?_ | refine Aw.skip ?_ | refine Aw.exit ?_ | refine Aw.condT rfl ?_ | refine Aw.condF rfl ?_)
            refine ⟨(_, i1 + 1), ?nx1, ?mu1, Tn.trans (Less.tn (τ := ⟨36, [(3, _), (11, _), (9, _), (10, _)], [(33, _)]⟩) ⟨rfl, ⟨rfl, rfl, rfl, rfl, trivial⟩, ⟨rfl, trivial⟩⟩) (Tn.trans (Tn.ren 33 903 rfl rfl rfl) (Less.tn ⟨rfl, ⟨rfl, incS hlt1 hB1, rfl, rfl, trivial⟩, ⟨rfl, trivial⟩⟩))⟩
            case nx1 =>
              try dsimp only
              first
                | exact ⟨hlt1, by omega, hi1.2.2⟩
                | refine ⟨hlt1, by simp only [List.length_append, List.length_cons, List.length_nil]; omega, fun s h => ?_⟩
                  rcases List.mem_append.1 h with h | h
                  · exact hi1.2.2 s h
                  · rw [List.mem_singleton.1 h]; exact List.getElem_mem hlt1
            case mu1 =>
              try dsimp only
              first | omega | (simp only [w64] at *; omega) | (simp [w64] at *; omega)
          · skip
            repeat (first | refine AwOps.nil ?_ | refine AwSch.nil ?_ | refine Aw.seq ?_ | refine Aw.region ?_ | refine Aw.block ?_ | refine Aw.skip ?_ | refine Aw.exit ?_ | refine Aw.condT rfl ?_ | refine Aw.condF rfl ?_)
            refine AwOps.v hT rfl ?_
            refine AwOps.v hT rfl ?_
            repeat (first | refine AwOps.nil ?_ | refine AwSch.nil ?_ | refine Aw.seq ?_ | refine Aw.region ?_ | refine Aw.block ?_ | refine Aw.skip ?_ | refine Aw.exit ?_ | refine Aw.condT rfl ?_ | refine Aw.condF rfl ?_)
            refine ⟨(_, i1 + 1), ?nx1, ?mu1, Less.tn ⟨rfl, ⟨rfl, incS hlt1 hB1, rfl, rfl, trivial⟩, ⟨rfl, trivial⟩⟩⟩
            case nx1 =>
              try dsimp only
              first
                | exact ⟨hlt1, by omega, hi1.2.2⟩
                | refine ⟨hlt1, by simp only [List.length_append, List.length_cons, List.length_nil]; omega, fun s h => ?_⟩
                  rcases List.mem_append.1 h with h | h
                  · exact hi1.2.2 s h
                  · rw [List.mem_singleton.1 h]; exact List.getElem_mem hlt1
            case mu1 =>
              try dsimp only
              first | omega | (simp only [w64] at *; omega) | (simp [w64] at *; omega)
    · skip
      repeat (first | refine AwOps.nil ?_ | refine AwSch.nil ?_ | refine Aw.seq ?_ | refine Aw.region ?_ | refine Aw.block ?_ | refine Aw.skip ?_ | refine Aw.exit ?_ | refine Aw.condT rfl ?_ | refine Aw.condF rfl ?_)
      refine AwOps.v hT rfl ?_
      refine AwOps.v hT rfl ?_
      repeat (first | refine AwOps.nil ?_ | refine AwSch.nil ?_ | refine Aw.seq ?_ | refine Aw.region ?_ | refine Aw.block ?_ | refine Aw.skip ?_ | refine Aw.exit ?_ | refine Aw.condT rfl ?_ | refine Aw.condF rfl ?_)
      refine Aw.turn (Tn.fz 2 rfl rfl (by first | rfl | (simp; done)) rfl) ?_
      refine Aw.ret ?_
      refine ⟨_, [], rfl, trivial, ?_⟩
      exact ⟨_, rfl, hi1.2.2, by omega⟩
-- f64 certpath/certpathmade.Name
theorem F64 (d : Dk) : Fn Tryz.prog 33 [.ptr 0 0] [(59, eDk d)] (fun r H' => ∃ (x : Name) (d' : Dk), r = .agg (eName x) ∧ H' = [eDk d'] ∧ okNm x ∧ x.length ≤ 3) := by
  refine Fn.intro (rs := [.cell 2 27]) hT Tryz.func33 (by kernel_rfl) rfl rfl rfl rfl fun C => ?_
  repeat (first | refine AwOps.nil ?_ | refine AwSch.nil ?_ | refine Aw.seq ?_ | refine Aw.region ?_ | refine Aw.block ?_ | refine Aw.skip ?_ | refine Aw.exit ?_ | refine Aw.condT rfl ?_ | refine Aw.condF rfl ?_)
  refine AwOps.eff hT rfl ?_
  repeat (first | refine AwOps.nil ?_ | refine AwSch.nil ?_ | refine Aw.seq ?_ | refine Aw.region ?_ | refine Aw.block ?_ | refine Aw.skip ?_ | refine Aw.exit ?_ | refine Aw.condT rfl ?_ | refine Aw.condF rfl ?_)
  refine AwOps.buildZ hT rfl ?_
  refine AwOps.eff hT rfl ?_
  refine AwOps.stoM hT rfl ?_
  repeat (first | refine AwOps.nil ?_ | refine AwSch.nil ?_ | refine Aw.seq ?_ | refine Aw.region ?_ | refine Aw.block ?_ | refine Aw.skip ?_ | refine Aw.exit ?_ | refine Aw.condT rfl ?_ | refine Aw.condF rfl ?_)
  refine AwOps.v hT rfl ?_
  refine AwOps.cl (F10 _ _ (by first | omega | (simp only [w64] at *; omega) | (simp [w64] at *; omega)) (by first | omega | (simp only [w64] at *; omega) | (simp [w64] at *; omega))) [1000] rfl ⟨⟨1000, rfl, rfl⟩, ⟨rfl, rfl⟩, trivial⟩ ⟨rfl, trivial⟩ rfl ?_   -- certpathmade.Deck).Next
  rintro _ _ ⟨v1, d1, rfl, rfl, hv1, hw1⟩
  refine AwOps.v hT rfl ?_
  repeat (first | refine AwOps.nil ?_ | refine AwSch.nil ?_ | refine Aw.seq ?_ | refine Aw.region ?_ | refine Aw.block ?_ | refine Aw.skip ?_ | refine Aw.exit ?_ | refine Aw.condT rfl ?_ | refine Aw.condF rfl ?_)
  refine Aw.turn (Tn.ownC 3 0 930 96 1 rfl rfl (by decide) (by decide) rfl rfl) ?_
  refine Aw.lp (ι := Int × List (List (Attr)) × Dk) (n := 48) [(0, _), (2, _), (3, _)] [(2, _)] (fun g => [(4, sc (.int .i64 g.1))]) (fun g => [(3, .box ⟨27, [.sl []], [(0, .own 930 g.2.1.length)]⟩), (930, .row 96 1 true (List.map eRdn g.2.1)), (1000, .box ⟨59, eDk g.2.2, []⟩)]) (fun g => 0 ≤ g.1 ∧ g.1 + g.2.1.length ≤ 3 ∧ okNm g.2.1) (fun g => g.1.toNat) (_, [], _) ?ok1 (Less.tn ⟨rfl, ⟨rfl, rfl, rfl, rfl, trivial⟩, ⟨rfl, rfl, rfl, rfl, trivial⟩⟩) ?bd1
  case ok1 =>
    try dsimp only
    exact ⟨by first | omega | (simp only [w64] at *; omega) | (simp [w64] at *; omega), by simp only [List.length_nil]; first | omega | (simp only [w64] at *; omega) | (simp [w64] at *; omega), okNm_nil⟩
  case bd1 =>
    rintro ⟨k4, l930, x1000⟩ hi1
    try dsimp only at hi1
    show Aw _ _ _ ⟨48, [(4, sc (.int .i64 k4))] ++ [(0, _), (2, _), (3, _)], [(3, .box ⟨27, [.sl []], [(0, .own 930 l930.length)]⟩), (930, .row 96 1 true (List.map eRdn l930)), (1000, .box ⟨59, eDk x1000, []⟩)] ++ [(2, _)]⟩ _
    repeat (first | refine AwOps.nil ?_ | refine AwSch.nil ?_ | refine Aw.seq ?_ | refine Aw.region ?_ | refine Aw.block ?_ | refine Aw.skip ?_ | refine Aw.exit ?_ | refine Aw.condT rfl ?_ | refine Aw.condF rfl ?_)
    refine AwOps.v hT rfl ?_
    refine AwOps.v hT rfl ?_
    repeat (first | refine AwOps.nil ?_ | refine AwSch.nil ?_ | refine Aw.seq ?_ | refine Aw.region ?_ | refine Aw.block ?_ | refine Aw.skip ?_ | refine Aw.exit ?_ | refine Aw.condT rfl ?_ | refine Aw.condF rfl ?_)
    refine Aw.tst rfl (fun hb12 => ?_) (fun hb12 => ?_)
    · skip
      have hk : 0 < k4 := by simpa using hb12
      repeat (first | refine AwOps.nil ?_ | refine AwSch.nil ?_ | refine Aw.seq ?_ | refine Aw.region ?_ | refine Aw.block ?_ | refine Aw.skip ?_ | refine Aw.exit ?_ | refine Aw.condT rfl ?_ | refine Aw.condF rfl ?_)
      refine AwOps.v hT rfl ?_
      repeat (first | refine AwOps.nil ?_ | refine AwSch.nil ?_ | refine Aw.seq ?_ | refine Aw.region ?_ | refine Aw.block ?_ | refine Aw.skip ?_ | refine Aw.exit ?_ | refine Aw.condT rfl ?_ | refine Aw.condF rfl ?_)
      refine AwOps.v hT rfl ?_
      refine AwOps.cl (F10 _ _ (by first | omega | (simp only [w64] at *; omega) | (simp [w64] at *; omega)) (by first | omega | (simp only [w64] at *; omega) | (simp [w64] at *; omega))) [1000] rfl ⟨⟨1000, rfl, rfl⟩, ⟨rfl, rfl⟩, trivial⟩ ⟨rfl, trivial⟩ rfl ?_   -- certpathmade.Deck).Next
      rintro _ _ ⟨v2, d2, rfl, rfl, hv2, hw2⟩
      refine AwOps.v hT rfl ?_
      first | refine AwOps.nmq 17 rfl (by omega) (by omega) (by omega) ?_ | skip
      refine AwOps.v hT rfl ?_
      first | refine AwOps.nm 18 rfl (by omega) (by omega) ?_ | skip
      refine AwOps.v hT rfl ?_
      repeat (first | refine AwOps.nil ?_ | refine AwSch.nil ?_ | refine Aw.seq ?_ | refine Aw.region ?_ | refine Aw.block ?_ | refine Aw.skip ?_ | refine Aw.exit ?_ | refine Aw.condT rfl ?_ | refine Aw.condF rfl ?_)
      refine Aw.turn (Tn.own 5 905 95 3 rfl (by decide) (by decide) rfl) ?_
      refine Aw.lp (ι := List (Attr) × Int × Dk) (n := 48) [(0, _), (2, _), (3, _), (4, _)] [(2, _), (3, _), (930, _)] (fun g => [(5, .one (.own 905 g.1.length)), (6, sc (.int .i64 g.2.1))]) (fun g => [(905, .row 95 3 true (List.map eAttr g.1)), (1000, .box ⟨59, eDk g.2.2, []⟩)]) (fun g => 0 ≤ g.2.1 ∧ g.2.1 + g.1.length ≤ 2 ∧ okR g.1) (fun g => g.2.1.toNat) ([], _, _) ?ok2 (Less.tn ⟨rfl, ⟨rfl, rfl, rfl, rfl, rfl, rfl, trivial⟩, ⟨rfl, rfl, rfl, rfl, rfl, trivial⟩⟩) ?bd2
      case ok2 =>
        try dsimp only
        exact ⟨by first | omega | (simp only [w64] at *; omega) | (simp [w64] at *; omega), by simp only [List.length_nil]; first | omega | (simp only [w64] at *; omega) | (simp [w64] at *; omega), fun a h => (by cases h)⟩
      case bd2 =>
        rintro ⟨l5, k6, x1000⟩ hi2
        try dsimp only at hi2
        show Aw _ _ _ ⟨48, [(5, .one (.own 905 l5.length)), (6, sc (.int .i64 k6))] ++ [(0, _), (2, _), (3, _), (4, _)], [(905, .row 95 3 true (List.map eAttr l5)), (1000, .box ⟨59, eDk x1000, []⟩)] ++ [(2, _), (3, _), (930, _)]⟩ _
        repeat (first | refine AwOps.nil ?_ | refine AwSch.nil ?_ | refine Aw.seq ?_ | refine Aw.region ?_ | refine Aw.block ?_ | refine Aw.skip ?_ | refine Aw.exit ?_ | refine Aw.condT rfl ?_ | refine Aw.condF rfl ?_)
        refine AwOps.v hT rfl ?_
        refine AwOps.v hT rfl ?_
        repeat (first | refine AwOps.nil ?_ | refine AwSch.nil ?_ | refine Aw.seq ?_ | refine Aw.region ?_ | refine Aw.block ?_ | refine Aw.skip ?_ | refine Aw.exit ?_ | refine Aw.condT rfl ?_ | refine Aw.condF rfl ?_)
        refine Aw.tst rfl (fun hb20 => ?_) (fun hb20 => ?_)
        · skip
          have hk2 : 0 < k6 := by simpa using hb20
          repeat (first | refine AwOps.nil ?_ | refine AwSch.nil ?_ | refine Aw.seq ?_ | refine Aw.region ?_ | refine Aw.block ?_ | refine Aw.skip ?_ | refine Aw.exit ?_ | refine Aw.condT rfl ?_ | refine Aw.condF rfl ?_)
          refine AwOps.v hT rfl ?_
          refine AwOps.cl (F81 _) [1000] rfl ⟨⟨1000, rfl, rfl⟩, trivial⟩ ⟨rfl, trivial⟩ rfl ?_   -- certpathmade.attribute
          rintro _ _ ⟨a3, d3, rfl, rfl, ha3⟩
          refine AwOps.eff hT rfl ?_
          refine AwOps.eff hT rfl ?_
          repeat (first | refine AwOps.nil ?_ | refine AwSch.nil ?_ | refine Aw.seq ?_ | refine Aw.region ?_ | refine Aw.block ?_ | refine Aw.skip ?_ | refine Aw.exit ?_ | refine Aw.condT rfl ?_ | refine Aw.condF rfl ?_)
          refine Aw.regionS [] [(true, 0), (true, 1), (true, 2), (true, 3), (true, 4), (true, 5), (true, 6), (true, 7), (true, 8), (true, 9), (true, 10), (true, 11)] (by kernel_rfl) (by kernel_rfl) ?_
          iterate 4 refine AwSch.take (Yd.val hT rfl rfl) ?_
          refine AwSch.split (t := 28) rfl (fun hb28 => ?_) (fun hb28 => ?_)
          · skip
            iterate 8 refine AwSch.take (Yd.val hT rfl rfl) ?_
            repeat (first | refine AwOps.nil ?_ | refine AwSch.nil ?_ | refine Aw.seq ?_ | refine Aw.region ?_ | refine Aw.block ?_ | refine Aw.skip ?_ | refine Aw.exit ?_ | refine Aw.condT rfl ?_ | refine Aw.condF rfl ?_)
            refine AwOps.v hT rfl ?_
            refine AwOps.v hT rfl ?_
            refine AwOps.lit hT rfl ?_
            refine AwOps.turn (Tn.fz 39 rfl rfl (by first | rfl | (simp; done)) rfl) ?_
            refine AwOps.turn (Less.say (t := 39) (B := .one (.p (.sl (List.map eAttr [⟨_, _, _⟩])))) rfl rfl) ?_
            refine AwOps.appm  hT rfl rfl rfl rfl rfl (fun _ => rfl) (by simp only [List.length_cons, List.length_nil]; omega) ?_
            refine AwOps.v hT rfl ?_
            repeat (first | refine AwOps.nil ?_ | refine AwSch.nil ?_ | refine Aw.seq ?_ | refine Aw.region ?_ | refine Aw.block ?_ | refine Aw.skip ?_ | refine Aw.exit ?_ | refine Aw.condT rfl ?_ | refine Aw.condF rfl ?_)
            refine AwOps.v hT rfl ?_
            refine AwOps.v hT rfl ?_
            first | refine AwOps.nm 22 rfl (by omega) (by omega) ?_ | skip
            refine AwOps.v hT rfl ?_
            repeat (first | refine AwOps.nil ?_ | refine AwSch.nil ?_ | refine Aw.seq ?_ | refine Aw.region ?_ | refine Aw.block ?_ | refine Aw.skip ?_ | refine Aw.exit ?_ | refine Aw.condT rfl ?_ | refine Aw.condF rfl ?_)
            refine ⟨(_, _, _), ?nx2, ?mu2, Tn.trans (Less.tn (τ := ⟨48, [(5, _), (6, _), (0, _), (2, _), (3, _), (4, _)], [(40, _), (1000, _), (2, _), (3, _), (930, _)]⟩) ⟨rfl, ⟨rfl, rfl, rfl, rfl, rfl, rfl, trivial⟩, ⟨rfl, rfl, rfl, rfl, rfl, trivial⟩⟩) (Tn.trans (Tn.ren 40 905 rfl rfl rfl) (Less.tn ⟨rfl, ⟨rfl, rfl, rfl, rfl, rfl, rfl, trivial⟩, ⟨rfl, rfl, rfl, rfl, rfl, trivial⟩⟩))⟩
            case nx2 =>
              try dsimp only
              first
                | exact ⟨by first | omega | (simp only [w64] at *; omega) | (simp [w64] at *; omega), by first | omega | (simp only [w64] at *; omega) | (simp [w64] at *; omega), hi2.2.2⟩
                | refine ⟨by first | omega | (simp only [w64] at *; omega) | (simp [w64] at *; omega), by simp only [List.length_append, List.length_cons, List.length_nil]; first | omega | (simp only [w64] at *; omega) | (simp [w64] at *; omega), fun s h => ?_⟩
                  rcases List.mem_append.1 h with h | h
                  · exact hi2.2.2 s h
                  · rw [List.mem_singleton.1 h]; exact attrL_ok _ (by assumption)
            case mu2 =>
              try dsimp only
              first | omega | (simp only [w64] at *; omega) | (simp [w64] at *; omega)
          · skip
            have hne : 0 < l5.length := by have := beq_eq_false_iff_ne.1 hb28; omega
            refine AwSch.take (Yd.val hT rfl rfl) ?_
            refine AwSch.take (Yd.idxo hT rfl rfl (by omega) hne) ?_
            refine AwSch.take (Yd.fao hT rfl rfl (by first | omega | (simp only [List.length_cons, List.length_nil, List.length_map]; omega) | (simp only [List.length_cons, List.length_nil, List.length_map, w64] at *; omega) | (simp [w64] at *; omega))) ?_
            refine AwSch.take (Yd.ldo hT rfl rfl (eAttr l5[0]) (by simp [hne]) rfl (by decide)) ?_
            iterate 4 refine AwSch.take (Yd.val hT rfl rfl) ?_
            repeat (first | refine AwOps.nil ?_ | refine AwSch.nil ?_ | refine Aw.seq ?_ | refine Aw.region ?_ | refine Aw.block ?_ | refine Aw.skip ?_ | refine Aw.exit ?_ | refine Aw.condT rfl ?_ | refine Aw.condF rfl ?_)
            refine Aw.tst rfl (fun hb36 => ?_) (fun hb36 => ?_)
            · skip
              repeat (first | refine AwOps.nil ?_ | refine AwSch.nil ?_ | refine Aw.seq ?_ | refine Aw.region ?_ | refine Aw.block ?_ | refine Aw.skip ?_ | refine Aw.exit ?_ | refine Aw.condT rfl ?_ | refine Aw.condF rfl ?_)
              refine AwOps.v hT rfl ?_
              refine AwOps.v hT rfl ?_
              refine AwOps.lit hT rfl ?_
              refine AwOps.turn (Tn.fz 39 rfl rfl (by first | rfl | (simp; done)) rfl) ?_
              refine AwOps.turn (Less.say (t := 39) (B := .one (.p (.sl (List.map eAttr [⟨_, _, _⟩])))) rfl rfl) ?_
              refine AwOps.appm  hT rfl rfl rfl rfl rfl (fun _ => rfl) (by simp only [List.length_cons, List.length_nil]; omega) ?_
              refine AwOps.v hT rfl ?_
              repeat (first | refine AwOps.nil ?_ | refine AwSch.nil ?_ | refine Aw.seq ?_ | refine Aw.region ?_ | refine Aw.block ?_ | refine Aw.skip ?_ | refine Aw.exit ?_ | refine Aw.condT rfl ?_ | refine Aw.condF rfl ?_)
              refine AwOps.v hT rfl ?_
              refine AwOps.v hT rfl ?_
              first | refine AwOps.nm 22 rfl (by omega) (by omega) ?_ | skip
              refine AwOps.v hT rfl ?_
              repeat (first | refine AwOps.nil ?_ | refine AwSch.nil ?_ | refine Aw.seq ?_ | refine Aw.region ?_ | refine Aw.block ?_ | refine Aw.skip ?_ | refine Aw.exit ?_ | refine Aw.condT rfl ?_ | refine Aw.condF rfl ?_)
              refine ⟨(_, _, _), ?nx2, ?mu2, Tn.trans (Less.tn (τ := ⟨48, [(5, _), (6, _), (0, _), (2, _), (3, _), (4, _)], [(40, _), (1000, _), (2, _), (3, _), (930, _)]⟩) ⟨rfl, ⟨rfl, rfl, rfl, rfl, rfl, rfl, trivial⟩, ⟨rfl, rfl, rfl, rfl, rfl, trivial⟩⟩) (Tn.trans (Tn.ren 40 905 rfl rfl rfl) (Less.tn ⟨rfl, ⟨rfl, rfl, rfl, rfl, rfl, rfl, trivial⟩, ⟨rfl, rfl, rfl, rfl, rfl, trivial⟩⟩))⟩
              case nx2 =>
                try dsimp only
                first
                  | exact ⟨by first | omega | (simp only [w64] at *; omega) | (simp [w64] at *; omega), by first | omega | (simp only [w64] at *; omega) | (simp [w64] at *; omega), hi2.2.2⟩
                  | refine ⟨by first | omega | (simp only [w64] at *; omega) | (simp [w64] at *; omega), by simp only [List.length_append, List.length_cons, List.length_nil]; first | omega | (simp only [w64] at *; omega) | (simp [w64] at *; omega), fun s h => ?_⟩
                    rcases List.mem_append.1 h with h | h
                    · exact hi2.2.2 s h
                    · rw [List.mem_singleton.1 h]; exact attrL_ok _ (by assumption)
              case mu2 =>
                try dsimp only
                first | omega | (simp only [w64] at *; omega) | (simp [w64] at *; omega)
            · skip
              repeat (first | refine AwOps.nil ?_ | refine AwSch.nil ?_ | refine Aw.seq ?_ | refine Aw.region ?_ | refine Aw.block ?_ | refine Aw.skip ?_ | refine Aw.exit ?_ | refine Aw.condT rfl ?_ | refine Aw.condF rfl ?_)
              refine AwOps.v hT rfl ?_
              refine AwOps.v hT rfl ?_
              first | refine AwOps.nm 22 rfl (by omega) (by omega) ?_ | skip
              refine AwOps.v hT rfl ?_
              repeat (first | refine AwOps.nil ?_ | refine AwSch.nil ?_ | refine Aw.seq ?_ | refine Aw.region ?_ | refine Aw.block ?_ | refine Aw.skip ?_ | refine Aw.exit ?_ | refine Aw.condT rfl ?_ | refine Aw.condF rfl ?_)
              refine ⟨(_, _, _), ?nx2, ?mu2, Less.tn ⟨rfl, ⟨rfl, rfl, rfl, rfl, rfl, rfl, trivial⟩, ⟨rfl, rfl, rfl, rfl, rfl, trivial⟩⟩⟩
              case nx2 =>
                try dsimp only
                first
                  | exact ⟨by first | omega | (simp only [w64] at *; omega) | (simp [w64] at *; omega), by first | omega | (simp only [w64] at *; omega) | (simp [w64] at *; omega), hi2.2.2⟩
                  | refine ⟨by first | omega | (simp only [w64] at *; omega) | (simp [w64] at *; omega), by simp only [List.length_append, List.length_cons, List.length_nil]; first | omega | (simp only [w64] at *; omega) | (simp [w64] at *; omega), fun s h => ?_⟩
                    rcases List.mem_append.1 h with h | h
                    · exact hi2.2.2 s h
                    · rw [List.mem_singleton.1 h]; exact attrL_ok _ (by assumption)
              case mu2 =>
                try dsimp only
                first | omega | (simp only [w64] at *; omega) | (simp [w64] at *; omega)
        · skip
          repeat (first | refine AwOps.nil ?_ | refine AwSch.nil ?_ | refine Aw.seq ?_ | refine Aw.region ?_ | refine Aw.block ?_ | refine Aw.skip ?_ | refine Aw.exit ?_ | refine Aw.condT rfl ?_ | refine Aw.condF rfl ?_)
          iterate 3 refine AwOps.v hT rfl ?_
          refine AwOps.turn (Tn.fz2 43 5 rfl rfl rfl (by first | rfl | (simp; done)) (by first | rfl | (simp; done)) rfl) ?_
          refine AwOps.lit hT rfl ?_
          refine AwOps.turn (Tn.fz 44 rfl rfl (by first | rfl | (simp; done)) rfl) ?_
          refine AwOps.turn (Less.say (t := 44) (B := .one (.p (.sl (List.map eRdn [_])))) rfl rfl) ?_
          refine AwOps.appm  hT rfl rfl rfl rfl rfl (fun _ => rfl) (by simp only [List.length_cons, List.length_nil]; omega) ?_
          refine AwOps.v hT rfl ?_
          refine AwOps.eff hT rfl ?_
          repeat (first | refine AwOps.nil ?_ | refine AwSch.nil ?_ | refine Aw.seq ?_ | refine Aw.region ?_ | refine Aw.block ?_ | refine Aw.skip ?_ | refine Aw.exit ?_ | refine Aw.condT rfl ?_ | refine Aw.condF rfl ?_)
          refine AwOps.v hT rfl ?_
          refine AwOps.v hT rfl ?_
          first | refine AwOps.nm 14 rfl (by omega) (by omega) ?_ | skip
          refine AwOps.v hT rfl ?_
          repeat (first | refine AwOps.nil ?_ | refine AwSch.nil ?_ | refine Aw.seq ?_ | refine Aw.region ?_ | refine Aw.block ?_ | refine Aw.skip ?_ | refine Aw.exit ?_ | refine Aw.condT rfl ?_ | refine Aw.condF rfl ?_)
          refine ⟨(_, _, _), ?nx1, ?mu1, Tn.trans (Less.tn (τ := ⟨48, [(4, _), (0, _), (2, _), (3, _)], [(3, _), (45, _), (1000, _), (2, _)]⟩) ⟨rfl, ⟨rfl, rfl, rfl, rfl, trivial⟩, ⟨rfl, rfl, rfl, rfl, trivial⟩⟩) (Tn.trans (Tn.ren 45 930 rfl rfl rfl) (Less.tn ⟨rfl, ⟨rfl, rfl, rfl, rfl, trivial⟩, ⟨rfl, rfl, rfl, rfl, trivial⟩⟩))⟩
          case nx1 =>
            try dsimp only
            exact ⟨by first | omega | (simp only [w64] at *; omega) | (simp [w64] at *; omega), by simp only [List.length_append, List.length_cons, List.length_nil]; first | omega | (simp only [w64] at *; omega) | (simp [w64] at *; omega), okNm_snoc hi1.2.2 (by omega) (by omega) hi2.2.2⟩
          case mu1 =>
            try dsimp only
            first | omega | (simp only [w64] at *; omega) | (simp [w64] at *; omega)
    · skip
      repeat (first | refine AwOps.nil ?_ | refine AwSch.nil ?_ | refine Aw.seq ?_ | refine Aw.region ?_ | refine Aw.block ?_ | refine Aw.skip ?_ | refine Aw.exit ?_ | refine Aw.condT rfl ?_ | refine Aw.condF rfl ?_)
      refine AwOps.turn (Tn.freezeC 3 0 rfl rfl rfl (by first | rfl | (simp; done)) rfl rfl) ?_
      refine AwOps.v hT rfl ?_
      refine AwOps.eff hT rfl ?_
      repeat (first | refine AwOps.nil ?_ | refine AwSch.nil ?_ | refine Aw.seq ?_ | refine Aw.region ?_ | refine Aw.block ?_ | refine Aw.skip ?_ | refine Aw.exit ?_ | refine Aw.condT rfl ?_ | refine Aw.condF rfl ?_)
      refine Aw.ret ?_
      refine ⟨_, [_], rfl, ⟨rfl, trivial⟩, ?_⟩
      exact ⟨_, _, rfl, rfl, hi1.2.2, by omega⟩
def okSL (l : List ByteArray) : Prop := (l.all fun x => Nat.ble x.size 100) = true
theorem okS_at {l : List ByteArray} (h : okSL l) {i : Nat} (hi : i < l.length) : okS l[i] := okS_of (n := 100) (List.getElem_mem hi) h (by decide)
-- f37 certpath/certpathmade.General
theorem F37 (d : Dk) : Fn Tryz.prog 11 [.ptr 0 0] [(59, eDk d)] (fun r H' => ∃ (x : Gn) (d' : Dk), r = .agg (eGn x) ∧ H' = [eDk d'] ∧ okG x) := by
  refine Fn.intro (rs := [.cell 2 54]) hT Tryz.func11 (by kernel_rfl) rfl rfl rfl rfl fun C => ?_
  repeat (first | refine AwOps.nil ?_ | refine AwSch.nil ?_ | refine Aw.seq ?_ | refine Aw.region ?_ | refine Aw.block ?_ | refine Aw.skip ?_ | refine Aw.exit ?_ | refine Aw.condT rfl ?_ | refine Aw.condF rfl ?_)
  refine AwOps.eff hT rfl ?_
  repeat (first | refine AwOps.nil ?_ | refine AwSch.nil ?_ | refine Aw.seq ?_ | refine Aw.region ?_ | refine Aw.block ?_ | refine Aw.skip ?_ | refine Aw.exit ?_ | refine Aw.condT rfl ?_ | refine Aw.condF rfl ?_)
  refine AwOps.v hT rfl ?_
  refine AwOps.cl (F10 _ _ (by first | omega | (simp only [w64] at *; omega) | (simp [w64] at *; omega)) (by first | omega | (simp only [w64] at *; omega) | (simp [w64] at *; omega))) [1000] rfl ⟨⟨1000, rfl, rfl⟩, ⟨rfl, rfl⟩, trivial⟩ ⟨rfl, trivial⟩ rfl ?_   -- certpathmade.Deck).Next
  rintro _ _ ⟨v1, d1, rfl, rfl, hv1, hw1⟩
  repeat (first | refine AwOps.nil ?_ | refine AwSch.nil ?_ | refine Aw.seq ?_ | refine Aw.region ?_ | refine Aw.block ?_ | refine Aw.skip ?_ | refine Aw.exit ?_ | refine Aw.condT rfl ?_ | refine Aw.condF rfl ?_)
  refine AwOps.v hT rfl ?_
  refine AwOps.v hT rfl ?_
  repeat (first | refine AwOps.nil ?_ | refine AwSch.nil ?_ | refine Aw.seq ?_ | refine Aw.region ?_ | refine Aw.block ?_ | refine Aw.skip ?_ | refine Aw.exit ?_ | refine Aw.condT rfl ?_ | refine Aw.condF rfl ?_)
  refine Aw.tst rfl (fun hb5 => ?_) (fun hb5 => ?_)
  · skip
    repeat (first | refine AwOps.nil ?_ | refine AwSch.nil ?_ | refine Aw.seq ?_ | refine Aw.region ?_ | refine Aw.block ?_ | refine Aw.skip ?_ | refine Aw.exit ?_ | refine Aw.condT rfl ?_ | refine Aw.condF rfl ?_)
    refine AwOps.lit hT rfl ?_
    refine AwOps.turn (Tn.fz 7 rfl rfl (by first | rfl | (simp; done)) rfl) ?_
    refine AwOps.turn (Less.say (t := 7) (B := .one (.p (.sl (List.map eStr [_, _, _, _, _, _])))) rfl rfl) ?_
    refine AwOps.v hT rfl ?_
    refine AwOps.cl (F10 _ _ (by first | omega | (simp only [w64] at *; omega) | (simp [w64] at *; omega)) (by first | omega | (simp only [w64] at *; omega) | (simp [w64] at *; omega))) [1000] rfl ⟨⟨1000, rfl, rfl⟩, ⟨rfl, rfl⟩, trivial⟩ ⟨rfl, trivial⟩ rfl ?_   -- certpathmade.Deck).Next
    rintro _ _ ⟨v2, d2, rfl, rfl, hv2, hw2⟩
    refine AwOps.imI hT rfl (by first | omega | (simp only [w64] at *; omega) | (simp [w64] at *; omega)) (by first | omega | (simp only [List.length_cons, List.length_nil, List.length_map]; omega) | (simp only [List.length_cons, List.length_nil, List.length_map, w64] at *; omega) | (simp [w64] at *; omega)) rfl ?_
    refine AwOps.v hT rfl ?_
    refine AwOps.build hT rfl ?_
    refine AwOps.turn (Less.say (t := 12) (B := .agg [_, _, .sl (List.map eRdn [])]) rfl rfl) ?_
    refine AwOps.eff hT rfl ?_
    repeat (first | refine AwOps.nil ?_ | refine AwSch.nil ?_ | refine Aw.seq ?_ | refine Aw.region ?_ | refine Aw.block ?_ | refine Aw.skip ?_ | refine Aw.exit ?_ | refine Aw.condT rfl ?_ | refine Aw.condF rfl ?_)
    refine Aw.ret ?_
    refine ⟨_, [_], rfl, ⟨rfl, trivial⟩, ?_⟩
    refine ⟨⟨1, _, []⟩, _, rfl, rfl, ?_, okNm_nil⟩
    exact okS_at (by exact rfl) _
  · skip
    repeat (first | refine AwOps.nil ?_ | refine AwSch.nil ?_ | refine Aw.seq ?_ | refine Aw.region ?_ | refine Aw.block ?_ | refine Aw.skip ?_ | refine Aw.exit ?_ | refine Aw.condT rfl ?_ | refine Aw.condF rfl ?_)
    refine AwOps.v hT rfl ?_
    refine AwOps.v hT rfl ?_
    repeat (first | refine AwOps.nil ?_ | refine AwSch.nil ?_ | refine Aw.seq ?_ | refine Aw.region ?_ | refine Aw.block ?_ | refine Aw.skip ?_ | refine Aw.exit ?_ | refine Aw.condT rfl ?_ | refine Aw.condF rfl ?_)
    refine Aw.tst rfl (fun hb13 => ?_) (fun hb13 => ?_)
    · skip
      repeat (first | refine AwOps.nil ?_ | refine AwSch.nil ?_ | refine Aw.seq ?_ | refine Aw.region ?_ | refine Aw.block ?_ | refine Aw.skip ?_ | refine Aw.exit ?_ | refine Aw.condT rfl ?_ | refine Aw.condF rfl ?_)
      refine AwOps.lit hT rfl ?_
      refine AwOps.turn (Tn.fz 15 rfl rfl (by first | rfl | (simp; done)) rfl) ?_
      refine AwOps.turn (Less.say (t := 15) (B := .one (.p (.sl (List.map eStr [_, _, _, _, _, _, _])))) rfl rfl) ?_
      refine AwOps.v hT rfl ?_
      refine AwOps.cl (F10 _ _ (by first | omega | (simp only [w64] at *; omega) | (simp [w64] at *; omega)) (by first | omega | (simp only [w64] at *; omega) | (simp [w64] at *; omega))) [1000] rfl ⟨⟨1000, rfl, rfl⟩, ⟨rfl, rfl⟩, trivial⟩ ⟨rfl, trivial⟩ rfl ?_   -- certpathmade.Deck).Next
      rintro _ _ ⟨v3, d3, rfl, rfl, hv3, hw3⟩
      refine AwOps.imI hT rfl (by first | omega | (simp only [w64] at *; omega) | (simp [w64] at *; omega)) (by first | omega | (simp only [List.length_cons, List.length_nil, List.length_map]; omega) | (simp only [List.length_cons, List.length_nil, List.length_map, w64] at *; omega) | (simp [w64] at *; omega)) rfl ?_
      refine AwOps.v hT rfl ?_
      refine AwOps.build hT rfl ?_
      refine AwOps.turn (Less.say (t := 20) (B := .agg [_, _, .sl (List.map eRdn [])]) rfl rfl) ?_
      refine AwOps.eff hT rfl ?_
      repeat (first | refine AwOps.nil ?_ | refine AwSch.nil ?_ | refine Aw.seq ?_ | refine Aw.region ?_ | refine Aw.block ?_ | refine Aw.skip ?_ | refine Aw.exit ?_ | refine Aw.condT rfl ?_ | refine Aw.condF rfl ?_)
      refine Aw.ret ?_
      refine ⟨_, [_], rfl, ⟨rfl, trivial⟩, ?_⟩
      refine ⟨⟨2, _, []⟩, _, rfl, rfl, ?_, okNm_nil⟩
      exact okS_at (by exact rfl) _
    · skip
      repeat (first | refine AwOps.nil ?_ | refine AwSch.nil ?_ | refine Aw.seq ?_ | refine Aw.region ?_ | refine Aw.block ?_ | refine Aw.skip ?_ | refine Aw.exit ?_ | refine Aw.condT rfl ?_ | refine Aw.condF rfl ?_)
      refine AwOps.v hT rfl ?_
      refine AwOps.v hT rfl ?_
      repeat (first | refine AwOps.nil ?_ | refine AwSch.nil ?_ | refine Aw.seq ?_ | refine Aw.region ?_ | refine Aw.block ?_ | refine Aw.skip ?_ | refine Aw.exit ?_ | refine Aw.condT rfl ?_ | refine Aw.condF rfl ?_)
      refine Aw.tst rfl (fun hb21 => ?_) (fun hb21 => ?_)
      · skip
        repeat (first | refine AwOps.nil ?_ | refine AwSch.nil ?_ | refine Aw.seq ?_ | refine Aw.region ?_ | refine Aw.block ?_ | refine Aw.skip ?_ | refine Aw.exit ?_ | refine Aw.condT rfl ?_ | refine Aw.condF rfl ?_)
        refine AwOps.lit hT rfl ?_
        refine AwOps.turn (Tn.fz 23 rfl rfl (by first | rfl | (simp; done)) rfl) ?_
        refine AwOps.turn (Less.say (t := 23) (B := .one (.p (.sl (List.map eStr [_, _, _, _])))) rfl rfl) ?_
        refine AwOps.v hT rfl ?_
        refine AwOps.cl (F10 _ _ (by first | omega | (simp only [w64] at *; omega) | (simp [w64] at *; omega)) (by first | omega | (simp only [w64] at *; omega) | (simp [w64] at *; omega))) [1000] rfl ⟨⟨1000, rfl, rfl⟩, ⟨rfl, rfl⟩, trivial⟩ ⟨rfl, trivial⟩ rfl ?_   -- certpathmade.Deck).Next
        rintro _ _ ⟨v4, d4, rfl, rfl, hv4, hw4⟩
        refine AwOps.imI hT rfl (by first | omega | (simp only [w64] at *; omega) | (simp [w64] at *; omega)) (by first | omega | (simp only [List.length_cons, List.length_nil, List.length_map]; omega) | (simp only [List.length_cons, List.length_nil, List.length_map, w64] at *; omega) | (simp [w64] at *; omega)) rfl ?_
        refine AwOps.v hT rfl ?_
        refine AwOps.build hT rfl ?_
        refine AwOps.turn (Less.say (t := 28) (B := .agg [_, _, .sl (List.map eRdn [])]) rfl rfl) ?_
        refine AwOps.eff hT rfl ?_
        repeat (first | refine AwOps.nil ?_ | refine AwSch.nil ?_ | refine Aw.seq ?_ | refine Aw.region ?_ | refine Aw.block ?_ | refine Aw.skip ?_ | refine Aw.exit ?_ | refine Aw.condT rfl ?_ | refine Aw.condF rfl ?_)
        refine Aw.ret ?_
        refine ⟨_, [_], rfl, ⟨rfl, trivial⟩, ?_⟩
        refine ⟨⟨7, _, []⟩, _, rfl, rfl, ?_, okNm_nil⟩
        exact okS_at (by exact rfl) _
      · skip
        repeat (first | refine AwOps.nil ?_ | refine AwSch.nil ?_ | refine Aw.seq ?_ | refine Aw.region ?_ | refine Aw.block ?_ | refine Aw.skip ?_ | refine Aw.exit ?_ | refine Aw.condT rfl ?_ | refine Aw.condF rfl ?_)
        refine AwOps.v hT rfl ?_
        refine AwOps.cl (F64 _) [1000] rfl ⟨⟨1000, rfl, rfl⟩, trivial⟩ ⟨rfl, trivial⟩ rfl ?_   -- certpathmade.Name
        rintro _ _ ⟨n5, d5, rfl, rfl, hn5⟩
        refine AwOps.build hT rfl ?_
        refine AwOps.turn (Less.say (t := 31) (B := .agg [_, .v (.string ⟨#[]⟩), _]) rfl rfl) ?_
        refine AwOps.eff hT rfl ?_
        repeat (first | refine AwOps.nil ?_ | refine AwSch.nil ?_ | refine Aw.seq ?_ | refine Aw.region ?_ | refine Aw.block ?_ | refine Aw.skip ?_ | refine Aw.exit ?_ | refine Aw.condT rfl ?_ | refine Aw.condF rfl ?_)
        refine Aw.ret ?_
        refine ⟨_, [_], rfl, ⟨rfl, trivial⟩, ?_⟩
        exact ⟨⟨4, ⟨#[]⟩, _⟩, _, rfl, rfl, by simp [okS, ByteArray.size], (by first | exact hn5.1 | exact hn2.1 | exact hn3.1 | exact hn4.1 | exact hn6.1)⟩
-- f67 certpath/certpathmade.Base
theorem F67 (d : Dk) : Fn Tryz.prog 36 [.ptr 0 0] [(59, eDk d)] (fun r H' => ∃ (x : Gn) (d' : Dk), r = .agg (eGn x) ∧ H' = [eDk d'] ∧ okG x) := by
  refine Fn.intro (rs := [.cell 2 54]) hT Tryz.func36 (by kernel_rfl) rfl rfl rfl rfl fun C => ?_
  repeat (first | refine AwOps.nil ?_ | refine AwSch.nil ?_ | refine Aw.seq ?_ | refine Aw.region ?_ | refine Aw.block ?_ | refine Aw.skip ?_ | refine Aw.exit ?_ | refine Aw.condT rfl ?_ | refine Aw.condF rfl ?_)
  refine AwOps.eff hT rfl ?_
  repeat (first | refine AwOps.nil ?_ | refine AwSch.nil ?_ | refine Aw.seq ?_ | refine Aw.region ?_ | refine Aw.block ?_ | refine Aw.skip ?_ | refine Aw.exit ?_ | refine Aw.condT rfl ?_ | refine Aw.condF rfl ?_)
  refine AwOps.v hT rfl ?_
  refine AwOps.cl (F10 _ _ (by first | omega | (simp only [w64] at *; omega) | (simp [w64] at *; omega)) (by first | omega | (simp only [w64] at *; omega) | (simp [w64] at *; omega))) [1000] rfl ⟨⟨1000, rfl, rfl⟩, ⟨rfl, rfl⟩, trivial⟩ ⟨rfl, trivial⟩ rfl ?_   -- certpathmade.Deck).Next
  rintro _ _ ⟨v1, d1, rfl, rfl, hv1, hw1⟩
  repeat (first | refine AwOps.nil ?_ | refine AwSch.nil ?_ | refine Aw.seq ?_ | refine Aw.region ?_ | refine Aw.block ?_ | refine Aw.skip ?_ | refine Aw.exit ?_ | refine Aw.condT rfl ?_ | refine Aw.condF rfl ?_)
  refine AwOps.v hT rfl ?_
  refine AwOps.v hT rfl ?_
  repeat (first | refine AwOps.nil ?_ | refine AwSch.nil ?_ | refine Aw.seq ?_ | refine Aw.region ?_ | refine Aw.block ?_ | refine Aw.skip ?_ | refine Aw.exit ?_ | refine Aw.condT rfl ?_ | refine Aw.condF rfl ?_)
  refine Aw.tst rfl (fun hb5 => ?_) (fun hb5 => ?_)
  · skip
    repeat (first | refine AwOps.nil ?_ | refine AwSch.nil ?_ | refine Aw.seq ?_ | refine Aw.region ?_ | refine Aw.block ?_ | refine Aw.skip ?_ | refine Aw.exit ?_ | refine Aw.condT rfl ?_ | refine Aw.condF rfl ?_)
    refine AwOps.lit hT rfl ?_
    refine AwOps.turn (Tn.fz 7 rfl rfl (by first | rfl | (simp; done)) rfl) ?_
    refine AwOps.turn (Less.say (t := 7) (B := .one (.p (.sl (List.map eStr [_, _, _, _, _, _, _])))) rfl rfl) ?_
    refine AwOps.v hT rfl ?_
    refine AwOps.cl (F10 _ _ (by first | omega | (simp only [w64] at *; omega) | (simp [w64] at *; omega)) (by first | omega | (simp only [w64] at *; omega) | (simp [w64] at *; omega))) [1000] rfl ⟨⟨1000, rfl, rfl⟩, ⟨rfl, rfl⟩, trivial⟩ ⟨rfl, trivial⟩ rfl ?_   -- certpathmade.Deck).Next
    rintro _ _ ⟨v2, d2, rfl, rfl, hv2, hw2⟩
    refine AwOps.imI hT rfl (by first | omega | (simp only [w64] at *; omega) | (simp [w64] at *; omega)) (by first | omega | (simp only [List.length_cons, List.length_nil, List.length_map]; omega) | (simp only [List.length_cons, List.length_nil, List.length_map, w64] at *; omega) | (simp [w64] at *; omega)) rfl ?_
    refine AwOps.v hT rfl ?_
    refine AwOps.build hT rfl ?_
    refine AwOps.turn (Less.say (t := 12) (B := .agg [_, _, .sl (List.map eRdn [])]) rfl rfl) ?_
    refine AwOps.eff hT rfl ?_
    repeat (first | refine AwOps.nil ?_ | refine AwSch.nil ?_ | refine Aw.seq ?_ | refine Aw.region ?_ | refine Aw.block ?_ | refine Aw.skip ?_ | refine Aw.exit ?_ | refine Aw.condT rfl ?_ | refine Aw.condF rfl ?_)
    refine Aw.ret ?_
    refine ⟨_, [_], rfl, ⟨rfl, trivial⟩, ?_⟩
    refine ⟨⟨1, _, []⟩, _, rfl, rfl, ?_, okNm_nil⟩
    exact okS_at (by exact rfl) _
  · skip
    repeat (first | refine AwOps.nil ?_ | refine AwSch.nil ?_ | refine Aw.seq ?_ | refine Aw.region ?_ | refine Aw.block ?_ | refine Aw.skip ?_ | refine Aw.exit ?_ | refine Aw.condT rfl ?_ | refine Aw.condF rfl ?_)
    refine AwOps.v hT rfl ?_
    refine AwOps.v hT rfl ?_
    repeat (first | refine AwOps.nil ?_ | refine AwSch.nil ?_ | refine Aw.seq ?_ | refine Aw.region ?_ | refine Aw.block ?_ | refine Aw.skip ?_ | refine Aw.exit ?_ | refine Aw.condT rfl ?_ | refine Aw.condF rfl ?_)
    refine Aw.tst rfl (fun hb13 => ?_) (fun hb13 => ?_)
    · skip
      repeat (first | refine AwOps.nil ?_ | refine AwSch.nil ?_ | refine Aw.seq ?_ | refine Aw.region ?_ | refine Aw.block ?_ | refine Aw.skip ?_ | refine Aw.exit ?_ | refine Aw.condT rfl ?_ | refine Aw.condF rfl ?_)
      refine AwOps.lit hT rfl ?_
      refine AwOps.turn (Tn.fz 15 rfl rfl (by first | rfl | (simp; done)) rfl) ?_
      refine AwOps.turn (Less.say (t := 15) (B := .one (.p (.sl (List.map eStr [_, _, _, _, _, _, _])))) rfl rfl) ?_
      refine AwOps.v hT rfl ?_
      refine AwOps.cl (F10 _ _ (by first | omega | (simp only [w64] at *; omega) | (simp [w64] at *; omega)) (by first | omega | (simp only [w64] at *; omega) | (simp [w64] at *; omega))) [1000] rfl ⟨⟨1000, rfl, rfl⟩, ⟨rfl, rfl⟩, trivial⟩ ⟨rfl, trivial⟩ rfl ?_   -- certpathmade.Deck).Next
      rintro _ _ ⟨v3, d3, rfl, rfl, hv3, hw3⟩
      refine AwOps.imI hT rfl (by first | omega | (simp only [w64] at *; omega) | (simp [w64] at *; omega)) (by first | omega | (simp only [List.length_cons, List.length_nil, List.length_map]; omega) | (simp only [List.length_cons, List.length_nil, List.length_map, w64] at *; omega) | (simp [w64] at *; omega)) rfl ?_
      refine AwOps.v hT rfl ?_
      refine AwOps.build hT rfl ?_
      refine AwOps.turn (Less.say (t := 20) (B := .agg [_, _, .sl (List.map eRdn [])]) rfl rfl) ?_
      refine AwOps.eff hT rfl ?_
      repeat (first | refine AwOps.nil ?_ | refine AwSch.nil ?_ | refine Aw.seq ?_ | refine Aw.region ?_ | refine Aw.block ?_ | refine Aw.skip ?_ | refine Aw.exit ?_ | refine Aw.condT rfl ?_ | refine Aw.condF rfl ?_)
      refine Aw.ret ?_
      refine ⟨_, [_], rfl, ⟨rfl, trivial⟩, ?_⟩
      refine ⟨⟨2, _, []⟩, _, rfl, rfl, ?_, okNm_nil⟩
      exact okS_at (by exact rfl) _
    · skip
      repeat (first | refine AwOps.nil ?_ | refine AwSch.nil ?_ | refine Aw.seq ?_ | refine Aw.region ?_ | refine Aw.block ?_ | refine Aw.skip ?_ | refine Aw.exit ?_ | refine Aw.condT rfl ?_ | refine Aw.condF rfl ?_)
      refine AwOps.v hT rfl ?_
      refine AwOps.v hT rfl ?_
      repeat (first | refine AwOps.nil ?_ | refine AwSch.nil ?_ | refine Aw.seq ?_ | refine Aw.region ?_ | refine Aw.block ?_ | refine Aw.skip ?_ | refine Aw.exit ?_ | refine Aw.condT rfl ?_ | refine Aw.condF rfl ?_)
      refine Aw.tst rfl (fun hb21 => ?_) (fun hb21 => ?_)
      · skip
        repeat (first | refine AwOps.nil ?_ | refine AwSch.nil ?_ | refine Aw.seq ?_ | refine Aw.region ?_ | refine Aw.block ?_ | refine Aw.skip ?_ | refine Aw.exit ?_ | refine Aw.condT rfl ?_ | refine Aw.condF rfl ?_)
        refine AwOps.lit hT rfl ?_
        refine AwOps.turn (Tn.fz 23 rfl rfl (by first | rfl | (simp; done)) rfl) ?_
        refine AwOps.turn (Less.say (t := 23) (B := .one (.p (.sl (List.map eStr [_, _, _, _, _])))) rfl rfl) ?_
        refine AwOps.v hT rfl ?_
        refine AwOps.cl (F10 _ _ (by first | omega | (simp only [w64] at *; omega) | (simp [w64] at *; omega)) (by first | omega | (simp only [w64] at *; omega) | (simp [w64] at *; omega))) [1000] rfl ⟨⟨1000, rfl, rfl⟩, ⟨rfl, rfl⟩, trivial⟩ ⟨rfl, trivial⟩ rfl ?_   -- certpathmade.Deck).Next
        rintro _ _ ⟨v4, d4, rfl, rfl, hv4, hw4⟩
        refine AwOps.imI hT rfl (by first | omega | (simp only [w64] at *; omega) | (simp [w64] at *; omega)) (by first | omega | (simp only [List.length_cons, List.length_nil, List.length_map]; omega) | (simp only [List.length_cons, List.length_nil, List.length_map, w64] at *; omega) | (simp [w64] at *; omega)) rfl ?_
        refine AwOps.v hT rfl ?_
        refine AwOps.build hT rfl ?_
        refine AwOps.turn (Less.say (t := 28) (B := .agg [_, _, .sl (List.map eRdn [])]) rfl rfl) ?_
        refine AwOps.eff hT rfl ?_
        repeat (first | refine AwOps.nil ?_ | refine AwSch.nil ?_ | refine Aw.seq ?_ | refine Aw.region ?_ | refine Aw.block ?_ | refine Aw.skip ?_ | refine Aw.exit ?_ | refine Aw.condT rfl ?_ | refine Aw.condF rfl ?_)
        refine Aw.ret ?_
        refine ⟨_, [_], rfl, ⟨rfl, trivial⟩, ?_⟩
        refine ⟨⟨7, _, []⟩, _, rfl, rfl, ?_, okNm_nil⟩
        exact okS_at (by exact rfl) _
      · skip
        repeat (first | refine AwOps.nil ?_ | refine AwSch.nil ?_ | refine Aw.seq ?_ | refine Aw.region ?_ | refine Aw.block ?_ | refine Aw.skip ?_ | refine Aw.exit ?_ | refine Aw.condT rfl ?_ | refine Aw.condF rfl ?_)
        refine AwOps.v hT rfl ?_
        refine AwOps.cl (F64 _) [1000] rfl ⟨⟨1000, rfl, rfl⟩, trivial⟩ ⟨rfl, trivial⟩ rfl ?_   -- certpathmade.Name
        rintro _ _ ⟨n5, d5, rfl, rfl, hn5⟩
        refine AwOps.build hT rfl ?_
        refine AwOps.turn (Less.say (t := 31) (B := .agg [_, .v (.string ⟨#[]⟩), _]) rfl rfl) ?_
        refine AwOps.eff hT rfl ?_
        repeat (first | refine AwOps.nil ?_ | refine AwSch.nil ?_ | refine Aw.seq ?_ | refine Aw.region ?_ | refine Aw.block ?_ | refine Aw.skip ?_ | refine Aw.exit ?_ | refine Aw.condT rfl ?_ | refine Aw.condF rfl ?_)
        refine Aw.ret ?_
        refine ⟨_, [_], rfl, ⟨rfl, trivial⟩, ?_⟩
        exact ⟨⟨4, ⟨#[]⟩, _⟩, _, rfl, rfl, by simp [okS, ByteArray.size], (by first | exact hn5.1 | exact hn2.1 | exact hn3.1 | exact hn4.1 | exact hn6.1)⟩
theorem okGs_snoc {l : List Gn} {g : Gn} (h : okGs l) (hl : l.length ≤ 900) (hg : okG g) : okGs (l ++ [g]) := ⟨by simp; omega, fun x hx => by
  rcases List.mem_append.1 hx with hx | hx
  · exact h.2 x hx
  · rw [List.mem_singleton.1 hx]; exact hg⟩
-- f42 certpath/certpathmade.Subtrees
theorem F42 (d : Dk) : Fn Tryz.prog 14 [.ptr 0 0] [(59, eDk d)] (fun r H' => ∃ (x : Sub) (d' : Dk), r = .agg (eSub x) ∧ H' = [eDk d'] ∧ okSub x ∧ x.p.length ≤ 4 ∧ x.x.length ≤ 4) := by
  refine Fn.intro (rs := [.cell 2 40]) hT Tryz.func14 (by kernel_rfl) rfl rfl rfl rfl fun C => ?_
  repeat (first | refine AwOps.nil ?_ | refine AwSch.nil ?_ | refine Aw.seq ?_ | refine Aw.region ?_ | refine Aw.block ?_ | refine Aw.skip ?_ | refine Aw.exit ?_ | refine Aw.condT rfl ?_ | refine Aw.condF rfl ?_)
  refine AwOps.eff hT rfl ?_
  repeat (first | refine AwOps.nil ?_ | refine AwSch.nil ?_ | refine Aw.seq ?_ | refine Aw.region ?_ | refine Aw.block ?_ | refine Aw.skip ?_ | refine Aw.exit ?_ | refine Aw.condT rfl ?_ | refine Aw.condF rfl ?_)
  refine AwOps.buildZ hT rfl ?_
  refine AwOps.eff hT rfl ?_
  refine AwOps.stoM hT rfl ?_
  repeat (first | refine AwOps.nil ?_ | refine AwSch.nil ?_ | refine Aw.seq ?_ | refine Aw.region ?_ | refine Aw.block ?_ | refine Aw.skip ?_ | refine Aw.exit ?_ | refine Aw.condT rfl ?_ | refine Aw.condF rfl ?_)
  refine AwOps.v hT rfl ?_
  refine AwOps.cl (F10 _ _ (by first | omega | (simp only [w64] at *; omega) | (simp [w64] at *; omega)) (by first | omega | (simp only [w64] at *; omega) | (simp [w64] at *; omega))) [1000] rfl ⟨⟨1000, rfl, rfl⟩, ⟨rfl, rfl⟩, trivial⟩ ⟨rfl, trivial⟩ rfl ?_   -- certpathmade.Deck).Next
  rintro _ _ ⟨v1, d1, rfl, rfl, hv1, hw1⟩
  refine AwOps.v hT rfl ?_
  repeat (first | refine AwOps.nil ?_ | refine AwSch.nil ?_ | refine Aw.seq ?_ | refine Aw.region ?_ | refine Aw.block ?_ | refine Aw.skip ?_ | refine Aw.exit ?_ | refine Aw.condT rfl ?_ | refine Aw.condF rfl ?_)
  refine Aw.turn (Tn.ownC 3 0 930 54 3 rfl rfl (by decide) (by decide) rfl rfl) ?_
  refine Aw.lp (ι := Int × List (Gn) × Dk) (n := 51) [(0, _), (2, _), (3, _)] [(2, _)] (fun g => [(4, sc (.int .i64 g.1))]) (fun g => [(3, .box ⟨40, [.sl [], .sl []], [(0, .own 930 g.2.1.length), (1, .nil)]⟩), (930, .row 54 3 true (List.map eGn g.2.1)), (1000, .box ⟨59, eDk g.2.2, []⟩)]) (fun g => 0 ≤ g.1 ∧ g.1 + g.2.1.length ≤ 3 ∧ okGs g.2.1) (fun g => g.1.toNat) (_, [], _) ?ok1 (Less.tn ⟨rfl, ⟨rfl, rfl, rfl, rfl, trivial⟩, ⟨rfl, rfl, rfl, rfl, trivial⟩⟩) ?bd1
  case ok1 =>
    try dsimp only
    exact ⟨by first | omega | (simp only [w64] at *; omega) | (simp [w64] at *; omega), by simp only [List.length_nil]; first | omega | (simp only [w64] at *; omega) | (simp [w64] at *; omega), okGs_nil⟩
  case bd1 =>
    rintro ⟨k4, l930, x1000⟩ hi1
    try dsimp only at hi1
    show Aw _ _ _ ⟨51, [(4, sc (.int .i64 k4))] ++ [(0, _), (2, _), (3, _)], [(3, .box ⟨40, [.sl [], .sl []], [(0, .own 930 l930.length), (1, .nil)]⟩), (930, .row 54 3 true (List.map eGn l930)), (1000, .box ⟨59, eDk x1000, []⟩)] ++ [(2, _)]⟩ _
    repeat (first | refine AwOps.nil ?_ | refine AwSch.nil ?_ | refine Aw.seq ?_ | refine Aw.region ?_ | refine Aw.block ?_ | refine Aw.skip ?_ | refine Aw.exit ?_ | refine Aw.condT rfl ?_ | refine Aw.condF rfl ?_)
    refine AwOps.v hT rfl ?_
    refine AwOps.v hT rfl ?_
    repeat (first | refine AwOps.nil ?_ | refine AwSch.nil ?_ | refine Aw.seq ?_ | refine Aw.region ?_ | refine Aw.block ?_ | refine Aw.skip ?_ | refine Aw.exit ?_ | refine Aw.condT rfl ?_ | refine Aw.condF rfl ?_)
    refine Aw.tst rfl (fun hb10 => ?_) (fun hb10 => ?_)
    · skip
      have hk : 0 < k4 := by simpa using hb10
      repeat (first | refine AwOps.nil ?_ | refine AwSch.nil ?_ | refine Aw.seq ?_ | refine Aw.region ?_ | refine Aw.block ?_ | refine Aw.skip ?_ | refine Aw.exit ?_ | refine Aw.condT rfl ?_ | refine Aw.condF rfl ?_)
      refine Aw.regionAny [3, 930, 1000] (by kernel_rfl) ?_
      refine AwAny.tk (i := 0) (Yd.val hT rfl rfl) (by kernel_rfl) ?_
      refine AwAny.tk (i := 2) (Yd.val hT rfl rfl) (by kernel_rfl) ?_
      refine AwAny.two (i := 1) (j := 3) (by kernel_rfl) ?_ ?_
      · skip
        refine Yd.ed (Yd.val hT rfl rfl) ?_
        refine AwAny.one (i := 3) (by kernel_rfl) ?_
        refine Ed.cl (F67 _) [1000] rfl ⟨⟨1000, rfl, rfl⟩, trivial⟩ ⟨rfl, trivial⟩ rfl rfl ?_   -- certpathmade.Base
        rintro _ _ ⟨g2, d2, rfl, rfl, hg2⟩
        refine AwAny.one (i := 4) (by kernel_rfl) ?_
        refine Ed.lit hT rfl ?_
        refine AwAny.freeze 17 rfl rfl (by first | rfl | (simp; done)) rfl ?_
        refine AwAny.say (t := 17) (B := .one (.p (.sl (List.map eGn [⟨_, _, _⟩])))) rfl rfl ?_
        refine AwAny.one (i := 5) (by kernel_rfl) ?_
        refine Ed.appm  hT rfl rfl rfl rfl rfl (fun _ => rfl) (by simp only [List.length_cons, List.length_nil]; omega) (by intro b hb; cases hb <;> decide) ?_
        refine AwAny.tk (i := 6) (Yd.val hT rfl rfl) (by kernel_rfl) ?_
        refine AwAny.one (i := 7) (by kernel_rfl) ?_
        refine Ed.eff hT rfl (fun b hb => by injection hb with hb; subst hb; decide) ?_
        refine AwAny.done (by kernel_rfl) ?_
        repeat (first | refine AwOps.nil ?_ | refine AwSch.nil ?_ | refine Aw.seq ?_ | refine Aw.region ?_ | refine Aw.block ?_ | refine Aw.skip ?_ | refine Aw.exit ?_ | refine Aw.condT rfl ?_ | refine Aw.condF rfl ?_)
        refine AwOps.v hT rfl ?_
        refine AwOps.v hT rfl ?_
        first | refine AwOps.nm 12 rfl (by omega) (by omega) ?_ | skip
        refine AwOps.v hT rfl ?_
        repeat (first | refine AwOps.nil ?_ | refine AwSch.nil ?_ | refine Aw.seq ?_ | refine Aw.region ?_ | refine Aw.block ?_ | refine Aw.skip ?_ | refine Aw.exit ?_ | refine Aw.condT rfl ?_ | refine Aw.condF rfl ?_)
        refine ⟨(_, _, _), ?nx1, ?mu1, Tn.trans (Less.tn (τ := ⟨51, [(4, _), (0, _), (2, _), (3, _)], [(3, _), (18, _), (1000, _), (2, _)]⟩) ⟨rfl, ⟨rfl, rfl, rfl, rfl, trivial⟩, ⟨rfl, rfl, rfl, rfl, trivial⟩⟩) (Tn.trans (Tn.ren 18 930 rfl rfl rfl) (Less.tn ⟨rfl, ⟨rfl, rfl, rfl, rfl, trivial⟩, ⟨rfl, rfl, rfl, rfl, trivial⟩⟩))⟩
        case nx1 =>
          try dsimp only
          exact ⟨by first | omega | (simp only [w64] at *; omega) | (simp [w64] at *; omega), by simp only [List.length_append, List.length_cons, List.length_nil]; first | omega | (simp only [w64] at *; omega) | (simp [w64] at *; omega), okGs_snoc hi1.2.2 (by omega) (by assumption)⟩
        case mu1 =>
          try dsimp only
          first | omega | (simp only [w64] at *; omega) | (simp [w64] at *; omega)
      · skip
        refine Ed.cl (F67 _) [1000] rfl ⟨⟨1000, rfl, rfl⟩, trivial⟩ ⟨rfl, trivial⟩ rfl rfl ?_   -- certpathmade.Base
        rintro _ _ ⟨g3, d3, rfl, rfl, hg3⟩
        refine AwAny.two (i := 1) (j := 4) (by kernel_rfl) ?_ ?_
        · skip
          refine Yd.ed (Yd.val hT rfl rfl) ?_
          refine AwAny.one (i := 4) (by kernel_rfl) ?_
          refine Ed.lit hT rfl ?_
          refine AwAny.freeze 17 rfl rfl (by first | rfl | (simp; done)) rfl ?_
          refine AwAny.say (t := 17) (B := .one (.p (.sl (List.map eGn [⟨_, _, _⟩])))) rfl rfl ?_
          refine AwAny.one (i := 5) (by kernel_rfl) ?_
          refine Ed.appm  hT rfl rfl rfl rfl rfl (fun _ => rfl) (by simp only [List.length_cons, List.length_nil]; omega) (by intro b hb; cases hb <;> decide) ?_
          refine AwAny.tk (i := 6) (Yd.val hT rfl rfl) (by kernel_rfl) ?_
          refine AwAny.one (i := 7) (by kernel_rfl) ?_
          refine Ed.eff hT rfl (fun b hb => by injection hb with hb; subst hb; decide) ?_
          refine AwAny.done (by kernel_rfl) ?_
          repeat (first | refine AwOps.nil ?_ | refine AwSch.nil ?_ | refine Aw.seq ?_ | refine Aw.region ?_ | refine Aw.block ?_ | refine Aw.skip ?_ | refine Aw.exit ?_ | refine Aw.condT rfl ?_ | refine Aw.condF rfl ?_)
          refine AwOps.v hT rfl ?_
          refine AwOps.v hT rfl ?_
          first | refine AwOps.nm 12 rfl (by omega) (by omega) ?_ | skip
          refine AwOps.v hT rfl ?_
          repeat (first | refine AwOps.nil ?_ | refine AwSch.nil ?_ | refine Aw.seq ?_ | refine Aw.region ?_ | refine Aw.block ?_ | refine Aw.skip ?_ | refine Aw.exit ?_ | refine Aw.condT rfl ?_ | refine Aw.condF rfl ?_)
          refine ⟨(_, _, _), ?nx1, ?mu1, Tn.trans (Less.tn (τ := ⟨51, [(4, _), (0, _), (2, _), (3, _)], [(3, _), (18, _), (1000, _), (2, _)]⟩) ⟨rfl, ⟨rfl, rfl, rfl, rfl, trivial⟩, ⟨rfl, rfl, rfl, rfl, trivial⟩⟩) (Tn.trans (Tn.ren 18 930 rfl rfl rfl) (Less.tn ⟨rfl, ⟨rfl, rfl, rfl, rfl, trivial⟩, ⟨rfl, rfl, rfl, rfl, trivial⟩⟩))⟩
          case nx1 =>
            try dsimp only
            exact ⟨by first | omega | (simp only [w64] at *; omega) | (simp [w64] at *; omega), by simp only [List.length_append, List.length_cons, List.length_nil]; first | omega | (simp only [w64] at *; omega) | (simp [w64] at *; omega), okGs_snoc hi1.2.2 (by omega) (by assumption)⟩
          case mu1 =>
            try dsimp only
            first | omega | (simp only [w64] at *; omega) | (simp [w64] at *; omega)
        · skip
          refine Ed.lit hT rfl ?_
          refine AwAny.freeze 17 rfl rfl (by first | rfl | (simp; done)) rfl ?_
          refine AwAny.say (t := 17) (B := .one (.p (.sl (List.map eGn [⟨_, _, _⟩])))) rfl rfl ?_
          refine AwAny.one (i := 1) (by kernel_rfl) ?_
          refine Yd.ed (Yd.val hT rfl rfl) ?_
          refine AwAny.one (i := 5) (by kernel_rfl) ?_
          refine Ed.appm  hT rfl rfl rfl rfl rfl (fun _ => rfl) (by simp only [List.length_cons, List.length_nil]; omega) (by intro b hb; cases hb <;> decide) ?_
          refine AwAny.tk (i := 6) (Yd.val hT rfl rfl) (by kernel_rfl) ?_
          refine AwAny.one (i := 7) (by kernel_rfl) ?_
          refine Ed.eff hT rfl (fun b hb => by injection hb with hb; subst hb; decide) ?_
          refine AwAny.done (by kernel_rfl) ?_
          repeat (first | refine AwOps.nil ?_ | refine AwSch.nil ?_ | refine Aw.seq ?_ | refine Aw.region ?_ | refine Aw.block ?_ | refine Aw.skip ?_ | refine Aw.exit ?_ | refine Aw.condT rfl ?_ | refine Aw.condF rfl ?_)
          refine AwOps.v hT rfl ?_
          refine AwOps.v hT rfl ?_
          first | refine AwOps.nm 12 rfl (by omega) (by omega) ?_ | skip
          refine AwOps.v hT rfl ?_
          repeat (first | refine AwOps.nil ?_ | refine AwSch.nil ?_ | refine Aw.seq ?_ | refine Aw.region ?_ | refine Aw.block ?_ | refine Aw.skip ?_ | refine Aw.exit ?_ | refine Aw.condT rfl ?_ | refine Aw.condF rfl ?_)
          refine ⟨(_, _, _), ?nx1, ?mu1, Tn.trans (Less.tn (τ := ⟨51, [(4, _), (0, _), (2, _), (3, _)], [(3, _), (18, _), (1000, _), (2, _)]⟩) ⟨rfl, ⟨rfl, rfl, rfl, rfl, trivial⟩, ⟨rfl, rfl, rfl, rfl, trivial⟩⟩) (Tn.trans (Tn.ren 18 930 rfl rfl rfl) (Less.tn ⟨rfl, ⟨rfl, rfl, rfl, rfl, trivial⟩, ⟨rfl, rfl, rfl, rfl, trivial⟩⟩))⟩
          case nx1 =>
            try dsimp only
            exact ⟨by first | omega | (simp only [w64] at *; omega) | (simp [w64] at *; omega), by simp only [List.length_append, List.length_cons, List.length_nil]; first | omega | (simp only [w64] at *; omega) | (simp [w64] at *; omega), okGs_snoc hi1.2.2 (by omega) (by assumption)⟩
          case mu1 =>
            try dsimp only
            first | omega | (simp only [w64] at *; omega) | (simp [w64] at *; omega)
    · skip
      repeat (first | refine AwOps.nil ?_ | refine AwSch.nil ?_ | refine Aw.seq ?_ | refine Aw.region ?_ | refine Aw.block ?_ | refine Aw.skip ?_ | refine Aw.exit ?_ | refine Aw.condT rfl ?_ | refine Aw.condF rfl ?_)
      refine AwOps.v hT rfl ?_
      refine AwOps.cl (F10 _ _ (by first | omega | (simp only [w64] at *; omega) | (simp [w64] at *; omega)) (by first | omega | (simp only [w64] at *; omega) | (simp [w64] at *; omega))) [1000] rfl ⟨⟨1000, rfl, rfl⟩, ⟨rfl, rfl⟩, trivial⟩ ⟨rfl, trivial⟩ rfl ?_   -- certpathmade.Deck).Next
      rintro _ _ ⟨v4, d4, rfl, rfl, hv4, hw4⟩
      refine AwOps.v hT rfl ?_
      repeat (first | refine AwOps.nil ?_ | refine AwSch.nil ?_ | refine Aw.seq ?_ | refine Aw.region ?_ | refine Aw.block ?_ | refine Aw.skip ?_ | refine Aw.exit ?_ | refine Aw.condT rfl ?_ | refine Aw.condF rfl ?_)
      refine Aw.turn (Tn.freezeC 3 0 rfl rfl rfl (by first | rfl | (simp; done)) rfl rfl) ?_
      repeat (first | refine AwOps.nil ?_ | refine AwSch.nil ?_ | refine Aw.seq ?_ | refine Aw.region ?_ | refine Aw.block ?_ | refine Aw.skip ?_ | refine Aw.exit ?_ | refine Aw.condT rfl ?_ | refine Aw.condF rfl ?_)
      refine Aw.turn (Tn.ownC 3 1 931 54 3 rfl rfl (by decide) (by decide) rfl rfl) ?_
      refine Aw.lp (ι := Int × List (Gn) × Dk) (n := 51) [(0, _), (2, _), (3, _)] [(2, _)] (fun g => [(5, sc (.int .i64 g.1))]) (fun g => [(3, .box ⟨40, [.sl (List.map eGn l930), .sl []], [(1, .own 931 g.2.1.length)]⟩), (931, .row 54 3 true (List.map eGn g.2.1)), (1000, .box ⟨59, eDk g.2.2, []⟩)]) (fun g => 0 ≤ g.1 ∧ g.1 + g.2.1.length ≤ 2 ∧ okGs g.2.1) (fun g => g.1.toNat) (_, [], _) ?ok2 (Less.tn ⟨rfl, ⟨rfl, rfl, rfl, rfl, trivial⟩, ⟨rfl, rfl, rfl, rfl, trivial⟩⟩) ?bd2
      case ok2 =>
        try dsimp only
        exact ⟨by first | omega | (simp only [w64] at *; omega) | (simp [w64] at *; omega), by simp only [List.length_nil]; first | omega | (simp only [w64] at *; omega) | (simp [w64] at *; omega), okGs_nil⟩
      case bd2 =>
        rintro ⟨k5, l931, x1000⟩ hi2
        try dsimp only at hi2
        show Aw _ _ _ ⟨51, [(5, sc (.int .i64 k5))] ++ [(0, _), (2, _), (3, _)], [(3, .box ⟨40, [.sl (List.map eGn l930), .sl []], [(1, .own 931 l931.length)]⟩), (931, .row 54 3 true (List.map eGn l931)), (1000, .box ⟨59, eDk x1000, []⟩)] ++ [(2, _)]⟩ _
        repeat (first | refine AwOps.nil ?_ | refine AwSch.nil ?_ | refine Aw.seq ?_ | refine Aw.region ?_ | refine Aw.block ?_ | refine Aw.skip ?_ | refine Aw.exit ?_ | refine Aw.condT rfl ?_ | refine Aw.condF rfl ?_)
        refine AwOps.v hT rfl ?_
        refine AwOps.v hT rfl ?_
        repeat (first | refine AwOps.nil ?_ | refine AwSch.nil ?_ | refine Aw.seq ?_ | refine Aw.region ?_ | refine Aw.block ?_ | refine Aw.skip ?_ | refine Aw.exit ?_ | refine Aw.condT rfl ?_ | refine Aw.condF rfl ?_)
        refine Aw.tst rfl (fun hb23 => ?_) (fun hb23 => ?_)
        · skip
          have hk : 0 < k5 := by simpa using hb23
          repeat (first | refine AwOps.nil ?_ | refine AwSch.nil ?_ | refine Aw.seq ?_ | refine Aw.region ?_ | refine Aw.block ?_ | refine Aw.skip ?_ | refine Aw.exit ?_ | refine Aw.condT rfl ?_ | refine Aw.condF rfl ?_)
          refine Aw.regionAny [3, 931, 1000] (by kernel_rfl) ?_
          refine AwAny.tk (i := 0) (Yd.val hT rfl rfl) (by kernel_rfl) ?_
          refine AwAny.tk (i := 2) (Yd.val hT rfl rfl) (by kernel_rfl) ?_
          refine AwAny.two (i := 1) (j := 3) (by kernel_rfl) ?_ ?_
          · skip
            refine Yd.ed (Yd.val hT rfl rfl) ?_
            refine AwAny.one (i := 3) (by kernel_rfl) ?_
            refine Ed.cl (F67 _) [1000] rfl ⟨⟨1000, rfl, rfl⟩, trivial⟩ ⟨rfl, trivial⟩ rfl rfl ?_   -- certpathmade.Base
            rintro _ _ ⟨g5, d5, rfl, rfl, hg5⟩
            refine AwAny.one (i := 4) (by kernel_rfl) ?_
            refine Ed.lit hT rfl ?_
            refine AwAny.freeze 30 rfl rfl (by first | rfl | (simp; done)) rfl ?_
            refine AwAny.say (t := 30) (B := .one (.p (.sl (List.map eGn [⟨_, _, _⟩])))) rfl rfl ?_
            refine AwAny.one (i := 5) (by kernel_rfl) ?_
            refine Ed.appm  hT rfl rfl rfl rfl rfl (fun _ => rfl) (by simp only [List.length_cons, List.length_nil]; omega) (by intro b hb; cases hb <;> decide) ?_
            refine AwAny.tk (i := 6) (Yd.val hT rfl rfl) (by kernel_rfl) ?_
            refine AwAny.one (i := 7) (by kernel_rfl) ?_
            refine Ed.eff hT rfl (fun b hb => by injection hb with hb; subst hb; decide) ?_
            refine AwAny.done (by kernel_rfl) ?_
            repeat (first | refine AwOps.nil ?_ | refine AwSch.nil ?_ | refine Aw.seq ?_ | refine Aw.region ?_ | refine Aw.block ?_ | refine Aw.skip ?_ | refine Aw.exit ?_ | refine Aw.condT rfl ?_ | refine Aw.condF rfl ?_)
            refine AwOps.v hT rfl ?_
            refine AwOps.v hT rfl ?_
            first | refine AwOps.nm 25 rfl (by omega) (by omega) ?_ | skip
            refine AwOps.v hT rfl ?_
            repeat (first | refine AwOps.nil ?_ | refine AwSch.nil ?_ | refine Aw.seq ?_ | refine Aw.region ?_ | refine Aw.block ?_ | refine Aw.skip ?_ | refine Aw.exit ?_ | refine Aw.condT rfl ?_ | refine Aw.condF rfl ?_)
            refine ⟨(_, _, _), ?nx2, ?mu2, Tn.trans (Less.tn (τ := ⟨51, [(5, _), (0, _), (2, _), (3, _)], [(3, _), (31, _), (1000, _), (2, _)]⟩) ⟨rfl, ⟨rfl, rfl, rfl, rfl, trivial⟩, ⟨rfl, rfl, rfl, rfl, trivial⟩⟩) (Tn.trans (Tn.ren 31 931 rfl rfl rfl) (Less.tn ⟨rfl, ⟨rfl, rfl, rfl, rfl, trivial⟩, ⟨rfl, rfl, rfl, rfl, trivial⟩⟩))⟩
            case nx2 =>
              try dsimp only
              exact ⟨by first | omega | (simp only [w64] at *; omega) | (simp [w64] at *; omega), by simp only [List.length_append, List.length_cons, List.length_nil]; first | omega | (simp only [w64] at *; omega) | (simp [w64] at *; omega), okGs_snoc hi2.2.2 (by omega) (by assumption)⟩
            case mu2 =>
              try dsimp only
              first | omega | (simp only [w64] at *; omega) | (simp [w64] at *; omega)
          · skip
            refine Ed.cl (F67 _) [1000] rfl ⟨⟨1000, rfl, rfl⟩, trivial⟩ ⟨rfl, trivial⟩ rfl rfl ?_   -- certpathmade.Base
            rintro _ _ ⟨g6, d6, rfl, rfl, hg6⟩
            refine AwAny.two (i := 1) (j := 4) (by kernel_rfl) ?_ ?_
            · skip
              refine Yd.ed (Yd.val hT rfl rfl) ?_
              refine AwAny.one (i := 4) (by kernel_rfl) ?_
              refine Ed.lit hT rfl ?_
              refine AwAny.freeze 30 rfl rfl (by first | rfl | (simp; done)) rfl ?_
              refine AwAny.say (t := 30) (B := .one (.p (.sl (List.map eGn [⟨_, _, _⟩])))) rfl rfl ?_
              refine AwAny.one (i := 5) (by kernel_rfl) ?_
              refine Ed.appm  hT rfl rfl rfl rfl rfl (fun _ => rfl) (by simp only [List.length_cons, List.length_nil]; omega) (by intro b hb; cases hb <;> decide) ?_
              refine AwAny.tk (i := 6) (Yd.val hT rfl rfl) (by kernel_rfl) ?_
              refine AwAny.one (i := 7) (by kernel_rfl) ?_
              refine Ed.eff hT rfl (fun b hb => by injection hb with hb; subst hb; decide) ?_
              refine AwAny.done (by kernel_rfl) ?_
              repeat (first | refine AwOps.nil ?_ | refine AwSch.nil ?_ | refine Aw.seq ?_ | refine Aw.region ?_ | refine Aw.block ?_ | refine Aw.skip ?_ | refine Aw.exit ?_ | refine Aw.condT rfl ?_ | refine Aw.condF rfl ?_)
              refine AwOps.v hT rfl ?_
              refine AwOps.v hT rfl ?_
              first | refine AwOps.nm 25 rfl (by omega) (by omega) ?_ | skip
              refine AwOps.v hT rfl ?_
              repeat (first | refine AwOps.nil ?_ | refine AwSch.nil ?_ | refine Aw.seq ?_ | refine Aw.region ?_ | refine Aw.block ?_ | refine Aw.skip ?_ | refine Aw.exit ?_ | refine Aw.condT rfl ?_ | refine Aw.condF rfl ?_)
              refine ⟨(_, _, _), ?nx2, ?mu2, Tn.trans (Less.tn (τ := ⟨51, [(5, _), (0, _), (2, _), (3, _)], [(3, _), (31, _), (1000, _), (2, _)]⟩) ⟨rfl, ⟨rfl, rfl, rfl, rfl, trivial⟩, ⟨rfl, rfl, rfl, rfl, trivial⟩⟩) (Tn.trans (Tn.ren 31 931 rfl rfl rfl) (Less.tn ⟨rfl, ⟨rfl, rfl, rfl, rfl, trivial⟩, ⟨rfl, rfl, rfl, rfl, trivial⟩⟩))⟩
              case nx2 =>
                try dsimp only
                exact ⟨by first | omega | (simp only [w64] at *; omega) | (simp [w64] at *; omega), by simp only [List.length_append, List.length_cons, List.length_nil]; first | omega | (simp only [w64] at *; omega) | (simp [w64] at *; omega), okGs_snoc hi2.2.2 (by omega) (by assumption)⟩
              case mu2 =>
                try dsimp only
                first | omega | (simp only [w64] at *; omega) | (simp [w64] at *; omega)
            · skip
              refine Ed.lit hT rfl ?_
              refine AwAny.freeze 30 rfl rfl (by first | rfl | (simp; done)) rfl ?_
              refine AwAny.say (t := 30) (B := .one (.p (.sl (List.map eGn [⟨_, _, _⟩])))) rfl rfl ?_
              refine AwAny.one (i := 1) (by kernel_rfl) ?_
              refine Yd.ed (Yd.val hT rfl rfl) ?_
              refine AwAny.one (i := 5) (by kernel_rfl) ?_
              refine Ed.appm  hT rfl rfl rfl rfl rfl (fun _ => rfl) (by simp only [List.length_cons, List.length_nil]; omega) (by intro b hb; cases hb <;> decide) ?_
              refine AwAny.tk (i := 6) (Yd.val hT rfl rfl) (by kernel_rfl) ?_
              refine AwAny.one (i := 7) (by kernel_rfl) ?_
              refine Ed.eff hT rfl (fun b hb => by injection hb with hb; subst hb; decide) ?_
              refine AwAny.done (by kernel_rfl) ?_
              repeat (first | refine AwOps.nil ?_ | refine AwSch.nil ?_ | refine Aw.seq ?_ | refine Aw.region ?_ | refine Aw.block ?_ | refine Aw.skip ?_ | refine Aw.exit ?_ | refine Aw.condT rfl ?_ | refine Aw.condF rfl ?_)
              refine AwOps.v hT rfl ?_
              refine AwOps.v hT rfl ?_
              first | refine AwOps.nm 25 rfl (by omega) (by omega) ?_ | skip
              refine AwOps.v hT rfl ?_
              repeat (first | refine AwOps.nil ?_ | refine AwSch.nil ?_ | refine Aw.seq ?_ | refine Aw.region ?_ | refine Aw.block ?_ | refine Aw.skip ?_ | refine Aw.exit ?_ | refine Aw.condT rfl ?_ | refine Aw.condF rfl ?_)
              refine ⟨(_, _, _), ?nx2, ?mu2, Tn.trans (Less.tn (τ := ⟨51, [(5, _), (0, _), (2, _), (3, _)], [(3, _), (31, _), (1000, _), (2, _)]⟩) ⟨rfl, ⟨rfl, rfl, rfl, rfl, trivial⟩, ⟨rfl, rfl, rfl, rfl, trivial⟩⟩) (Tn.trans (Tn.ren 31 931 rfl rfl rfl) (Less.tn ⟨rfl, ⟨rfl, rfl, rfl, rfl, trivial⟩, ⟨rfl, rfl, rfl, rfl, trivial⟩⟩))⟩
              case nx2 =>
                try dsimp only
                exact ⟨by first | omega | (simp only [w64] at *; omega) | (simp [w64] at *; omega), by simp only [List.length_append, List.length_cons, List.length_nil]; first | omega | (simp only [w64] at *; omega) | (simp [w64] at *; omega), okGs_snoc hi2.2.2 (by omega) (by assumption)⟩
              case mu2 =>
                try dsimp only
                first | omega | (simp only [w64] at *; omega) | (simp [w64] at *; omega)
        · skip
          repeat (first | refine AwOps.nil ?_ | refine AwSch.nil ?_ | refine Aw.seq ?_ | refine Aw.region ?_ | refine Aw.block ?_ | refine Aw.skip ?_ | refine Aw.exit ?_ | refine Aw.condT rfl ?_ | refine Aw.condF rfl ?_)
          iterate 5 refine AwOps.v hT rfl ?_
          refine AwOps.split (t := 37) rfl (fun hb37 => ?_) (fun hb37 => ?_)
          · skip
            iterate 5 refine AwOps.v hT rfl ?_
            repeat (first | refine AwOps.nil ?_ | refine AwSch.nil ?_ | refine Aw.seq ?_ | refine Aw.region ?_ | refine Aw.block ?_ | refine Aw.skip ?_ | refine Aw.exit ?_ | refine Aw.condT rfl ?_ | refine Aw.condF rfl ?_)
            refine Aw.tst rfl (fun hb42 => ?_) (fun hb42 => ?_)
            · skip
              repeat (first | refine AwOps.nil ?_ | refine AwSch.nil ?_ | refine Aw.seq ?_ | refine Aw.region ?_ | refine Aw.block ?_ | refine Aw.skip ?_ | refine Aw.exit ?_ | refine Aw.condT rfl ?_ | refine Aw.condF rfl ?_)
              refine Aw.regionAny [3, 931, 1000] (by kernel_rfl) ?_
              refine AwAny.tk (i := 0) (Yd.val hT rfl rfl) (by kernel_rfl) ?_
              refine AwAny.tk (i := 2) (Yd.val hT rfl rfl) (by kernel_rfl) ?_
              refine AwAny.two (i := 1) (j := 3) (by kernel_rfl) ?_ ?_
              · skip
                refine Yd.ed (Yd.val hT rfl rfl) ?_
                refine AwAny.one (i := 3) (by kernel_rfl) ?_
                refine Ed.cl (F67 _) [1000] rfl ⟨⟨1000, rfl, rfl⟩, trivial⟩ ⟨rfl, trivial⟩ rfl rfl ?_   -- certpathmade.Base
                rintro _ _ ⟨g7, d7, rfl, rfl, hg7⟩
                refine AwAny.one (i := 4) (by kernel_rfl) ?_
                refine Ed.lit hT rfl ?_
                refine AwAny.freeze 47 rfl rfl (by first | rfl | (simp; done)) rfl ?_
                refine AwAny.say (t := 47) (B := .one (.p (.sl (List.map eGn [⟨_, _, _⟩])))) rfl rfl ?_
                refine AwAny.one (i := 5) (by kernel_rfl) ?_
                refine Ed.appm  hT rfl rfl rfl rfl rfl (fun _ => rfl) (by simp only [List.length_cons, List.length_nil]; omega) (by intro b hb; cases hb <;> decide) ?_
                refine AwAny.tk (i := 6) (Yd.val hT rfl rfl) (by kernel_rfl) ?_
                refine AwAny.one (i := 7) (by kernel_rfl) ?_
                refine Ed.eff hT rfl (fun b hb => by injection hb with hb; subst hb; decide) ?_
                refine AwAny.done (by kernel_rfl) ?_
                repeat (first | refine AwOps.nil ?_ | refine AwSch.nil ?_ | refine Aw.seq ?_ | refine Aw.region ?_ | refine Aw.block ?_ | refine Aw.skip ?_ | refine Aw.exit ?_ | refine Aw.condT rfl ?_ | refine Aw.condF rfl ?_)
                refine AwOps.turn (Tn.freezeC 3 1 rfl rfl rfl (by first | rfl | (simp; done)) rfl rfl) ?_
                refine AwOps.v hT rfl ?_
                refine AwOps.eff hT rfl ?_
                repeat (first | refine AwOps.nil ?_ | refine AwSch.nil ?_ | refine Aw.seq ?_ | refine Aw.region ?_ | refine Aw.block ?_ | refine Aw.skip ?_ | refine Aw.exit ?_ | refine Aw.condT rfl ?_ | refine Aw.condF rfl ?_)
                refine Aw.ret ?_
                refine ⟨_, [_], rfl, ⟨rfl, trivial⟩, ?_⟩
                first
                  | exact ⟨⟨_, _⟩, _, rfl, rfl, ⟨hi1.2.2, okGs_snoc hi2.2.2 (by omega) (by assumption)⟩, by simp only; omega, by simp only [List.length_append, List.length_cons, List.length_nil]; omega⟩
                  | exact ⟨⟨_, _⟩, _, rfl, rfl, ⟨hi1.2.2, hi2.2.2⟩, by simp only; omega, by simp only; omega⟩
              · skip
                refine Ed.cl (F67 _) [1000] rfl ⟨⟨1000, rfl, rfl⟩, trivial⟩ ⟨rfl, trivial⟩ rfl rfl ?_   -- certpathmade.Base
                rintro _ _ ⟨g8, d8, rfl, rfl, hg8⟩
                refine AwAny.two (i := 1) (j := 4) (by kernel_rfl) ?_ ?_
                · skip
                  refine Yd.ed (Yd.val hT rfl rfl) ?_
                  refine AwAny.one (i := 4) (by kernel_rfl) ?_
                  refine Ed.lit hT rfl ?_
                  refine AwAny.freeze 47 rfl rfl (by first | rfl | (simp; done)) rfl ?_
                  refine AwAny.say (t := 47) (B := .one (.p (.sl (List.map eGn [⟨_, _, _⟩])))) rfl rfl ?_
                  refine AwAny.one (i := 5) (by kernel_rfl) ?_
                  refine Ed.appm  hT rfl rfl rfl rfl rfl (fun _ => rfl) (by simp only [List.length_cons, List.length_nil]; omega) (by intro b hb; cases hb <;> decide) ?_
                  refine AwAny.tk (i := 6) (Yd.val hT rfl rfl) (by kernel_rfl) ?_
                  refine AwAny.one (i := 7) (by kernel_rfl) ?_
                  refine Ed.eff hT rfl (fun b hb => by injection hb with hb; subst hb; decide) ?_
                  refine AwAny.done (by kernel_rfl) ?_
                  repeat (first | refine AwOps.nil ?_ | refine AwSch.nil ?_ | refine Aw.seq ?_ | refine Aw.region ?_ | refine Aw.block ?_ | refine Aw.skip ?_ | refine Aw.exit ?_ | refine Aw.condT rfl ?_ | refine Aw.condF rfl ?_)
                  refine AwOps.turn (Tn.freezeC 3 1 rfl rfl rfl (by first | rfl | (simp; done)) rfl rfl) ?_
                  refine AwOps.v hT rfl ?_
                  refine AwOps.eff hT rfl ?_
                  repeat (first | refine AwOps.nil ?_ | refine AwSch.nil ?_ | refine Aw.seq ?_ | refine Aw.region ?_ | refine Aw.block ?_ | refine Aw.skip ?_ | refine Aw.exit ?_ | refine Aw.condT rfl ?_ | refine Aw.condF rfl ?_)
                  refine Aw.ret ?_
                  refine ⟨_, [_], rfl, ⟨rfl, trivial⟩, ?_⟩
                  first
                    | exact ⟨⟨_, _⟩, _, rfl, rfl, ⟨hi1.2.2, okGs_snoc hi2.2.2 (by omega) (by assumption)⟩, by simp only; omega, by simp only [List.length_append, List.length_cons, List.length_nil]; omega⟩
                    | exact ⟨⟨_, _⟩, _, rfl, rfl, ⟨hi1.2.2, hi2.2.2⟩, by simp only; omega, by simp only; omega⟩
                · skip
                  refine Ed.lit hT rfl ?_
                  refine AwAny.freeze 47 rfl rfl (by first | rfl | (simp; done)) rfl ?_
                  refine AwAny.say (t := 47) (B := .one (.p (.sl (List.map eGn [⟨_, _, _⟩])))) rfl rfl ?_
                  refine AwAny.one (i := 1) (by kernel_rfl) ?_
                  refine Yd.ed (Yd.val hT rfl rfl) ?_
                  refine AwAny.one (i := 5) (by kernel_rfl) ?_
                  refine Ed.appm  hT rfl rfl rfl rfl rfl (fun _ => rfl) (by simp only [List.length_cons, List.length_nil]; omega) (by intro b hb; cases hb <;> decide) ?_
                  refine AwAny.tk (i := 6) (Yd.val hT rfl rfl) (by kernel_rfl) ?_
                  refine AwAny.one (i := 7) (by kernel_rfl) ?_
                  refine Ed.eff hT rfl (fun b hb => by injection hb with hb; subst hb; decide) ?_
                  refine AwAny.done (by kernel_rfl) ?_
                  repeat (first | refine AwOps.nil ?_ | refine AwSch.nil ?_ | refine Aw.seq ?_ | refine Aw.region ?_ | refine Aw.block ?_ | refine Aw.skip ?_ | refine Aw.exit ?_ | refine Aw.condT rfl ?_ | refine Aw.condF rfl ?_)
                  refine AwOps.turn (Tn.freezeC 3 1 rfl rfl rfl (by first | rfl | (simp; done)) rfl rfl) ?_
                  refine AwOps.v hT rfl ?_
                  refine AwOps.eff hT rfl ?_
                  repeat (first | refine AwOps.nil ?_ | refine AwSch.nil ?_ | refine Aw.seq ?_ | refine Aw.region ?_ | refine Aw.block ?_ | refine Aw.skip ?_ | refine Aw.exit ?_ | refine Aw.condT rfl ?_ | refine Aw.condF rfl ?_)
                  refine Aw.ret ?_
                  refine ⟨_, [_], rfl, ⟨rfl, trivial⟩, ?_⟩
                  first
                    | exact ⟨⟨_, _⟩, _, rfl, rfl, ⟨hi1.2.2, okGs_snoc hi2.2.2 (by omega) (by assumption)⟩, by simp only; omega, by simp only [List.length_append, List.length_cons, List.length_nil]; omega⟩
                    | exact ⟨⟨_, _⟩, _, rfl, rfl, ⟨hi1.2.2, hi2.2.2⟩, by simp only; omega, by simp only; omega⟩
            · skip
              repeat (first | refine AwOps.nil ?_ | refine AwSch.nil ?_ | refine Aw.seq ?_ | refine Aw.region ?_ | refine Aw.block ?_ | refine Aw.skip ?_ | refine Aw.exit ?_ | refine Aw.condT rfl ?_ | refine Aw.condF rfl ?_)
              refine AwOps.turn (Tn.freezeC 3 1 rfl rfl rfl (by first | rfl | (simp; done)) rfl rfl) ?_
              refine AwOps.v hT rfl ?_
              refine AwOps.eff hT rfl ?_
              repeat (first | refine AwOps.nil ?_ | refine AwSch.nil ?_ | refine Aw.seq ?_ | refine Aw.region ?_ | refine Aw.block ?_ | refine Aw.skip ?_ | refine Aw.exit ?_ | refine Aw.condT rfl ?_ | refine Aw.condF rfl ?_)
              refine Aw.ret ?_
              refine ⟨_, [_], rfl, ⟨rfl, trivial⟩, ?_⟩
              first
                | exact ⟨⟨_, _⟩, _, rfl, rfl, ⟨hi1.2.2, okGs_snoc hi2.2.2 (by omega) (by assumption)⟩, by simp only; omega, by simp only [List.length_append, List.length_cons, List.length_nil]; omega⟩
                | exact ⟨⟨_, _⟩, _, rfl, rfl, ⟨hi1.2.2, hi2.2.2⟩, by simp only; omega, by simp only; omega⟩
          · skip
            iterate 5 refine AwOps.v hT rfl ?_
            repeat (first | refine AwOps.nil ?_ | refine AwSch.nil ?_ | refine Aw.seq ?_ | refine Aw.region ?_ | refine Aw.block ?_ | refine Aw.skip ?_ | refine Aw.exit ?_ | refine Aw.condT rfl ?_ | refine Aw.condF rfl ?_)
            refine AwOps.turn (Tn.freezeC 3 1 rfl rfl rfl (by first | rfl | (simp; done)) rfl rfl) ?_
            refine AwOps.v hT rfl ?_
            refine AwOps.eff hT rfl ?_
            repeat (first | refine AwOps.nil ?_ | refine AwSch.nil ?_ | refine Aw.seq ?_ | refine Aw.region ?_ | refine Aw.block ?_ | refine Aw.skip ?_ | refine Aw.exit ?_ | refine Aw.condT rfl ?_ | refine Aw.condF rfl ?_)
            refine Aw.ret ?_
            refine ⟨_, [_], rfl, ⟨rfl, trivial⟩, ?_⟩
            first
              | exact ⟨⟨_, _⟩, _, rfl, rfl, ⟨hi1.2.2, okGs_snoc hi2.2.2 (by omega) (by assumption)⟩, by simp only; omega, by simp only [List.length_append, List.length_cons, List.length_nil]; omega⟩
              | exact ⟨⟨_, _⟩, _, rfl, rfl, ⟨hi1.2.2, hi2.2.2⟩, by simp only; omega, by simp only; omega⟩
def okPts (l : List Point) : Prop := l.length ≤ 1000 ∧ ∀ p ∈ l, okPt p
theorem okPts_nil : okPts [] := ⟨by simp, fun _ h => (by cases h)⟩
theorem okPts_snoc {l : List Point} {g : Point} (h : okPts l) (hl : l.length ≤ 900) (hg : okPt g) : okPts (l ++ [g]) := ⟨by simp; omega, fun x hx => by
  rcases List.mem_append.1 hx with hx | hx
  · exact h.2 x hx
  · rw [List.mem_singleton.1 hx]; exact hg⟩
-- f71 certpath/certpathmade2.Points
theorem F71 (d : Dk) : Fn Tryz.prog 43 [.ptr 0 0] [(59, eDk d)] (fun r H' => ∃ (x : List Point) (d' : Dk), r = .one (.p (.sl (x.map ePoint))) ∧ H' = [eDk d'] ∧ okPts x ∧ x.length ≤ 3) := by
  refine Fn.intro (rs := [.tmp 2]) hT Tryz.func43 (by kernel_rfl) rfl rfl rfl rfl fun C => ?_
  repeat (first | refine AwOps.nil ?_ | refine AwSch.nil ?_ | refine Aw.seq ?_ | refine Aw.region ?_ | refine Aw.block ?_ | refine Aw.skip ?_ | refine Aw.exit ?_ | refine Aw.condT rfl ?_ | refine Aw.condF rfl ?_)
  refine AwOps.v hT rfl ?_
  repeat (first | refine AwOps.nil ?_ | refine AwSch.nil ?_ | refine Aw.seq ?_ | refine Aw.region ?_ | refine Aw.block ?_ | refine Aw.skip ?_ | refine Aw.exit ?_ | refine Aw.condT rfl ?_ | refine Aw.condF rfl ?_)
  refine AwOps.v hT rfl ?_
  repeat (first | refine AwOps.nil ?_ | refine AwSch.nil ?_ | refine Aw.seq ?_ | refine Aw.region ?_ | refine Aw.block ?_ | refine Aw.skip ?_ | refine Aw.exit ?_ | refine Aw.condT rfl ?_ | refine Aw.condF rfl ?_)
  refine AwOps.v hT rfl ?_
  refine AwOps.cl (F10 _ _ (by first | omega | (simp only [w64] at *; omega) | (simp [w64] at *; omega)) (by first | omega | (simp only [w64] at *; omega) | (simp [w64] at *; omega))) [1000] rfl ⟨⟨1000, rfl, rfl⟩, ⟨rfl, rfl⟩, trivial⟩ ⟨rfl, trivial⟩ rfl ?_   -- certpathmade.Deck).Next
  rintro _ _ ⟨v1, d1, rfl, rfl, hv1, hw1⟩
  refine AwOps.v hT rfl ?_
  first | refine AwOps.nm 8 rfl (by omega) (by omega) ?_ | skip
  refine AwOps.v hT rfl ?_
  repeat (first | refine AwOps.nil ?_ | refine AwSch.nil ?_ | refine Aw.seq ?_ | refine Aw.region ?_ | refine Aw.block ?_ | refine Aw.skip ?_ | refine Aw.exit ?_ | refine Aw.condT rfl ?_ | refine Aw.condF rfl ?_)
  refine Aw.turn (Tn.own 3 903 120 4 rfl (by decide) (by decide) rfl) ?_
  refine Aw.lp (ι := List (Point) × Int × Dk) (n := 47) [(0, _)] [] (fun g => [(3, .one (.own 903 g.1.length)), (4, sc (.int .i64 g.2.1))]) (fun g => [(903, .row 120 4 true (List.map ePoint g.1)), (1000, .box ⟨59, eDk g.2.2, []⟩)]) (fun g => 0 ≤ g.2.1 ∧ g.2.1 + g.1.length ≤ 3 ∧ okPts g.1) (fun g => g.2.1.toNat) ([], _, _) ?ok1 (Less.tn ⟨rfl, ⟨rfl, rfl, rfl, trivial⟩, ⟨rfl, rfl, trivial⟩⟩) ?bd1
  case ok1 =>
    try dsimp only
    exact ⟨by first | omega | (simp only [w64] at *; omega) | (simp [w64] at *; omega), by simp only [List.length_nil]; first | omega | (simp only [w64] at *; omega) | (simp [w64] at *; omega), okPts_nil⟩
  case bd1 =>
    rintro ⟨l3, k4, x1000⟩ hi1
    try dsimp only at hi1
    show Aw _ _ _ ⟨47, [(3, .one (.own 903 l3.length)), (4, sc (.int .i64 k4))] ++ [(0, _)], [(903, .row 120 4 true (List.map ePoint l3)), (1000, .box ⟨59, eDk x1000, []⟩)] ++ []⟩ _
    repeat (first | refine AwOps.nil ?_ | refine AwSch.nil ?_ | refine Aw.seq ?_ | refine Aw.region ?_ | refine Aw.block ?_ | refine Aw.skip ?_ | refine Aw.exit ?_ | refine Aw.condT rfl ?_ | refine Aw.condF rfl ?_)
    refine AwOps.v hT rfl ?_
    refine AwOps.v hT rfl ?_
    repeat (first | refine AwOps.nil ?_ | refine AwSch.nil ?_ | refine Aw.seq ?_ | refine Aw.region ?_ | refine Aw.block ?_ | refine Aw.skip ?_ | refine Aw.exit ?_ | refine Aw.condT rfl ?_ | refine Aw.condF rfl ?_)
    refine Aw.tst rfl (fun hb10 => ?_) (fun hb10 => ?_)
    · skip
      have hk : 0 < k4 := by simpa using hb10
      repeat (first | refine AwOps.nil ?_ | refine AwSch.nil ?_ | refine Aw.seq ?_ | refine Aw.region ?_ | refine Aw.block ?_ | refine Aw.skip ?_ | refine Aw.exit ?_ | refine Aw.condT rfl ?_ | refine Aw.condF rfl ?_)
      refine AwOps.lit hT rfl ?_
      refine AwOps.turn (Tn.fz 13 rfl rfl (by first | rfl | (simp; done)) rfl) ?_
      refine AwOps.turn (Less.say (t := 13) (B := .one (.p (.sl (List.map eI [_, _, _, _, _])))) rfl rfl) ?_
      refine AwOps.v hT rfl ?_
      refine AwOps.cl (F10 _ _ (by first | omega | (simp only [w64] at *; omega) | (simp [w64] at *; omega)) (by first | omega | (simp only [w64] at *; omega) | (simp [w64] at *; omega))) [1000] rfl ⟨⟨1000, rfl, rfl⟩, ⟨rfl, rfl⟩, trivial⟩ ⟨rfl, trivial⟩ rfl ?_   -- certpathmade.Deck).Next
      rintro _ _ ⟨v2, d2, rfl, rfl, hv2, hw2⟩
      refine AwOps.imI hT rfl (by first | omega | (simp only [w64] at *; omega) | (simp [w64] at *; omega)) (by first | omega | (simp only [List.length_cons, List.length_nil, List.length_map]; omega) | (simp only [List.length_cons, List.length_nil, List.length_map, w64] at *; omega) | (simp [w64] at *; omega)) rfl ?_
      refine AwOps.v hT rfl ?_
      refine AwOps.build hT rfl ?_
      refine AwOps.turn (Less.say (t := 18) (B := .agg [.sl (List.map eGn []), _, .v (.bool false), .sl (List.map eRdn [])]) rfl rfl) ?_
      refine AwOps.eff hT rfl ?_
      refine AwOps.eff hT rfl ?_
      repeat (first | refine AwOps.nil ?_ | refine AwSch.nil ?_ | refine Aw.seq ?_ | refine Aw.region ?_ | refine Aw.block ?_ | refine Aw.skip ?_ | refine Aw.exit ?_ | refine Aw.condT rfl ?_ | refine Aw.condF rfl ?_)
      refine AwOps.v hT rfl ?_
      refine AwOps.cl (F10 _ _ (by first | omega | (simp only [w64] at *; omega) | (simp [w64] at *; omega)) (by first | omega | (simp only [w64] at *; omega) | (simp [w64] at *; omega))) [1000] rfl ⟨⟨1000, rfl, rfl⟩, ⟨rfl, rfl⟩, trivial⟩ ⟨rfl, trivial⟩ rfl ?_   -- certpathmade.Deck).Next
      rintro _ _ ⟨v3, d3, rfl, rfl, hv3, hw3⟩
      refine AwOps.v hT rfl ?_
      repeat (first | refine AwOps.nil ?_ | refine AwSch.nil ?_ | refine Aw.seq ?_ | refine Aw.region ?_ | refine Aw.block ?_ | refine Aw.skip ?_ | refine Aw.exit ?_ | refine Aw.condT rfl ?_ | refine Aw.condF rfl ?_)
      refine Aw.tst rfl (fun hb21 => ?_) (fun hb21 => ?_)
      · skip
        repeat (first | refine AwOps.nil ?_ | refine AwSch.nil ?_ | refine Aw.seq ?_ | refine Aw.region ?_ | refine Aw.block ?_ | refine Aw.skip ?_ | refine Aw.exit ?_ | refine Aw.condT rfl ?_ | refine Aw.condF rfl ?_)
        refine AwOps.v hT rfl ?_
        refine AwOps.cl (F10 _ _ (by first | omega | (simp only [w64] at *; omega) | (simp [w64] at *; omega)) (by first | omega | (simp only [w64] at *; omega) | (simp [w64] at *; omega))) [1000] rfl ⟨⟨1000, rfl, rfl⟩, ⟨rfl, rfl⟩, trivial⟩ ⟨rfl, trivial⟩ rfl ?_   -- certpathmade.Deck).Next
        rintro _ _ ⟨v4, d4, rfl, rfl, hv4, hw4⟩
        refine AwOps.cl (F83 _ (by first | omega | (simp only [w64] at *; omega) | (simp [w64] at *; omega))) [] rfl ⟨⟨rfl, rfl⟩, trivial⟩ trivial rfl ?_   -- certpathmade2.place
        rintro _ _ ⟨g5, rfl, hg5⟩
        refine AwOps.lit hT rfl ?_
        refine AwOps.turn (Tn.fz 25 rfl rfl (by first | rfl | (simp; done)) rfl) ?_
        refine AwOps.turn (Less.say (t := 25) (B := .one (.p (.sl (List.map eGn [⟨_, _, _⟩])))) rfl rfl) ?_
        refine AwOps.v hT rfl ?_
        refine AwOps.eff hT rfl ?_
        repeat (first | refine AwOps.nil ?_ | refine AwSch.nil ?_ | refine Aw.seq ?_ | refine Aw.region ?_ | refine Aw.block ?_ | refine Aw.skip ?_ | refine Aw.exit ?_ | refine Aw.condT rfl ?_ | refine Aw.condF rfl ?_)
        iterate 5 refine AwOps.v hT rfl ?_
        refine AwOps.split (t := 31) rfl (fun hb31 => ?_) (fun hb31 => ?_)
        · skip
          iterate 4 refine AwOps.v hT rfl ?_
          repeat (first | refine AwOps.nil ?_ | refine AwSch.nil ?_ | refine Aw.seq ?_ | refine Aw.region ?_ | refine Aw.block ?_ | refine Aw.skip ?_ | refine Aw.exit ?_ | refine Aw.condT rfl ?_ | refine Aw.condF rfl ?_)
          refine AwOps.v hT rfl ?_
          refine AwOps.cl (F10 _ _ (by first | omega | (simp only [w64] at *; omega) | (simp [w64] at *; omega)) (by first | omega | (simp only [w64] at *; omega) | (simp [w64] at *; omega))) [1000] rfl ⟨⟨1000, rfl, rfl⟩, ⟨rfl, rfl⟩, trivial⟩ ⟨rfl, trivial⟩ rfl ?_   -- certpathmade.Deck).Next
          rintro _ _ ⟨v6, d6, rfl, rfl, hv6, hw6⟩
          refine AwOps.cl (F33 _ (by first | omega | (simp only [w64] at *; omega) | (simp [w64] at *; omega))) [] rfl ⟨⟨rfl, rfl⟩, trivial⟩ trivial rfl ?_   -- certpathmade2.Named
          rintro _ _ ⟨v7, hv7, rfl⟩
          have hw7 := namedL_nn _ hv7
          refine AwOps.cl (F25 _ (by first | omega | (simp only [w64] at *; omega) | (simp [w64] at *; omega))) [] rfl ⟨⟨rfl, rfl⟩, trivial⟩ trivial rfl ?_   -- certpathmade.Authority
          rintro _ _ rfl
          refine AwOps.v hT rfl ?_
          refine AwOps.eff hT rfl ?_
          refine AwOps.v hT rfl ?_
          refine AwOps.eff hT rfl ?_
          repeat (first | refine AwOps.nil ?_ | refine AwSch.nil ?_ | refine Aw.seq ?_ | refine Aw.region ?_ | refine Aw.block ?_ | refine Aw.skip ?_ | refine Aw.exit ?_ | refine Aw.condT rfl ?_ | refine Aw.condF rfl ?_)
          refine AwOps.v hT rfl ?_
          refine AwOps.v hT rfl ?_
          refine AwOps.lit hT rfl ?_
          refine AwOps.turn (Tn.fz 44 rfl rfl (by first | rfl | (simp; done)) rfl) ?_
          refine AwOps.turn (Less.say (t := 44) (B := .one (.p (.sl (List.map ePoint [⟨_, _, _, _⟩])))) rfl rfl) ?_
          refine AwOps.appm  hT rfl rfl rfl rfl rfl (fun _ => rfl) (by simp only [List.length_cons, List.length_nil]; omega) ?_
          refine AwOps.v hT rfl ?_
          repeat (first | refine AwOps.nil ?_ | refine AwSch.nil ?_ | refine Aw.seq ?_ | refine Aw.region ?_ | refine Aw.block ?_ | refine Aw.skip ?_ | refine Aw.exit ?_ | refine Aw.condT rfl ?_ | refine Aw.condF rfl ?_)
          refine AwOps.v hT rfl ?_
          refine AwOps.v hT rfl ?_
          first | refine AwOps.nm 12 rfl (by omega) (by omega) ?_ | skip
          refine AwOps.v hT rfl ?_
          repeat (first | refine AwOps.nil ?_ | refine AwSch.nil ?_ | refine Aw.seq ?_ | refine Aw.region ?_ | refine Aw.block ?_ | refine Aw.skip ?_ | refine Aw.exit ?_ | refine Aw.condT rfl ?_ | refine Aw.condF rfl ?_)
          refine ⟨(_, _, _), ?nx1, ?mu1, Tn.trans (Less.tn (τ := ⟨47, [(3, _), (4, _), (0, _)], [(45, _), (1000, _)]⟩) ⟨rfl, ⟨rfl, rfl, rfl, trivial⟩, ⟨rfl, rfl, trivial⟩⟩) (Tn.trans (Tn.ren 45 903 rfl rfl rfl) (Less.tn ⟨rfl, ⟨rfl, rfl, rfl, trivial⟩, ⟨rfl, rfl, trivial⟩⟩))⟩
          case nx1 =>
            try dsimp only
            exact ⟨by first | omega | (simp only [w64] at *; omega) | (simp [w64] at *; omega), by simp only [List.length_append, List.length_cons, List.length_nil]; first | omega | (simp only [w64] at *; omega) | (simp [w64] at *; omega), okPts_snoc hi1.2.2 (by omega) ⟨by first | exact okGs_nil | exact okGs_snoc okGs_nil (by simp) (by assumption), by first | exact okNm_nil | exact okNm_auth _⟩⟩
          case mu1 =>
            try dsimp only
            first | omega | (simp only [w64] at *; omega) | (simp [w64] at *; omega)
        · skip
          refine AwOps.v hT rfl ?_
          refine AwOps.cl (F10 _ _ (by first | omega | (simp only [w64] at *; omega) | (simp [w64] at *; omega)) (by first | omega | (simp only [w64] at *; omega) | (simp [w64] at *; omega))) [1000] rfl ⟨⟨1000, rfl, rfl⟩, ⟨rfl, rfl⟩, trivial⟩ ⟨rfl, trivial⟩ rfl ?_   -- certpathmade.Deck).Next
          rintro _ _ ⟨v9, d9, rfl, rfl, hv9, hw9⟩
          refine AwOps.v hT rfl ?_
          refine AwOps.v hT rfl ?_
          repeat (first | refine AwOps.nil ?_ | refine AwSch.nil ?_ | refine Aw.seq ?_ | refine Aw.region ?_ | refine Aw.block ?_ | refine Aw.skip ?_ | refine Aw.exit ?_ | refine Aw.condT rfl ?_ | refine Aw.condF rfl ?_)
          refine Aw.tst rfl (fun hb35 => ?_) (fun hb35 => ?_)
          · skip
            repeat (first | refine AwOps.nil ?_ | refine AwSch.nil ?_ | refine Aw.seq ?_ | refine Aw.region ?_ | refine Aw.block ?_ | refine Aw.skip ?_ | refine Aw.exit ?_ | refine Aw.condT rfl ?_ | refine Aw.condF rfl ?_)
            refine AwOps.v hT rfl ?_
            refine AwOps.cl (F10 _ _ (by first | omega | (simp only [w64] at *; omega) | (simp [w64] at *; omega)) (by first | omega | (simp only [w64] at *; omega) | (simp [w64] at *; omega))) [1000] rfl ⟨⟨1000, rfl, rfl⟩, ⟨rfl, rfl⟩, trivial⟩ ⟨rfl, trivial⟩ rfl ?_   -- certpathmade.Deck).Next
            rintro _ _ ⟨v10, d10, rfl, rfl, hv10, hw10⟩
            refine AwOps.cl (F33 _ (by first | omega | (simp only [w64] at *; omega) | (simp [w64] at *; omega))) [] rfl ⟨⟨rfl, rfl⟩, trivial⟩ trivial rfl ?_   -- certpathmade2.Named
            rintro _ _ ⟨v11, hv11, rfl⟩
            have hw11 := namedL_nn _ hv11
            refine AwOps.cl (F25 _ (by first | omega | (simp only [w64] at *; omega) | (simp [w64] at *; omega))) [] rfl ⟨⟨rfl, rfl⟩, trivial⟩ trivial rfl ?_   -- certpathmade.Authority
            rintro _ _ rfl
            refine AwOps.v hT rfl ?_
            refine AwOps.eff hT rfl ?_
            refine AwOps.v hT rfl ?_
            refine AwOps.eff hT rfl ?_
            repeat (first | refine AwOps.nil ?_ | refine AwSch.nil ?_ | refine Aw.seq ?_ | refine Aw.region ?_ | refine Aw.block ?_ | refine Aw.skip ?_ | refine Aw.exit ?_ | refine Aw.condT rfl ?_ | refine Aw.condF rfl ?_)
            refine AwOps.v hT rfl ?_
            refine AwOps.v hT rfl ?_
            refine AwOps.lit hT rfl ?_
            refine AwOps.turn (Tn.fz 44 rfl rfl (by first | rfl | (simp; done)) rfl) ?_
            refine AwOps.turn (Less.say (t := 44) (B := .one (.p (.sl (List.map ePoint [⟨_, _, _, _⟩])))) rfl rfl) ?_
            refine AwOps.appm  hT rfl rfl rfl rfl rfl (fun _ => rfl) (by simp only [List.length_cons, List.length_nil]; omega) ?_
            refine AwOps.v hT rfl ?_
            repeat (first | refine AwOps.nil ?_ | refine AwSch.nil ?_ | refine Aw.seq ?_ | refine Aw.region ?_ | refine Aw.block ?_ | refine Aw.skip ?_ | refine Aw.exit ?_ | refine Aw.condT rfl ?_ | refine Aw.condF rfl ?_)
            refine AwOps.v hT rfl ?_
            refine AwOps.v hT rfl ?_
            first | refine AwOps.nm 12 rfl (by omega) (by omega) ?_ | skip
            refine AwOps.v hT rfl ?_
            repeat (first | refine AwOps.nil ?_ | refine AwSch.nil ?_ | refine Aw.seq ?_ | refine Aw.region ?_ | refine Aw.block ?_ | refine Aw.skip ?_ | refine Aw.exit ?_ | refine Aw.condT rfl ?_ | refine Aw.condF rfl ?_)
            refine ⟨(_, _, _), ?nx1, ?mu1, Tn.trans (Less.tn (τ := ⟨47, [(3, _), (4, _), (0, _)], [(45, _), (1000, _)]⟩) ⟨rfl, ⟨rfl, rfl, rfl, trivial⟩, ⟨rfl, rfl, trivial⟩⟩) (Tn.trans (Tn.ren 45 903 rfl rfl rfl) (Less.tn ⟨rfl, ⟨rfl, rfl, rfl, trivial⟩, ⟨rfl, rfl, trivial⟩⟩))⟩
            case nx1 =>
              try dsimp only
              exact ⟨by first | omega | (simp only [w64] at *; omega) | (simp [w64] at *; omega), by simp only [List.length_append, List.length_cons, List.length_nil]; first | omega | (simp only [w64] at *; omega) | (simp [w64] at *; omega), okPts_snoc hi1.2.2 (by omega) ⟨by first | exact okGs_nil | exact okGs_snoc okGs_nil (by simp) (by assumption), by first | exact okNm_nil | exact okNm_auth _⟩⟩
            case mu1 =>
              try dsimp only
              first | omega | (simp only [w64] at *; omega) | (simp [w64] at *; omega)
          · skip
            repeat (first | refine AwOps.nil ?_ | refine AwSch.nil ?_ | refine Aw.seq ?_ | refine Aw.region ?_ | refine Aw.block ?_ | refine Aw.skip ?_ | refine Aw.exit ?_ | refine Aw.condT rfl ?_ | refine Aw.condF rfl ?_)
            refine AwOps.v hT rfl ?_
            refine AwOps.v hT rfl ?_
            refine AwOps.lit hT rfl ?_
            refine AwOps.turn (Tn.fz 44 rfl rfl (by first | rfl | (simp; done)) rfl) ?_
            refine AwOps.turn (Less.say (t := 44) (B := .one (.p (.sl (List.map ePoint [⟨_, _, _, _⟩])))) rfl rfl) ?_
            refine AwOps.appm  hT rfl rfl rfl rfl rfl (fun _ => rfl) (by simp only [List.length_cons, List.length_nil]; omega) ?_
            refine AwOps.v hT rfl ?_
            repeat (first | refine AwOps.nil ?_ | refine AwSch.nil ?_ | refine Aw.seq ?_ | refine Aw.region ?_ | refine Aw.block ?_ | refine Aw.skip ?_ | refine Aw.exit ?_ | refine Aw.condT rfl ?_ | refine Aw.condF rfl ?_)
            refine AwOps.v hT rfl ?_
            refine AwOps.v hT rfl ?_
            first | refine AwOps.nm 12 rfl (by omega) (by omega) ?_ | skip
            refine AwOps.v hT rfl ?_
            repeat (first | refine AwOps.nil ?_ | refine AwSch.nil ?_ | refine Aw.seq ?_ | refine Aw.region ?_ | refine Aw.block ?_ | refine Aw.skip ?_ | refine Aw.exit ?_ | refine Aw.condT rfl ?_ | refine Aw.condF rfl ?_)
            refine ⟨(_, _, _), ?nx1, ?mu1, Tn.trans (Less.tn (τ := ⟨47, [(3, _), (4, _), (0, _)], [(45, _), (1000, _)]⟩) ⟨rfl, ⟨rfl, rfl, rfl, trivial⟩, ⟨rfl, rfl, trivial⟩⟩) (Tn.trans (Tn.ren 45 903 rfl rfl rfl) (Less.tn ⟨rfl, ⟨rfl, rfl, rfl, trivial⟩, ⟨rfl, rfl, trivial⟩⟩))⟩
            case nx1 =>
              try dsimp only
              exact ⟨by first | omega | (simp only [w64] at *; omega) | (simp [w64] at *; omega), by simp only [List.length_append, List.length_cons, List.length_nil]; first | omega | (simp only [w64] at *; omega) | (simp [w64] at *; omega), okPts_snoc hi1.2.2 (by omega) ⟨by first | exact okGs_nil | exact okGs_snoc okGs_nil (by simp) (by assumption), by first | exact okNm_nil | exact okNm_auth _⟩⟩
            case mu1 =>
              try dsimp only
              first | omega | (simp only [w64] at *; omega) | (simp [w64] at *; omega)
      · skip
        repeat (first | refine AwOps.nil ?_ | refine AwSch.nil ?_ | refine Aw.seq ?_ | refine Aw.region ?_ | refine Aw.block ?_ | refine Aw.skip ?_ | refine Aw.exit ?_ | refine Aw.condT rfl ?_ | refine Aw.condF rfl ?_)
        iterate 5 refine AwOps.v hT rfl ?_
        refine AwOps.split (t := 31) rfl (fun hb31 => ?_) (fun hb31 => ?_)
        · skip
          iterate 4 refine AwOps.v hT rfl ?_
          repeat (first | refine AwOps.nil ?_ | refine AwSch.nil ?_ | refine Aw.seq ?_ | refine Aw.region ?_ | refine Aw.block ?_ | refine Aw.skip ?_ | refine Aw.exit ?_ | refine Aw.condT rfl ?_ | refine Aw.condF rfl ?_)
          refine AwOps.v hT rfl ?_
          refine AwOps.cl (F10 _ _ (by first | omega | (simp only [w64] at *; omega) | (simp [w64] at *; omega)) (by first | omega | (simp only [w64] at *; omega) | (simp [w64] at *; omega))) [1000] rfl ⟨⟨1000, rfl, rfl⟩, ⟨rfl, rfl⟩, trivial⟩ ⟨rfl, trivial⟩ rfl ?_   -- certpathmade.Deck).Next
          rintro _ _ ⟨v13, d13, rfl, rfl, hv13, hw13⟩
          refine AwOps.cl (F33 _ (by first | omega | (simp only [w64] at *; omega) | (simp [w64] at *; omega))) [] rfl ⟨⟨rfl, rfl⟩, trivial⟩ trivial rfl ?_   -- certpathmade2.Named
          rintro _ _ ⟨v14, hv14, rfl⟩
          have hw14 := namedL_nn _ hv14
          refine AwOps.cl (F25 _ (by first | omega | (simp only [w64] at *; omega) | (simp [w64] at *; omega))) [] rfl ⟨⟨rfl, rfl⟩, trivial⟩ trivial rfl ?_   -- certpathmade.Authority
          rintro _ _ rfl
          refine AwOps.v hT rfl ?_
          refine AwOps.eff hT rfl ?_
          refine AwOps.v hT rfl ?_
          refine AwOps.eff hT rfl ?_
          repeat (first | refine AwOps.nil ?_ | refine AwSch.nil ?_ | refine Aw.seq ?_ | refine Aw.region ?_ | refine Aw.block ?_ | refine Aw.skip ?_ | refine Aw.exit ?_ | refine Aw.condT rfl ?_ | refine Aw.condF rfl ?_)
          refine AwOps.v hT rfl ?_
          refine AwOps.v hT rfl ?_
          refine AwOps.lit hT rfl ?_
          refine AwOps.turn (Tn.fz 44 rfl rfl (by first | rfl | (simp; done)) rfl) ?_
          refine AwOps.turn (Less.say (t := 44) (B := .one (.p (.sl (List.map ePoint [⟨_, _, _, _⟩])))) rfl rfl) ?_
          refine AwOps.appm  hT rfl rfl rfl rfl rfl (fun _ => rfl) (by simp only [List.length_cons, List.length_nil]; omega) ?_
          refine AwOps.v hT rfl ?_
          repeat (first | refine AwOps.nil ?_ | refine AwSch.nil ?_ | refine Aw.seq ?_ | refine Aw.region ?_ | refine Aw.block ?_ | refine Aw.skip ?_ | refine Aw.exit ?_ | refine Aw.condT rfl ?_ | refine Aw.condF rfl ?_)
          refine AwOps.v hT rfl ?_
          refine AwOps.v hT rfl ?_
          first | refine AwOps.nm 12 rfl (by omega) (by omega) ?_ | skip
          refine AwOps.v hT rfl ?_
          repeat (first | refine AwOps.nil ?_ | refine AwSch.nil ?_ | refine Aw.seq ?_ | refine Aw.region ?_ | refine Aw.block ?_ | refine Aw.skip ?_ | refine Aw.exit ?_ | refine Aw.condT rfl ?_ | refine Aw.condF rfl ?_)
          refine ⟨(_, _, _), ?nx1, ?mu1, Tn.trans (Less.tn (τ := ⟨47, [(3, _), (4, _), (0, _)], [(45, _), (1000, _)]⟩) ⟨rfl, ⟨rfl, rfl, rfl, trivial⟩, ⟨rfl, rfl, trivial⟩⟩) (Tn.trans (Tn.ren 45 903 rfl rfl rfl) (Less.tn ⟨rfl, ⟨rfl, rfl, rfl, trivial⟩, ⟨rfl, rfl, trivial⟩⟩))⟩
          case nx1 =>
            try dsimp only
            exact ⟨by first | omega | (simp only [w64] at *; omega) | (simp [w64] at *; omega), by simp only [List.length_append, List.length_cons, List.length_nil]; first | omega | (simp only [w64] at *; omega) | (simp [w64] at *; omega), okPts_snoc hi1.2.2 (by omega) ⟨by first | exact okGs_nil | exact okGs_snoc okGs_nil (by simp) (by assumption), by first | exact okNm_nil | exact okNm_auth _⟩⟩
          case mu1 =>
            try dsimp only
            first | omega | (simp only [w64] at *; omega) | (simp [w64] at *; omega)
        · skip
          refine AwOps.v hT rfl ?_
          refine AwOps.cl (F10 _ _ (by first | omega | (simp only [w64] at *; omega) | (simp [w64] at *; omega)) (by first | omega | (simp only [w64] at *; omega) | (simp [w64] at *; omega))) [1000] rfl ⟨⟨1000, rfl, rfl⟩, ⟨rfl, rfl⟩, trivial⟩ ⟨rfl, trivial⟩ rfl ?_   -- certpathmade.Deck).Next
          rintro _ _ ⟨v16, d16, rfl, rfl, hv16, hw16⟩
          refine AwOps.v hT rfl ?_
          refine AwOps.v hT rfl ?_
          repeat (first | refine AwOps.nil ?_ | refine AwSch.nil ?_ | refine Aw.seq ?_ | refine Aw.region ?_ | refine Aw.block ?_ | refine Aw.skip ?_ | refine Aw.exit ?_ | refine Aw.condT rfl ?_ | refine Aw.condF rfl ?_)
          refine Aw.tst rfl (fun hb35 => ?_) (fun hb35 => ?_)
          · skip
            repeat (first | refine AwOps.nil ?_ | refine AwSch.nil ?_ | refine Aw.seq ?_ | refine Aw.region ?_ | refine Aw.block ?_ | refine Aw.skip ?_ | refine Aw.exit ?_ | refine Aw.condT rfl ?_ | refine Aw.condF rfl ?_)
            refine AwOps.v hT rfl ?_
            refine AwOps.cl (F10 _ _ (by first | omega | (simp only [w64] at *; omega) | (simp [w64] at *; omega)) (by first | omega | (simp only [w64] at *; omega) | (simp [w64] at *; omega))) [1000] rfl ⟨⟨1000, rfl, rfl⟩, ⟨rfl, rfl⟩, trivial⟩ ⟨rfl, trivial⟩ rfl ?_   -- certpathmade.Deck).Next
            rintro _ _ ⟨v17, d17, rfl, rfl, hv17, hw17⟩
            refine AwOps.cl (F33 _ (by first | omega | (simp only [w64] at *; omega) | (simp [w64] at *; omega))) [] rfl ⟨⟨rfl, rfl⟩, trivial⟩ trivial rfl ?_   -- certpathmade2.Named
            rintro _ _ ⟨v18, hv18, rfl⟩
            have hw18 := namedL_nn _ hv18
            refine AwOps.cl (F25 _ (by first | omega | (simp only [w64] at *; omega) | (simp [w64] at *; omega))) [] rfl ⟨⟨rfl, rfl⟩, trivial⟩ trivial rfl ?_   -- certpathmade.Authority
            rintro _ _ rfl
            refine AwOps.v hT rfl ?_
            refine AwOps.eff hT rfl ?_
            refine AwOps.v hT rfl ?_
            refine AwOps.eff hT rfl ?_
            repeat (first | refine AwOps.nil ?_ | refine AwSch.nil ?_ | refine Aw.seq ?_ | refine Aw.region ?_ | refine Aw.block ?_ | refine Aw.skip ?_ | refine Aw.exit ?_ | refine Aw.condT rfl ?_ | refine Aw.condF rfl ?_)
            refine AwOps.v hT rfl ?_
            refine AwOps.v hT rfl ?_
            refine AwOps.lit hT rfl ?_
            refine AwOps.turn (Tn.fz 44 rfl rfl (by first | rfl | (simp; done)) rfl) ?_
            refine AwOps.turn (Less.say (t := 44) (B := .one (.p (.sl (List.map ePoint [⟨_, _, _, _⟩])))) rfl rfl) ?_
            refine AwOps.appm  hT rfl rfl rfl rfl rfl (fun _ => rfl) (by simp only [List.length_cons, List.length_nil]; omega) ?_
            refine AwOps.v hT rfl ?_
            repeat (first | refine AwOps.nil ?_ | refine AwSch.nil ?_ | refine Aw.seq ?_ | refine Aw.region ?_ | refine Aw.block ?_ | refine Aw.skip ?_ | refine Aw.exit ?_ | refine Aw.condT rfl ?_ | refine Aw.condF rfl ?_)
            refine AwOps.v hT rfl ?_
            refine AwOps.v hT rfl ?_
            first | refine AwOps.nm 12 rfl (by omega) (by omega) ?_ | skip
            refine AwOps.v hT rfl ?_
            repeat (first | refine AwOps.nil ?_ | refine AwSch.nil ?_ | refine Aw.seq ?_ | refine Aw.region ?_ | refine Aw.block ?_ | refine Aw.skip ?_ | refine Aw.exit ?_ | refine Aw.condT rfl ?_ | refine Aw.condF rfl ?_)
            refine ⟨(_, _, _), ?nx1, ?mu1, Tn.trans (Less.tn (τ := ⟨47, [(3, _), (4, _), (0, _)], [(45, _), (1000, _)]⟩) ⟨rfl, ⟨rfl, rfl, rfl, trivial⟩, ⟨rfl, rfl, trivial⟩⟩) (Tn.trans (Tn.ren 45 903 rfl rfl rfl) (Less.tn ⟨rfl, ⟨rfl, rfl, rfl, trivial⟩, ⟨rfl, rfl, trivial⟩⟩))⟩
            case nx1 =>
              try dsimp only
              exact ⟨by first | omega | (simp only [w64] at *; omega) | (simp [w64] at *; omega), by simp only [List.length_append, List.length_cons, List.length_nil]; first | omega | (simp only [w64] at *; omega) | (simp [w64] at *; omega), okPts_snoc hi1.2.2 (by omega) ⟨by first | exact okGs_nil | exact okGs_snoc okGs_nil (by simp) (by assumption), by first | exact okNm_nil | exact okNm_auth _⟩⟩
            case mu1 =>
              try dsimp only
              first | omega | (simp only [w64] at *; omega) | (simp [w64] at *; omega)
          · skip
            repeat (first | refine AwOps.nil ?_ | refine AwSch.nil ?_ | refine Aw.seq ?_ | refine Aw.region ?_ | refine Aw.block ?_ | refine Aw.skip ?_ | refine Aw.exit ?_ | refine Aw.condT rfl ?_ | refine Aw.condF rfl ?_)
            refine AwOps.v hT rfl ?_
            refine AwOps.v hT rfl ?_
            refine AwOps.lit hT rfl ?_
            refine AwOps.turn (Tn.fz 44 rfl rfl (by first | rfl | (simp; done)) rfl) ?_
            refine AwOps.turn (Less.say (t := 44) (B := .one (.p (.sl (List.map ePoint [⟨_, _, _, _⟩])))) rfl rfl) ?_
            refine AwOps.appm  hT rfl rfl rfl rfl rfl (fun _ => rfl) (by simp only [List.length_cons, List.length_nil]; omega) ?_
            refine AwOps.v hT rfl ?_
            repeat (first | refine AwOps.nil ?_ | refine AwSch.nil ?_ | refine Aw.seq ?_ | refine Aw.region ?_ | refine Aw.block ?_ | refine Aw.skip ?_ | refine Aw.exit ?_ | refine Aw.condT rfl ?_ | refine Aw.condF rfl ?_)
            refine AwOps.v hT rfl ?_
            refine AwOps.v hT rfl ?_
            first | refine AwOps.nm 12 rfl (by omega) (by omega) ?_ | skip
            refine AwOps.v hT rfl ?_
            repeat (first | refine AwOps.nil ?_ | refine AwSch.nil ?_ | refine Aw.seq ?_ | refine Aw.region ?_ | refine Aw.block ?_ | refine Aw.skip ?_ | refine Aw.exit ?_ | refine Aw.condT rfl ?_ | refine Aw.condF rfl ?_)
            refine ⟨(_, _, _), ?nx1, ?mu1, Tn.trans (Less.tn (τ := ⟨47, [(3, _), (4, _), (0, _)], [(45, _), (1000, _)]⟩) ⟨rfl, ⟨rfl, rfl, rfl, trivial⟩, ⟨rfl, rfl, trivial⟩⟩) (Tn.trans (Tn.ren 45 903 rfl rfl rfl) (Less.tn ⟨rfl, ⟨rfl, rfl, rfl, trivial⟩, ⟨rfl, rfl, trivial⟩⟩))⟩
            case nx1 =>
              try dsimp only
              exact ⟨by first | omega | (simp only [w64] at *; omega) | (simp [w64] at *; omega), by simp only [List.length_append, List.length_cons, List.length_nil]; first | omega | (simp only [w64] at *; omega) | (simp [w64] at *; omega), okPts_snoc hi1.2.2 (by omega) ⟨by first | exact okGs_nil | exact okGs_snoc okGs_nil (by simp) (by assumption), by first | exact okNm_nil | exact okNm_auth _⟩⟩
            case mu1 =>
              try dsimp only
              first | omega | (simp only [w64] at *; omega) | (simp [w64] at *; omega)
    · skip
      repeat (first | refine AwOps.nil ?_ | refine AwSch.nil ?_ | refine Aw.seq ?_ | refine Aw.region ?_ | refine Aw.block ?_ | refine Aw.skip ?_ | refine Aw.exit ?_ | refine Aw.condT rfl ?_ | refine Aw.condF rfl ?_)
      refine AwOps.v hT rfl ?_
      refine AwOps.v hT rfl ?_
      repeat (first | refine AwOps.nil ?_ | refine AwSch.nil ?_ | refine Aw.seq ?_ | refine Aw.region ?_ | refine Aw.block ?_ | refine Aw.skip ?_ | refine Aw.exit ?_ | refine Aw.condT rfl ?_ | refine Aw.condF rfl ?_)
      refine Aw.turn (Tn.fz 2 rfl rfl (by first | rfl | (simp; done)) rfl) ?_
      refine Aw.ret ?_
      refine ⟨_, [_], rfl, ⟨rfl, trivial⟩, ?_⟩
      exact ⟨_, _, rfl, rfl, hi1.2.2, by omega⟩
end Go.Proofs.YthhjfcmkelmobaaGreat.Aw
