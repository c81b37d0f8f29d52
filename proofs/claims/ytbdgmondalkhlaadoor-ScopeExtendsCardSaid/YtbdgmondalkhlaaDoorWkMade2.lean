
/- The walks of the makers of names, constraints, policies, points.
   Conditions: none. -/
import Derived.Test.YtbdgmondalkhlaaDoorWkMade
namespace Go.Proofs.YtbdgmondalkhlaaDoor.Aw
open Go
set_option maxRecDepth 100000
set_option maxHeartbeats 4000000
set_option linter.unusedSimpArgs false
set_option linter.unusedVariables false

def attrL : List Attr := [⟨⟨#[50, 46, 53, 46, 52, 46, 51]⟩, 12, ⟨#[65, 110, 110]⟩⟩, ⟨⟨#[50, 46, 53, 46, 52, 46, 51]⟩, 19, ⟨#[32, 97, 110, 110]⟩⟩, ⟨⟨#[50, 46, 53, 46, 52, 46, 51]⟩, 12, ⟨#[103, 114, 195, 182, 195, 159, 101]⟩⟩, ⟨⟨#[50, 46, 53, 46, 52, 46, 54]⟩, 19, ⟨#[85, 83]⟩⟩,
  ⟨⟨#[50, 46, 53, 46, 52, 46, 49, 48]⟩, 19, ⟨#[69, 120, 97, 109, 112, 108, 101, 32, 32, 67, 111, 114, 112]⟩⟩, ⟨⟨#[50, 46, 53, 46, 52, 46, 49, 48]⟩, 12, ⟨#[101, 120, 97, 109, 112, 108, 101, 32, 99, 111, 114, 112]⟩⟩, ⟨⟨#[50, 46, 53, 46, 52, 46, 49, 49]⟩, 22, ⟨#[97, 44, 98, 43, 99, 61, 100, 92, 101]⟩⟩,
  ⟨⟨#[48, 46, 57, 46, 50, 51, 52, 50, 46, 49, 57, 50, 48, 48, 51, 48, 48, 46, 49, 48, 48, 46, 49, 46, 50, 53]⟩, 22, ⟨#[111, 114, 103]⟩⟩, ⟨⟨#[49, 46, 50, 46, 56, 52, 48, 46, 49, 49, 51, 53, 52, 57, 46, 49, 46, 57, 46, 49]⟩, 22, ⟨#[97, 110, 110, 64, 101, 120, 97, 109, 112, 108, 101, 46, 111, 114, 103]⟩⟩,
  ⟨⟨#[49, 46, 50, 46, 56, 52, 48, 46, 49, 49, 51, 53, 52, 57, 46, 49, 46, 57, 46, 49]⟩, 22, ⟨#[110, 111, 32, 97, 100, 100, 114, 101, 115, 115]⟩⟩, ⟨⟨#[50, 46, 53, 46, 52, 46, 57, 57]⟩, 19, ⟨#[120]⟩⟩, ⟨⟨#[50, 46, 53, 46, 52, 46, 55]⟩, 12, ⟨#[76]⟩⟩]
theorem attrL_ok : ∀ a ∈ attrL, okS a.v := fun a h => by
  have := List.all_eq_true.1 (show (attrL.all fun a => Nat.ble a.v.size 100) = true from rfl) a h
  have := Nat.le_of_ble_eq_true this
  unfold okS
  omega
-- f81 certpath/certpathmade.attribute
theorem F81 (d : Dk) : Fn Tryd.prog 48 [.ptr 0 0] [(68, eDk d)] (fun r H' => ∃ (x : Attr) (d' : Dk), r = .agg (eAttr x) ∧ H' = [eDk d'] ∧ x ∈ attrL) := by
  refine Fn.intro (rs := [.cell 2 78]) hT Tryd.func48 (by kernel_rfl) rfl rfl rfl rfl fun C => ?_
  refine Aw.seq (Aw.region ?_)
  refine AwOps.eff hT rfl ?_
  refine AwOps.nil (Aw.seq (Aw.region ?_))
  refine AwOps.build hT rfl ?_
  refine AwOps.turn (Less.say (t := 3) (B := .agg [_, _, _]) rfl rfl) ?_
  refine AwOps.build hT rfl ?_
  refine AwOps.turn (Less.say (t := 4) (B := .agg [_, _, _]) rfl rfl) ?_
  refine AwOps.build hT rfl ?_
  refine AwOps.turn (Less.say (t := 5) (B := .agg [_, _, _]) rfl rfl) ?_
  refine AwOps.build hT rfl ?_
  refine AwOps.turn (Less.say (t := 6) (B := .agg [_, _, _]) rfl rfl) ?_
  refine AwOps.build hT rfl ?_
  refine AwOps.turn (Less.say (t := 7) (B := .agg [_, _, _]) rfl rfl) ?_
  refine AwOps.build hT rfl ?_
  refine AwOps.turn (Less.say (t := 8) (B := .agg [_, _, _]) rfl rfl) ?_
  refine AwOps.build hT rfl ?_
  refine AwOps.turn (Less.say (t := 9) (B := .agg [_, _, _]) rfl rfl) ?_
  refine AwOps.build hT rfl ?_
  refine AwOps.turn (Less.say (t := 10) (B := .agg [_, _, _]) rfl rfl) ?_
  refine AwOps.build hT rfl ?_
  refine AwOps.turn (Less.say (t := 11) (B := .agg [_, _, _]) rfl rfl) ?_
  refine AwOps.build hT rfl ?_
  refine AwOps.turn (Less.say (t := 12) (B := .agg [_, _, _]) rfl rfl) ?_
  refine AwOps.build hT rfl ?_
  refine AwOps.turn (Less.say (t := 13) (B := .agg [_, _, _]) rfl rfl) ?_
  refine AwOps.build hT rfl ?_
  refine AwOps.turn (Less.say (t := 14) (B := .agg [_, _, _]) rfl rfl) ?_
  refine AwOps.lit hT rfl ?_
  refine AwOps.turn (Tn.fz 15 rfl rfl (by first | rfl | (simp; done)) rfl) ?_
  refine AwOps.turn (Less.say (t := 15) (B := .one (.p (.sl (List.map eAttr [⟨_, _, _⟩, ⟨_, _, _⟩, ⟨_, _, _⟩, ⟨_, _, _⟩, ⟨_, _, _⟩, ⟨_, _, _⟩, ⟨_, _, _⟩, ⟨_, _, _⟩, ⟨_, _, _⟩, ⟨_, _, _⟩, ⟨_, _, _⟩, ⟨_, _, _⟩])))) rfl rfl) ?_
  refine AwOps.v hT rfl ?_
  refine AwOps.cl (F10 _ _ (by first | omega | (simp only [w64] at *; omega) | (simp [w64] at *; omega)) (by first | omega | (simp only [w64] at *; omega) | (simp [w64] at *; omega))) [1000] rfl ⟨⟨1000, rfl, rfl⟩, ⟨rfl, rfl⟩, trivial⟩ ⟨rfl, trivial⟩ rfl ?_   -- certpathmade.Deck).Next
  rintro _ _ ⟨v1, d1, rfl, rfl, hv1, hw1⟩
  refine AwOps.imI hT rfl (by first | omega | (simp only [w64] at *; omega) | (simp [w64] at *; omega)) (by first | omega | (simp only [List.length_cons, List.length_nil, List.length_map]; omega) | (simp only [List.length_cons, List.length_nil, List.length_map, w64] at *; omega) | (simp [w64] at *; omega)) rfl ?_
  refine AwOps.v hT rfl ?_
  refine AwOps.eff hT rfl ?_
  refine AwOps.nil ?_
  refine Aw.ret ?_
  refine ⟨_, [_], rfl, ⟨rfl, trivial⟩, ?_⟩
  refine ⟨_, _, rfl, rfl, ?_⟩
  exact List.getElem_mem (l := attrL) (show (v1.toNat < 12) by omega)
theorem okNm_snoc {n : Name} {r : Rdn} (h : okNm n) (hl : n.length ≤ 900) (hr : r.length ≤ 1000) (ho : okR r) : okNm (n ++ [r]) := by
  refine ⟨fun x hx => ?_, by simp; omega, fun x hx => ?_⟩
  · rcases List.mem_append.1 hx with hx | hx
    · exact h.1 x hx
    · rw [List.mem_singleton.1 hx]; exact ho
  · rcases List.mem_append.1 hx with hx | hx
    · exact h.2.2 x hx
    · rw [List.mem_singleton.1 hx]; exact hr
def okMs (l : List Mapp) : Prop := ∀ m ∈ l, okS m.i ∧ okS m.s
theorem policyL_ok : ∀ s ∈ policyL, okS s := fun s h => okS_of (n := 100) h rfl (by decide)
-- f64 certpath/certpathmade.Name
theorem F64 (d : Dk) : Fn Tryd.prog 35 [.ptr 0 0] [(68, eDk d)] (fun r H' => ∃ (x : Name) (d' : Dk), r = .agg (eName x) ∧ H' = [eDk d'] ∧ okNm x ∧ x.length ≤ 3) := by
  refine Fn.intro (rs := [.cell 2 25]) hT Tryd.func35 (by kernel_rfl) rfl rfl rfl rfl fun C => ?_
  refine Aw.seq (Aw.region ?_)
  refine AwOps.eff hT rfl ?_
  refine AwOps.nil (Aw.seq (Aw.region ?_))
  refine AwOps.buildZ hT rfl ?_
  refine AwOps.eff hT rfl ?_
  refine AwOps.stoM hT rfl ?_
  refine AwOps.nil (Aw.seq (Aw.seq (Aw.region ?_)))
  refine AwOps.v hT rfl ?_
  refine AwOps.cl (F10 _ _ (by first | omega | (simp only [w64] at *; omega) | (simp [w64] at *; omega)) (by first | omega | (simp only [w64] at *; omega) | (simp [w64] at *; omega))) [1000] rfl ⟨⟨1000, rfl, rfl⟩, ⟨rfl, rfl⟩, trivial⟩ ⟨rfl, trivial⟩ rfl ?_   -- certpathmade.Deck).Next
  rintro _ _ ⟨v1, d1, rfl, rfl, hv1, hw1⟩
  refine AwOps.v hT rfl ?_
  refine AwOps.nil (Aw.block ?_)
  refine Aw.turn (Tn.ownC 3 0 930 79 1 rfl rfl (by decide) (by decide) rfl rfl) ?_
  refine Aw.lp (ι := Int × List (List (Attr)) × Dk) (n := 48) [(0, _), (2, _), (3, _)] [(2, _)] (fun gq => [(4, sc (.int .i64 gq.1))]) (fun gq => [(3, .box ⟨25, [.sl []], [(0, .own 930 gq.2.1.length)]⟩), (930, .row 79 1 true (List.map eRdn gq.2.1)), (1000, .box ⟨68, eDk gq.2.2, []⟩)]) (fun gq => 0 ≤ gq.1 ∧ gq.1 + gq.2.1.length ≤ 3 ∧ okNm gq.2.1) (fun gq => gq.1.toNat) (_, [], _) ?ok1 (Less.tn ⟨rfl, ⟨rfl, rfl, rfl, rfl, trivial⟩, ⟨rfl, rfl, rfl, rfl, trivial⟩⟩) ?bd1
  case ok1 =>
    try dsimp only
    exact ⟨by first | omega | (simp only [w64] at *; omega) | (simp [w64] at *; omega), by simp only [List.length_nil]; first | omega | (simp only [w64] at *; omega) | (simp [w64] at *; omega), okNm_nil⟩
  case bd1 =>
    rintro ⟨k4, l930, x1000⟩ hi1
    try dsimp only at hi1
    show Aw _ _ _ ⟨48, [(4, sc (.int .i64 k4))] ++ [(0, _), (2, _), (3, _)], [(3, .box ⟨25, [.sl []], [(0, .own 930 l930.length)]⟩), (930, .row 79 1 true (List.map eRdn l930)), (1000, .box ⟨68, eDk x1000, []⟩)] ++ [(2, _)]⟩ _
    refine Aw.seq (Aw.seq (Aw.region ?_))
    refine AwOps.v hT rfl ?_
    refine AwOps.v hT rfl ?_
    refine AwOps.nil ?_
    refine Aw.tst rfl (fun hb12 => ?_) (fun hb12 => ?_)
    · skip
      have hk : 0 < k4 := by simpa using hb12
      refine Aw.skip (Aw.seq (Aw.block (Aw.seq (Aw.region ?_))))
      refine AwOps.v hT rfl ?_
      refine AwOps.nil (Aw.seq (Aw.seq (Aw.region ?_)))
      refine AwOps.v hT rfl ?_
      refine AwOps.cl (F10 _ _ (by first | omega | (simp only [w64] at *; omega) | (simp [w64] at *; omega)) (by first | omega | (simp only [w64] at *; omega) | (simp [w64] at *; omega))) [1000] rfl ⟨⟨1000, rfl, rfl⟩, ⟨rfl, rfl⟩, trivial⟩ ⟨rfl, trivial⟩ rfl ?_   -- certpathmade.Deck).Next
      rintro _ _ ⟨v2, d2, rfl, rfl, hv2, hw2⟩
      refine AwOps.v hT rfl ?_
      first | refine AwOps.nmq 17 rfl (by omega) (by omega) (by omega) ?_ | skip
      refine AwOps.v hT rfl ?_
      first | refine AwOps.nm 18 rfl (by omega) (by omega) ?_ | skip
      refine AwOps.v hT rfl ?_
      refine AwOps.nil (Aw.block ?_)
      refine Aw.turn (Tn.own 5 905 78 3 rfl (by decide) (by decide) rfl) ?_
      refine Aw.lp (ι := List (Attr) × Int × Dk) (n := 48) [(0, _), (2, _), (3, _), (4, _)] [(2, _), (3, _), (930, _)] (fun gq => [(5, .one (.own 905 gq.1.length)), (6, sc (.int .i64 gq.2.1))]) (fun gq => [(905, .row 78 3 true (List.map eAttr gq.1)), (1000, .box ⟨68, eDk gq.2.2, []⟩)]) (fun gq => 0 ≤ gq.2.1 ∧ gq.2.1 + gq.1.length ≤ 2 ∧ okR gq.1) (fun gq => gq.2.1.toNat) ([], _, _) ?ok2 (Less.tn ⟨rfl, ⟨rfl, rfl, rfl, rfl, rfl, rfl, trivial⟩, ⟨rfl, rfl, rfl, rfl, rfl, trivial⟩⟩) ?bd2
      case ok2 =>
        try dsimp only
        exact ⟨by first | omega | (simp only [w64] at *; omega) | (simp [w64] at *; omega), by simp only [List.length_nil]; first | omega | (simp only [w64] at *; omega) | (simp [w64] at *; omega), fun a h => (by cases h)⟩
      case bd2 =>
        rintro ⟨l5, k6, x1000⟩ hi2
        try dsimp only at hi2
        show Aw _ _ _ ⟨48, [(5, .one (.own 905 l5.length)), (6, sc (.int .i64 k6))] ++ [(0, _), (2, _), (3, _), (4, _)], [(905, .row 78 3 true (List.map eAttr l5)), (1000, .box ⟨68, eDk x1000, []⟩)] ++ [(2, _), (3, _), (930, _)]⟩ _
        refine Aw.seq (Aw.seq (Aw.region ?_))
        refine AwOps.v hT rfl ?_
        refine AwOps.v hT rfl ?_
        refine AwOps.nil ?_
        refine Aw.tst rfl (fun hb20 => ?_) (fun hb20 => ?_)
        · skip
          have hk2 : 0 < k6 := by simpa using hb20
          refine Aw.skip (Aw.seq (Aw.block (Aw.seq (Aw.region ?_))))
          refine AwOps.v hT rfl ?_
          refine AwOps.cl (F81 _) [1000] rfl ⟨⟨1000, rfl, rfl⟩, trivial⟩ ⟨rfl, trivial⟩ rfl ?_   -- certpathmade.attribute
          rintro _ _ ⟨a3, d3, rfl, rfl, ha3⟩
          refine AwOps.eff hT rfl ?_
          refine AwOps.eff hT rfl ?_
          refine AwOps.nil (Aw.seq ?_)
          refine Aw.regionS [] [(true, 0), (true, 1), (true, 2), (true, 3), (true, 4), (true, 5), (true, 6), (true, 7), (true, 8), (true, 9), (true, 10), (true, 11)] (by kernel_rfl) (by kernel_rfl) ?_
          iterate 4 refine AwSch.take (Yd.val hT rfl rfl) ?_
          refine AwSch.split (t := 28) rfl (fun hb28 => ?_) (fun hb28 => ?_)
          · skip
            iterate 8 refine AwSch.take (Yd.val hT rfl rfl) ?_
            refine AwSch.nil (Aw.condT rfl (Aw.region ?_))
            refine AwOps.v hT rfl ?_
            refine AwOps.v hT rfl ?_
            refine AwOps.lit hT rfl ?_
            refine AwOps.turn (Tn.fz 39 rfl rfl (by first | rfl | (simp; done)) rfl) ?_
            refine AwOps.turn (Less.say (t := 39) (B := .one (.p (.sl (List.map eAttr [⟨_, _, _⟩])))) rfl rfl) ?_
            refine AwOps.appm  hT rfl rfl rfl (by first | rfl | (simp; done)) (by first | rfl | (simp; done)) (fun _ => rfl) (by simp only [List.length_cons, List.length_nil]; omega) ?_
            refine AwOps.v hT rfl ?_
            refine AwOps.nil (Aw.region ?_)
            refine AwOps.v hT rfl ?_
            refine AwOps.v hT rfl ?_
            first | refine AwOps.nm 22 rfl (by omega) (by omega) ?_ | skip
            refine AwOps.v hT rfl ?_
            refine AwOps.nil ?_
            refine ⟨(_, _, _), ?nx2, ?mu2, Tn.trans (Less.tn (τ := ⟨48, [(5, _), (6, _), (0, _), (2, _), (3, _), (4, _)], [(40, _), (1000, _), (2, _), (3, _), (930, _)]⟩) ⟨rfl, ⟨rfl, rfl, rfl, rfl, rfl, rfl, trivial⟩, ⟨rfl, rfl, rfl, rfl, rfl, trivial⟩⟩) (Tn.trans (Tn.ren 40 905 rfl rfl rfl) (Less.tn ⟨rfl, ⟨rfl, rfl, rfl, rfl, rfl, rfl, trivial⟩, ⟨rfl, rfl, rfl, rfl, rfl, trivial⟩⟩))⟩
            case nx2 =>
              try dsimp only
              first
                | exact ⟨by first | omega | (simp only [w64] at *; omega) | (simp [w64] at *; omega), by first | omega | (simp only [w64] at *; omega) | (simp [w64] at *; omega), hi2.2.2⟩
                | refine ⟨by first | omega | (simp only [w64] at *; omega) | (simp [w64] at *; omega), by simp only [List.length_append, List.length_cons, List.length_nil]; first | omega | (simp only [w64] at *; omega) | (simp [w64] at *; omega), fun s h => ?_⟩
                  rcases List.mem_append.1 h with h | h
                  · exact hi2.2.2 s h
                  · rw [List.mem_singleton.1 h]; exact attrL_ok _ (by assumption)
            case mu2 =>
              try dsimp only
              first | omega | (simp only [w64] at *; omega) | (simp [w64] at *; omega)
          · skip
            have hne : 0 < l5.length := by have := beq_eq_false_iff_ne.1 hb28; omega
            refine AwSch.take (Yd.val hT rfl rfl) ?_
            refine AwSch.take (Yd.idxo hT rfl rfl (by omega) hne) ?_
            refine AwSch.take (Yd.fao hT rfl rfl (by first | omega | (simp only [List.length_cons, List.length_nil, List.length_map]; omega) | (simp only [List.length_cons, List.length_nil, List.length_map, w64] at *; omega) | (simp [w64] at *; omega))) ?_
            refine AwSch.take (Yd.ldo hT rfl rfl (eAttr l5[0]) (by simp [hne]) rfl (by decide)) ?_
            iterate 4 refine AwSch.take (Yd.val hT rfl rfl) ?_
            refine AwSch.nil ?_
            refine Aw.tst rfl (fun hb36 => ?_) (fun hb36 => ?_)
            · skip
              refine Aw.region ?_
              refine AwOps.v hT rfl ?_
              refine AwOps.v hT rfl ?_
              refine AwOps.lit hT rfl ?_
              refine AwOps.turn (Tn.fz 39 rfl rfl (by first | rfl | (simp; done)) rfl) ?_
              refine AwOps.turn (Less.say (t := 39) (B := .one (.p (.sl (List.map eAttr [⟨_, _, _⟩])))) rfl rfl) ?_
              refine AwOps.appm  hT rfl rfl rfl (by first | rfl | (simp; done)) (by first | rfl | (simp; done)) (fun _ => rfl) (by simp only [List.length_cons, List.length_nil]; omega) ?_
              refine AwOps.v hT rfl ?_
              refine AwOps.nil (Aw.region ?_)
              refine AwOps.v hT rfl ?_
              refine AwOps.v hT rfl ?_
              first | refine AwOps.nm 22 rfl (by omega) (by omega) ?_ | skip
              refine AwOps.v hT rfl ?_
              refine AwOps.nil ?_
              refine ⟨(_, _, _), ?nx2, ?mu2, Tn.trans (Less.tn (τ := ⟨48, [(5, _), (6, _), (0, _), (2, _), (3, _), (4, _)], [(40, _), (1000, _), (2, _), (3, _), (930, _)]⟩) ⟨rfl, ⟨rfl, rfl, rfl, rfl, rfl, rfl, trivial⟩, ⟨rfl, rfl, rfl, rfl, rfl, trivial⟩⟩) (Tn.trans (Tn.ren 40 905 rfl rfl rfl) (Less.tn ⟨rfl, ⟨rfl, rfl, rfl, rfl, rfl, rfl, trivial⟩, ⟨rfl, rfl, rfl, rfl, rfl, trivial⟩⟩))⟩
              case nx2 =>
                try dsimp only
                first
                  | exact ⟨by first | omega | (simp only [w64] at *; omega) | (simp [w64] at *; omega), by first | omega | (simp only [w64] at *; omega) | (simp [w64] at *; omega), hi2.2.2⟩
                  | refine ⟨by first | omega | (simp only [w64] at *; omega) | (simp [w64] at *; omega), by simp only [List.length_append, List.length_cons, List.length_nil]; first | omega | (simp only [w64] at *; omega) | (simp [w64] at *; omega), fun s h => ?_⟩
                    rcases List.mem_append.1 h with h | h
                    · exact hi2.2.2 s h
                    · rw [List.mem_singleton.1 h]; exact attrL_ok _ (by assumption)
              case mu2 =>
                try dsimp only
                first | omega | (simp only [w64] at *; omega) | (simp [w64] at *; omega)
            · skip
              refine Aw.skip (Aw.region ?_)
              refine AwOps.v hT rfl ?_
              refine AwOps.v hT rfl ?_
              first | refine AwOps.nm 22 rfl (by omega) (by omega) ?_ | skip
              refine AwOps.v hT rfl ?_
              refine AwOps.nil ?_
              refine ⟨(_, _, _), ?nx2, ?mu2, Less.tn ⟨rfl, ⟨rfl, rfl, rfl, rfl, rfl, rfl, trivial⟩, ⟨rfl, rfl, rfl, rfl, rfl, trivial⟩⟩⟩
              case nx2 =>
                try dsimp only
                first
                  | exact ⟨by first | omega | (simp only [w64] at *; omega) | (simp [w64] at *; omega), by first | omega | (simp only [w64] at *; omega) | (simp [w64] at *; omega), hi2.2.2⟩
                  | refine ⟨by first | omega | (simp only [w64] at *; omega) | (simp [w64] at *; omega), by simp only [List.length_append, List.length_cons, List.length_nil]; first | omega | (simp only [w64] at *; omega) | (simp [w64] at *; omega), fun s h => ?_⟩
                    rcases List.mem_append.1 h with h | h
                    · exact hi2.2.2 s h
                    · rw [List.mem_singleton.1 h]; exact attrL_ok _ (by assumption)
              case mu2 =>
                try dsimp only
                first | omega | (simp only [w64] at *; omega) | (simp [w64] at *; omega)
        · skip
          refine Aw.exit (Aw.region ?_)
          iterate 3 refine AwOps.v hT rfl ?_
          refine AwOps.turn (Tn.fz2 43 5 rfl rfl rfl (by first | rfl | (simp; done)) (by first | rfl | (simp; done)) rfl) ?_
          refine AwOps.lit hT rfl ?_
          refine AwOps.turn (Tn.fz 44 rfl rfl (by first | rfl | (simp; done)) rfl) ?_
          refine AwOps.turn (Less.say (t := 44) (B := .one (.p (.sl (List.map eRdn [_])))) rfl rfl) ?_
          refine AwOps.appm  hT rfl rfl rfl (by first | rfl | (simp; done)) (by first | rfl | (simp; done)) (fun _ => rfl) (by simp only [List.length_cons, List.length_nil]; omega) ?_
          refine AwOps.v hT rfl ?_
          refine AwOps.eff hT rfl ?_
          refine AwOps.nil (Aw.region ?_)
          refine AwOps.v hT rfl ?_
          refine AwOps.v hT rfl ?_
          first | refine AwOps.nm 14 rfl (by omega) (by omega) ?_ | skip
          refine AwOps.v hT rfl ?_
          refine AwOps.nil ?_
          refine ⟨(_, _, _), ?nx1, ?mu1, Tn.trans (Less.tn (τ := ⟨48, [(4, _), (0, _), (2, _), (3, _)], [(3, _), (45, _), (1000, _), (2, _)]⟩) ⟨rfl, ⟨rfl, rfl, rfl, rfl, trivial⟩, ⟨rfl, rfl, rfl, rfl, trivial⟩⟩) (Tn.trans (Tn.ren 45 930 rfl rfl rfl) (Less.tn ⟨rfl, ⟨rfl, rfl, rfl, rfl, trivial⟩, ⟨rfl, rfl, rfl, rfl, trivial⟩⟩))⟩
          case nx1 =>
            try dsimp only
            exact ⟨by first | omega | (simp only [w64] at *; omega) | (simp [w64] at *; omega), by simp only [List.length_append, List.length_cons, List.length_nil]; first | omega | (simp only [w64] at *; omega) | (simp [w64] at *; omega), okNm_snoc hi1.2.2 (by omega) (by omega) hi2.2.2⟩
          case mu1 =>
            try dsimp only
            first | omega | (simp only [w64] at *; omega) | (simp [w64] at *; omega)
    · skip
      refine Aw.exit (Aw.seq (Aw.region ?_))
      refine AwOps.turn (Tn.freezeC 3 0 rfl rfl rfl (by first | rfl | (simp; done)) rfl rfl) ?_
      refine AwOps.v hT rfl ?_
      refine AwOps.eff hT rfl ?_
      refine AwOps.nil ?_
      refine Aw.ret ?_
      refine ⟨_, [_], rfl, ⟨rfl, trivial⟩, ?_⟩
      exact ⟨_, _, rfl, rfl, hi1.2.2, by omega⟩
def okSL (l : List ByteArray) : Prop := (l.all fun x => Nat.ble x.size 100) = true
theorem okS_at {l : List ByteArray} (h : okSL l) {i : Nat} (hi : i < l.length) : okS l[i] := okS_of (n := 100) (List.getElem_mem hi) h (by decide)
-- f37 certpath/certpathmade.General
theorem F37 (d : Dk) : Fn Tryd.prog 19 [.ptr 0 0] [(68, eDk d)] (fun r H' => ∃ (x : Gn) (d' : Dk), r = .agg (eGn x) ∧ H' = [eDk d'] ∧ okG x) := by
  refine Fn.intro (rs := [.cell 2 60]) hT Tryd.func19 (by kernel_rfl) rfl rfl rfl rfl fun C => ?_
  refine Aw.seq (Aw.region ?_)
  refine AwOps.eff hT rfl ?_
  refine AwOps.nil (Aw.seq (Aw.seq (Aw.region ?_)))
  refine AwOps.v hT rfl ?_
  refine AwOps.cl (F10 _ _ (by first | omega | (simp only [w64] at *; omega) | (simp [w64] at *; omega)) (by first | omega | (simp only [w64] at *; omega) | (simp [w64] at *; omega))) [1000] rfl ⟨⟨1000, rfl, rfl⟩, ⟨rfl, rfl⟩, trivial⟩ ⟨rfl, trivial⟩ rfl ?_   -- certpathmade.Deck).Next
  rintro _ _ ⟨v1, d1, rfl, rfl, hv1, hw1⟩
  refine AwOps.nil (Aw.block (Aw.seq (Aw.region ?_)))
  refine AwOps.v hT rfl ?_
  refine AwOps.v hT rfl ?_
  refine AwOps.nil ?_
  refine Aw.tst rfl (fun hb5 => ?_) (fun hb5 => ?_)
  · skip
    refine Aw.seq (Aw.region ?_)
    refine AwOps.lit hT rfl ?_
    refine AwOps.turn (Tn.fz 7 rfl rfl (by first | rfl | (simp; done)) rfl) ?_
    refine AwOps.turn (Less.say (t := 7) (B := .one (.p (.sl (List.map eStr [_, _, _, _, _, _])))) rfl rfl) ?_
    refine AwOps.v hT rfl ?_
    refine AwOps.cl (F10 _ _ (by first | omega | (simp only [w64] at *; omega) | (simp [w64] at *; omega)) (by first | omega | (simp only [w64] at *; omega) | (simp [w64] at *; omega))) [1000] rfl ⟨⟨1000, rfl, rfl⟩, ⟨rfl, rfl⟩, trivial⟩ ⟨rfl, trivial⟩ rfl ?_   -- certpathmade.Deck).Next
    rintro _ _ ⟨v2, d2, rfl, rfl, hv2, hw2⟩
    refine AwOps.imI hT rfl (by first | omega | (simp only [w64] at *; omega) | (simp [w64] at *; omega)) (by first | omega | (simp only [List.length_cons, List.length_nil, List.length_map]; omega) | (simp only [List.length_cons, List.length_nil, List.length_map, w64] at *; omega) | (simp [w64] at *; omega)) rfl ?_
    refine AwOps.v hT rfl ?_
    refine AwOps.build hT rfl ?_
    refine AwOps.turn (Less.say (t := 12) (B := .agg [_, _, .sl (List.map eRdn [])]) rfl rfl) ?_
    refine AwOps.eff hT rfl ?_
    refine AwOps.nil ?_
    refine Aw.ret ?_
    refine ⟨_, [_], rfl, ⟨rfl, trivial⟩, ?_⟩
    refine ⟨⟨1, _, []⟩, _, rfl, rfl, ?_, okNm_nil⟩
    exact okS_at (by exact rfl) _
  · skip
    refine Aw.seq (Aw.region ?_)
    refine AwOps.v hT rfl ?_
    refine AwOps.v hT rfl ?_
    refine AwOps.nil ?_
    refine Aw.tst rfl (fun hb13 => ?_) (fun hb13 => ?_)
    · skip
      refine Aw.seq (Aw.region ?_)
      refine AwOps.lit hT rfl ?_
      refine AwOps.turn (Tn.fz 15 rfl rfl (by first | rfl | (simp; done)) rfl) ?_
      refine AwOps.turn (Less.say (t := 15) (B := .one (.p (.sl (List.map eStr [_, _, _, _, _, _, _])))) rfl rfl) ?_
      refine AwOps.v hT rfl ?_
      refine AwOps.cl (F10 _ _ (by first | omega | (simp only [w64] at *; omega) | (simp [w64] at *; omega)) (by first | omega | (simp only [w64] at *; omega) | (simp [w64] at *; omega))) [1000] rfl ⟨⟨1000, rfl, rfl⟩, ⟨rfl, rfl⟩, trivial⟩ ⟨rfl, trivial⟩ rfl ?_   -- certpathmade.Deck).Next
      rintro _ _ ⟨v3, d3, rfl, rfl, hv3, hw3⟩
      refine AwOps.imI hT rfl (by first | omega | (simp only [w64] at *; omega) | (simp [w64] at *; omega)) (by first | omega | (simp only [List.length_cons, List.length_nil, List.length_map]; omega) | (simp only [List.length_cons, List.length_nil, List.length_map, w64] at *; omega) | (simp [w64] at *; omega)) rfl ?_
      refine AwOps.v hT rfl ?_
      refine AwOps.build hT rfl ?_
      refine AwOps.turn (Less.say (t := 20) (B := .agg [_, _, .sl (List.map eRdn [])]) rfl rfl) ?_
      refine AwOps.eff hT rfl ?_
      refine AwOps.nil ?_
      refine Aw.ret ?_
      refine ⟨_, [_], rfl, ⟨rfl, trivial⟩, ?_⟩
      refine ⟨⟨2, _, []⟩, _, rfl, rfl, ?_, okNm_nil⟩
      exact okS_at (by exact rfl) _
    · skip
      refine Aw.seq (Aw.region ?_)
      refine AwOps.v hT rfl ?_
      refine AwOps.v hT rfl ?_
      refine AwOps.nil ?_
      refine Aw.tst rfl (fun hb21 => ?_) (fun hb21 => ?_)
      · skip
        refine Aw.seq (Aw.region ?_)
        refine AwOps.lit hT rfl ?_
        refine AwOps.turn (Tn.fz 23 rfl rfl (by first | rfl | (simp; done)) rfl) ?_
        refine AwOps.turn (Less.say (t := 23) (B := .one (.p (.sl (List.map eStr [_, _, _, _])))) rfl rfl) ?_
        refine AwOps.v hT rfl ?_
        refine AwOps.cl (F10 _ _ (by first | omega | (simp only [w64] at *; omega) | (simp [w64] at *; omega)) (by first | omega | (simp only [w64] at *; omega) | (simp [w64] at *; omega))) [1000] rfl ⟨⟨1000, rfl, rfl⟩, ⟨rfl, rfl⟩, trivial⟩ ⟨rfl, trivial⟩ rfl ?_   -- certpathmade.Deck).Next
        rintro _ _ ⟨v4, d4, rfl, rfl, hv4, hw4⟩
        refine AwOps.imI hT rfl (by first | omega | (simp only [w64] at *; omega) | (simp [w64] at *; omega)) (by first | omega | (simp only [List.length_cons, List.length_nil, List.length_map]; omega) | (simp only [List.length_cons, List.length_nil, List.length_map, w64] at *; omega) | (simp [w64] at *; omega)) rfl ?_
        refine AwOps.v hT rfl ?_
        refine AwOps.build hT rfl ?_
        refine AwOps.turn (Less.say (t := 28) (B := .agg [_, _, .sl (List.map eRdn [])]) rfl rfl) ?_
        refine AwOps.eff hT rfl ?_
        refine AwOps.nil ?_
        refine Aw.ret ?_
        refine ⟨_, [_], rfl, ⟨rfl, trivial⟩, ?_⟩
        refine ⟨⟨7, _, []⟩, _, rfl, rfl, ?_, okNm_nil⟩
        exact okS_at (by exact rfl) _
      · skip
        refine Aw.skip (Aw.seq (Aw.region ?_))
        refine AwOps.v hT rfl ?_
        refine AwOps.cl (F64 _) [1000] rfl ⟨⟨1000, rfl, rfl⟩, trivial⟩ ⟨rfl, trivial⟩ rfl ?_   -- certpathmade.Name
        rintro _ _ ⟨n5, d5, rfl, rfl, hn5⟩
        refine AwOps.build hT rfl ?_
        refine AwOps.turn (Less.say (t := 31) (B := .agg [_, .v (.string ⟨#[]⟩), _]) rfl rfl) ?_
        refine AwOps.eff hT rfl ?_
        refine AwOps.nil ?_
        refine Aw.ret ?_
        refine ⟨_, [_], rfl, ⟨rfl, trivial⟩, ?_⟩
        exact ⟨⟨4, ⟨#[]⟩, _⟩, _, rfl, rfl, by simp [okS, ByteArray.size], (by first | exact hn5.1 | exact hn2.1 | exact hn3.1 | exact hn4.1 | exact hn6.1)⟩
theorem okGs_snoc {l : List Gn} {g : Gn} (h : okGs l) (hl : l.length ≤ 900) (hg : okG g) : okGs (l ++ [g]) := ⟨by simp; omega, fun x hx => by
  rcases List.mem_append.1 hx with hx | hx
  · exact h.2 x hx
  · rw [List.mem_singleton.1 hx]; exact hg⟩
def okPts (l : List Point) : Prop := l.length ≤ 1000 ∧ ∀ p ∈ l, okPt p
theorem okPts_nil : okPts [] := ⟨by simp, fun _ h => (by cases h)⟩
theorem okPts_snoc {l : List Point} {g : Point} (h : okPts l) (hl : l.length ≤ 900) (hg : okPt g) : okPts (l ++ [g]) := ⟨by simp; omega, fun x hx => by
  rcases List.mem_append.1 hx with hx | hx
  · exact h.2 x hx
  · rw [List.mem_singleton.1 hx]; exact hg⟩
-- f71 certpath/certpathmade2.Points
theorem F71 (d : Dk) : Fn Tryd.prog 23 [.ptr 0 0] [(68, eDk d)] (fun r H' => ∃ (x : List Point) (d' : Dk), r = .one (.p (.sl (x.map ePoint))) ∧ H' = [eDk d'] ∧ okPts x ∧ x.length ≤ 3) := by
  refine Fn.intro (rs := [.tmp 2]) hT Tryd.func23 (by kernel_rfl) rfl rfl rfl rfl fun C => ?_
  refine Aw.seq (Aw.region ?_)
  refine AwOps.v hT rfl ?_
  refine AwOps.nil (Aw.seq (Aw.region ?_))
  refine AwOps.v hT rfl ?_
  refine AwOps.nil (Aw.seq (Aw.seq (Aw.region ?_)))
  refine AwOps.v hT rfl ?_
  refine AwOps.cl (F10 _ _ (by first | omega | (simp only [w64] at *; omega) | (simp [w64] at *; omega)) (by first | omega | (simp only [w64] at *; omega) | (simp [w64] at *; omega))) [1000] rfl ⟨⟨1000, rfl, rfl⟩, ⟨rfl, rfl⟩, trivial⟩ ⟨rfl, trivial⟩ rfl ?_   -- certpathmade.Deck).Next
  rintro _ _ ⟨v1, d1, rfl, rfl, hv1, hw1⟩
  refine AwOps.v hT rfl ?_
  first | refine AwOps.nm 8 rfl (by omega) (by omega) ?_ | skip
  refine AwOps.v hT rfl ?_
  refine AwOps.nil (Aw.block ?_)
  refine Aw.turn (Tn.own 3 903 53 4 rfl (by decide) (by decide) rfl) ?_
  refine Aw.lp (ι := List (Point) × Int × Dk) (n := 47) [(0, _)] [] (fun gq => [(3, .one (.own 903 gq.1.length)), (4, sc (.int .i64 gq.2.1))]) (fun gq => [(903, .row 53 4 true (List.map ePoint gq.1)), (1000, .box ⟨68, eDk gq.2.2, []⟩)]) (fun gq => 0 ≤ gq.2.1 ∧ gq.2.1 + gq.1.length ≤ 3 ∧ okPts gq.1) (fun gq => gq.2.1.toNat) ([], _, _) ?ok1 (Less.tn ⟨rfl, ⟨rfl, rfl, rfl, trivial⟩, ⟨rfl, rfl, trivial⟩⟩) ?bd1
  case ok1 =>
    try dsimp only
    exact ⟨by first | omega | (simp only [w64] at *; omega) | (simp [w64] at *; omega), by simp only [List.length_nil]; first | omega | (simp only [w64] at *; omega) | (simp [w64] at *; omega), okPts_nil⟩
  case bd1 =>
    rintro ⟨l3, k4, x1000⟩ hi1
    try dsimp only at hi1
    show Aw _ _ _ ⟨47, [(3, .one (.own 903 l3.length)), (4, sc (.int .i64 k4))] ++ [(0, _)], [(903, .row 53 4 true (List.map ePoint l3)), (1000, .box ⟨68, eDk x1000, []⟩)] ++ []⟩ _
    refine Aw.seq (Aw.seq (Aw.region ?_))
    refine AwOps.v hT rfl ?_
    refine AwOps.v hT rfl ?_
    refine AwOps.nil ?_
    refine Aw.tst rfl (fun hb10 => ?_) (fun hb10 => ?_)
    · skip
      have hk : 0 < k4 := by simpa using hb10
      refine Aw.skip (Aw.seq (Aw.block (Aw.seq (Aw.region ?_))))
      refine AwOps.lit hT rfl ?_
      refine AwOps.turn (Tn.fz 13 rfl rfl (by first | rfl | (simp; done)) rfl) ?_
      refine AwOps.turn (Less.say (t := 13) (B := .one (.p (.sl (List.map eI [_, _, _, _, _])))) rfl rfl) ?_
      refine AwOps.v hT rfl ?_
      refine AwOps.cl (F10 _ _ (by first | omega | (simp only [w64] at *; omega) | (simp [w64] at *; omega)) (by first | omega | (simp only [w64] at *; omega) | (simp [w64] at *; omega))) [1000] rfl ⟨⟨1000, rfl, rfl⟩, ⟨rfl, rfl⟩, trivial⟩ ⟨rfl, trivial⟩ rfl ?_   -- certpathmade.Deck).Next
      rintro _ _ ⟨v2, d2, rfl, rfl, hv2, hw2⟩
      refine AwOps.imI hT rfl (by first | omega | (simp only [w64] at *; omega) | (simp [w64] at *; omega)) (by first | omega | (simp only [List.length_cons, List.length_nil, List.length_map]; omega) | (simp only [List.length_cons, List.length_nil, List.length_map, w64] at *; omega) | (simp [w64] at *; omega)) rfl ?_
      refine AwOps.v hT rfl ?_
      refine AwOps.build hT rfl ?_
      refine AwOps.turn (Less.say (t := 18) (B := .agg [.sl (List.map eGn []), _, .v (.bool false), .sl (List.map eRdn [])]) rfl rfl) ?_
      refine AwOps.eff hT rfl ?_
      refine AwOps.eff hT rfl ?_
      refine AwOps.nil (Aw.seq (Aw.seq (Aw.region ?_)))
      refine AwOps.v hT rfl ?_
      refine AwOps.cl (F10 _ _ (by first | omega | (simp only [w64] at *; omega) | (simp [w64] at *; omega)) (by first | omega | (simp only [w64] at *; omega) | (simp [w64] at *; omega))) [1000] rfl ⟨⟨1000, rfl, rfl⟩, ⟨rfl, rfl⟩, trivial⟩ ⟨rfl, trivial⟩ rfl ?_   -- certpathmade.Deck).Next
      rintro _ _ ⟨v3, d3, rfl, rfl, hv3, hw3⟩
      refine AwOps.v hT rfl ?_
      refine AwOps.nil ?_
      refine Aw.tst rfl (fun hb21 => ?_) (fun hb21 => ?_)
      · skip
        refine Aw.region ?_
        refine AwOps.v hT rfl ?_
        refine AwOps.cl (F10 _ _ (by first | omega | (simp only [w64] at *; omega) | (simp [w64] at *; omega)) (by first | omega | (simp only [w64] at *; omega) | (simp [w64] at *; omega))) [1000] rfl ⟨⟨1000, rfl, rfl⟩, ⟨rfl, rfl⟩, trivial⟩ ⟨rfl, trivial⟩ rfl ?_   -- certpathmade.Deck).Next
        rintro _ _ ⟨v4, d4, rfl, rfl, hv4, hw4⟩
        refine AwOps.cl (F83 _ (by first | omega | (simp only [w64] at *; omega) | (simp [w64] at *; omega))) [] rfl ⟨⟨rfl, rfl⟩, trivial⟩ trivial rfl ?_   -- certpathmade2.place
        rintro _ _ ⟨g5, rfl, hg5⟩
        refine AwOps.lit hT rfl ?_
        refine AwOps.turn (Tn.fz 25 rfl rfl (by first | rfl | (simp; done)) rfl) ?_
        refine AwOps.turn (Less.say (t := 25) (B := .one (.p (.sl (List.map eGn [⟨_, _, _⟩])))) rfl rfl) ?_
        refine AwOps.v hT rfl ?_
        refine AwOps.eff hT rfl ?_
        refine AwOps.nil (Aw.seq (Aw.seq (Aw.region ?_)))
        iterate 5 refine AwOps.v hT rfl ?_
        refine AwOps.split (t := 31) rfl (fun hb31 => ?_) (fun hb31 => ?_)
        · skip
          iterate 4 refine AwOps.v hT rfl ?_
          refine AwOps.nil (Aw.condT rfl (Aw.region ?_))
          refine AwOps.v hT rfl ?_
          refine AwOps.cl (F10 _ _ (by first | omega | (simp only [w64] at *; omega) | (simp [w64] at *; omega)) (by first | omega | (simp only [w64] at *; omega) | (simp [w64] at *; omega))) [1000] rfl ⟨⟨1000, rfl, rfl⟩, ⟨rfl, rfl⟩, trivial⟩ ⟨rfl, trivial⟩ rfl ?_   -- certpathmade.Deck).Next
          rintro _ _ ⟨v6, d6, rfl, rfl, hv6, hw6⟩
          refine AwOps.cl (F33 _ (by first | omega | (simp only [w64] at *; omega) | (simp [w64] at *; omega))) [] rfl ⟨⟨rfl, rfl⟩, trivial⟩ trivial rfl ?_   -- certpathmade2.Named
          rintro _ _ ⟨v7, hv7, rfl⟩
          have hw7 := namedL_nn _ hv7
          refine AwOps.cl (F25 _ (by first | omega | (simp only [w64] at *; omega) | (simp [w64] at *; omega))) [] rfl ⟨⟨rfl, rfl⟩, trivial⟩ trivial rfl ?_   -- certpathmade.Authority
          rintro _ _ rfl
          refine AwOps.v hT rfl ?_
          refine AwOps.eff hT rfl ?_
          refine AwOps.v hT rfl ?_
          refine AwOps.eff hT rfl ?_
          refine AwOps.nil (Aw.region ?_)
          refine AwOps.v hT rfl ?_
          refine AwOps.v hT rfl ?_
          refine AwOps.lit hT rfl ?_
          refine AwOps.turn (Tn.fz 44 rfl rfl (by first | rfl | (simp; done)) rfl) ?_
          refine AwOps.turn (Less.say (t := 44) (B := .one (.p (.sl (List.map ePoint [⟨_, _, _, _⟩])))) rfl rfl) ?_
          refine AwOps.appm  hT rfl rfl rfl (by first | rfl | (simp; done)) (by first | rfl | (simp; done)) (fun _ => rfl) (by simp only [List.length_cons, List.length_nil]; omega) ?_
          refine AwOps.v hT rfl ?_
          refine AwOps.nil (Aw.region ?_)
          refine AwOps.v hT rfl ?_
          refine AwOps.v hT rfl ?_
          first | refine AwOps.nm 12 rfl (by omega) (by omega) ?_ | skip
          refine AwOps.v hT rfl ?_
          refine AwOps.nil ?_
          refine ⟨(_, _, _), ?nx1, ?mu1, Tn.trans (Less.tn (τ := ⟨47, [(3, _), (4, _), (0, _)], [(45, _), (1000, _)]⟩) ⟨rfl, ⟨rfl, rfl, rfl, trivial⟩, ⟨rfl, rfl, trivial⟩⟩) (Tn.trans (Tn.ren 45 903 rfl rfl rfl) (Less.tn ⟨rfl, ⟨rfl, rfl, rfl, trivial⟩, ⟨rfl, rfl, trivial⟩⟩))⟩
          case nx1 =>
            try dsimp only
            exact ⟨by first | omega | (simp only [w64] at *; omega) | (simp [w64] at *; omega), by simp only [List.length_append, List.length_cons, List.length_nil]; first | omega | (simp only [w64] at *; omega) | (simp [w64] at *; omega), okPts_snoc hi1.2.2 (by omega) ⟨by first | exact okGs_nil | exact okGs_snoc okGs_nil (by simp) (by assumption), by first | exact okNm_nil | exact okNm_auth _⟩⟩
          case mu1 =>
            try dsimp only
            first | omega | (simp only [w64] at *; omega) | (simp [w64] at *; omega)
        · skip
          refine AwOps.v hT rfl ?_
          refine AwOps.cl (F10 _ _ (by first | omega | (simp only [w64] at *; omega) | (simp [w64] at *; omega)) (by first | omega | (simp only [w64] at *; omega) | (simp [w64] at *; omega))) [1000] rfl ⟨⟨1000, rfl, rfl⟩, ⟨rfl, rfl⟩, trivial⟩ ⟨rfl, trivial⟩ rfl ?_   -- certpathmade.Deck).Next
          rintro _ _ ⟨v9, d9, rfl, rfl, hv9, hw9⟩
          refine AwOps.v hT rfl ?_
          refine AwOps.v hT rfl ?_
          refine AwOps.nil ?_
          refine Aw.tst rfl (fun hb35 => ?_) (fun hb35 => ?_)
          · skip
            refine Aw.region ?_
            refine AwOps.v hT rfl ?_
            refine AwOps.cl (F10 _ _ (by first | omega | (simp only [w64] at *; omega) | (simp [w64] at *; omega)) (by first | omega | (simp only [w64] at *; omega) | (simp [w64] at *; omega))) [1000] rfl ⟨⟨1000, rfl, rfl⟩, ⟨rfl, rfl⟩, trivial⟩ ⟨rfl, trivial⟩ rfl ?_   -- certpathmade.Deck).Next
            rintro _ _ ⟨v10, d10, rfl, rfl, hv10, hw10⟩
            refine AwOps.cl (F33 _ (by first | omega | (simp only [w64] at *; omega) | (simp [w64] at *; omega))) [] rfl ⟨⟨rfl, rfl⟩, trivial⟩ trivial rfl ?_   -- certpathmade2.Named
            rintro _ _ ⟨v11, hv11, rfl⟩
            have hw11 := namedL_nn _ hv11
            refine AwOps.cl (F25 _ (by first | omega | (simp only [w64] at *; omega) | (simp [w64] at *; omega))) [] rfl ⟨⟨rfl, rfl⟩, trivial⟩ trivial rfl ?_   -- certpathmade.Authority
            rintro _ _ rfl
            refine AwOps.v hT rfl ?_
            refine AwOps.eff hT rfl ?_
            refine AwOps.v hT rfl ?_
            refine AwOps.eff hT rfl ?_
            refine AwOps.nil (Aw.region ?_)
            refine AwOps.v hT rfl ?_
            refine AwOps.v hT rfl ?_
            refine AwOps.lit hT rfl ?_
            refine AwOps.turn (Tn.fz 44 rfl rfl (by first | rfl | (simp; done)) rfl) ?_
            refine AwOps.turn (Less.say (t := 44) (B := .one (.p (.sl (List.map ePoint [⟨_, _, _, _⟩])))) rfl rfl) ?_
            refine AwOps.appm  hT rfl rfl rfl (by first | rfl | (simp; done)) (by first | rfl | (simp; done)) (fun _ => rfl) (by simp only [List.length_cons, List.length_nil]; omega) ?_
            refine AwOps.v hT rfl ?_
            refine AwOps.nil (Aw.region ?_)
            refine AwOps.v hT rfl ?_
            refine AwOps.v hT rfl ?_
            first | refine AwOps.nm 12 rfl (by omega) (by omega) ?_ | skip
            refine AwOps.v hT rfl ?_
            refine AwOps.nil ?_
            refine ⟨(_, _, _), ?nx1, ?mu1, Tn.trans (Less.tn (τ := ⟨47, [(3, _), (4, _), (0, _)], [(45, _), (1000, _)]⟩) ⟨rfl, ⟨rfl, rfl, rfl, trivial⟩, ⟨rfl, rfl, trivial⟩⟩) (Tn.trans (Tn.ren 45 903 rfl rfl rfl) (Less.tn ⟨rfl, ⟨rfl, rfl, rfl, trivial⟩, ⟨rfl, rfl, trivial⟩⟩))⟩
            case nx1 =>
              try dsimp only
              exact ⟨by first | omega | (simp only [w64] at *; omega) | (simp [w64] at *; omega), by simp only [List.length_append, List.length_cons, List.length_nil]; first | omega | (simp only [w64] at *; omega) | (simp [w64] at *; omega), okPts_snoc hi1.2.2 (by omega) ⟨by first | exact okGs_nil | exact okGs_snoc okGs_nil (by simp) (by assumption), by first | exact okNm_nil | exact okNm_auth _⟩⟩
            case mu1 =>
              try dsimp only
              first | omega | (simp only [w64] at *; omega) | (simp [w64] at *; omega)
          · skip
            refine Aw.skip (Aw.region ?_)
            refine AwOps.v hT rfl ?_
            refine AwOps.v hT rfl ?_
            refine AwOps.lit hT rfl ?_
            refine AwOps.turn (Tn.fz 44 rfl rfl (by first | rfl | (simp; done)) rfl) ?_
            refine AwOps.turn (Less.say (t := 44) (B := .one (.p (.sl (List.map ePoint [⟨_, _, _, _⟩])))) rfl rfl) ?_
            refine AwOps.appm  hT rfl rfl rfl (by first | rfl | (simp; done)) (by first | rfl | (simp; done)) (fun _ => rfl) (by simp only [List.length_cons, List.length_nil]; omega) ?_
            refine AwOps.v hT rfl ?_
            refine AwOps.nil (Aw.region ?_)
            refine AwOps.v hT rfl ?_
            refine AwOps.v hT rfl ?_
            first | refine AwOps.nm 12 rfl (by omega) (by omega) ?_ | skip
            refine AwOps.v hT rfl ?_
            refine AwOps.nil ?_
            refine ⟨(_, _, _), ?nx1, ?mu1, Tn.trans (Less.tn (τ := ⟨47, [(3, _), (4, _), (0, _)], [(45, _), (1000, _)]⟩) ⟨rfl, ⟨rfl, rfl, rfl, trivial⟩, ⟨rfl, rfl, trivial⟩⟩) (Tn.trans (Tn.ren 45 903 rfl rfl rfl) (Less.tn ⟨rfl, ⟨rfl, rfl, rfl, trivial⟩, ⟨rfl, rfl, trivial⟩⟩))⟩
            case nx1 =>
              try dsimp only
              exact ⟨by first | omega | (simp only [w64] at *; omega) | (simp [w64] at *; omega), by simp only [List.length_append, List.length_cons, List.length_nil]; first | omega | (simp only [w64] at *; omega) | (simp [w64] at *; omega), okPts_snoc hi1.2.2 (by omega) ⟨by first | exact okGs_nil | exact okGs_snoc okGs_nil (by simp) (by assumption), by first | exact okNm_nil | exact okNm_auth _⟩⟩
            case mu1 =>
              try dsimp only
              first | omega | (simp only [w64] at *; omega) | (simp [w64] at *; omega)
      · skip
        refine Aw.skip (Aw.seq (Aw.seq (Aw.region ?_)))
        iterate 5 refine AwOps.v hT rfl ?_
        refine AwOps.split (t := 31) rfl (fun hb31 => ?_) (fun hb31 => ?_)
        · skip
          iterate 4 refine AwOps.v hT rfl ?_
          refine AwOps.nil (Aw.condT rfl (Aw.region ?_))
          refine AwOps.v hT rfl ?_
          refine AwOps.cl (F10 _ _ (by first | omega | (simp only [w64] at *; omega) | (simp [w64] at *; omega)) (by first | omega | (simp only [w64] at *; omega) | (simp [w64] at *; omega))) [1000] rfl ⟨⟨1000, rfl, rfl⟩, ⟨rfl, rfl⟩, trivial⟩ ⟨rfl, trivial⟩ rfl ?_   -- certpathmade.Deck).Next
          rintro _ _ ⟨v13, d13, rfl, rfl, hv13, hw13⟩
          refine AwOps.cl (F33 _ (by first | omega | (simp only [w64] at *; omega) | (simp [w64] at *; omega))) [] rfl ⟨⟨rfl, rfl⟩, trivial⟩ trivial rfl ?_   -- certpathmade2.Named
          rintro _ _ ⟨v14, hv14, rfl⟩
          have hw14 := namedL_nn _ hv14
          refine AwOps.cl (F25 _ (by first | omega | (simp only [w64] at *; omega) | (simp [w64] at *; omega))) [] rfl ⟨⟨rfl, rfl⟩, trivial⟩ trivial rfl ?_   -- certpathmade.Authority
          rintro _ _ rfl
          refine AwOps.v hT rfl ?_
          refine AwOps.eff hT rfl ?_
          refine AwOps.v hT rfl ?_
          refine AwOps.eff hT rfl ?_
          refine AwOps.nil (Aw.region ?_)
          refine AwOps.v hT rfl ?_
          refine AwOps.v hT rfl ?_
          refine AwOps.lit hT rfl ?_
          refine AwOps.turn (Tn.fz 44 rfl rfl (by first | rfl | (simp; done)) rfl) ?_
          refine AwOps.turn (Less.say (t := 44) (B := .one (.p (.sl (List.map ePoint [⟨_, _, _, _⟩])))) rfl rfl) ?_
          refine AwOps.appm  hT rfl rfl rfl (by first | rfl | (simp; done)) (by first | rfl | (simp; done)) (fun _ => rfl) (by simp only [List.length_cons, List.length_nil]; omega) ?_
          refine AwOps.v hT rfl ?_
          refine AwOps.nil (Aw.region ?_)
          refine AwOps.v hT rfl ?_
          refine AwOps.v hT rfl ?_
          first | refine AwOps.nm 12 rfl (by omega) (by omega) ?_ | skip
          refine AwOps.v hT rfl ?_
          refine AwOps.nil ?_
          refine ⟨(_, _, _), ?nx1, ?mu1, Tn.trans (Less.tn (τ := ⟨47, [(3, _), (4, _), (0, _)], [(45, _), (1000, _)]⟩) ⟨rfl, ⟨rfl, rfl, rfl, trivial⟩, ⟨rfl, rfl, trivial⟩⟩) (Tn.trans (Tn.ren 45 903 rfl rfl rfl) (Less.tn ⟨rfl, ⟨rfl, rfl, rfl, trivial⟩, ⟨rfl, rfl, trivial⟩⟩))⟩
          case nx1 =>
            try dsimp only
            exact ⟨by first | omega | (simp only [w64] at *; omega) | (simp [w64] at *; omega), by simp only [List.length_append, List.length_cons, List.length_nil]; first | omega | (simp only [w64] at *; omega) | (simp [w64] at *; omega), okPts_snoc hi1.2.2 (by omega) ⟨by first | exact okGs_nil | exact okGs_snoc okGs_nil (by simp) (by assumption), by first | exact okNm_nil | exact okNm_auth _⟩⟩
          case mu1 =>
            try dsimp only
            first | omega | (simp only [w64] at *; omega) | (simp [w64] at *; omega)
        · skip
          refine AwOps.v hT rfl ?_
          refine AwOps.cl (F10 _ _ (by first | omega | (simp only [w64] at *; omega) | (simp [w64] at *; omega)) (by first | omega | (simp only [w64] at *; omega) | (simp [w64] at *; omega))) [1000] rfl ⟨⟨1000, rfl, rfl⟩, ⟨rfl, rfl⟩, trivial⟩ ⟨rfl, trivial⟩ rfl ?_   -- certpathmade.Deck).Next
          rintro _ _ ⟨v16, d16, rfl, rfl, hv16, hw16⟩
          refine AwOps.v hT rfl ?_
          refine AwOps.v hT rfl ?_
          refine AwOps.nil ?_
          refine Aw.tst rfl (fun hb35 => ?_) (fun hb35 => ?_)
          · skip
            refine Aw.region ?_
            refine AwOps.v hT rfl ?_
            refine AwOps.cl (F10 _ _ (by first | omega | (simp only [w64] at *; omega) | (simp [w64] at *; omega)) (by first | omega | (simp only [w64] at *; omega) | (simp [w64] at *; omega))) [1000] rfl ⟨⟨1000, rfl, rfl⟩, ⟨rfl, rfl⟩, trivial⟩ ⟨rfl, trivial⟩ rfl ?_   -- certpathmade.Deck).Next
            rintro _ _ ⟨v17, d17, rfl, rfl, hv17, hw17⟩
            refine AwOps.cl (F33 _ (by first | omega | (simp only [w64] at *; omega) | (simp [w64] at *; omega))) [] rfl ⟨⟨rfl, rfl⟩, trivial⟩ trivial rfl ?_   -- certpathmade2.Named
            rintro _ _ ⟨v18, hv18, rfl⟩
            have hw18 := namedL_nn _ hv18
            refine AwOps.cl (F25 _ (by first | omega | (simp only [w64] at *; omega) | (simp [w64] at *; omega))) [] rfl ⟨⟨rfl, rfl⟩, trivial⟩ trivial rfl ?_   -- certpathmade.Authority
            rintro _ _ rfl
            refine AwOps.v hT rfl ?_
            refine AwOps.eff hT rfl ?_
            refine AwOps.v hT rfl ?_
            refine AwOps.eff hT rfl ?_
            refine AwOps.nil (Aw.region ?_)
            refine AwOps.v hT rfl ?_
            refine AwOps.v hT rfl ?_
            refine AwOps.lit hT rfl ?_
            refine AwOps.turn (Tn.fz 44 rfl rfl (by first | rfl | (simp; done)) rfl) ?_
            refine AwOps.turn (Less.say (t := 44) (B := .one (.p (.sl (List.map ePoint [⟨_, _, _, _⟩])))) rfl rfl) ?_
            refine AwOps.appm  hT rfl rfl rfl (by first | rfl | (simp; done)) (by first | rfl | (simp; done)) (fun _ => rfl) (by simp only [List.length_cons, List.length_nil]; omega) ?_
            refine AwOps.v hT rfl ?_
            refine AwOps.nil (Aw.region ?_)
            refine AwOps.v hT rfl ?_
            refine AwOps.v hT rfl ?_
            first | refine AwOps.nm 12 rfl (by omega) (by omega) ?_ | skip
            refine AwOps.v hT rfl ?_
            refine AwOps.nil ?_
            refine ⟨(_, _, _), ?nx1, ?mu1, Tn.trans (Less.tn (τ := ⟨47, [(3, _), (4, _), (0, _)], [(45, _), (1000, _)]⟩) ⟨rfl, ⟨rfl, rfl, rfl, trivial⟩, ⟨rfl, rfl, trivial⟩⟩) (Tn.trans (Tn.ren 45 903 rfl rfl rfl) (Less.tn ⟨rfl, ⟨rfl, rfl, rfl, trivial⟩, ⟨rfl, rfl, trivial⟩⟩))⟩
            case nx1 =>
              try dsimp only
              exact ⟨by first | omega | (simp only [w64] at *; omega) | (simp [w64] at *; omega), by simp only [List.length_append, List.length_cons, List.length_nil]; first | omega | (simp only [w64] at *; omega) | (simp [w64] at *; omega), okPts_snoc hi1.2.2 (by omega) ⟨by first | exact okGs_nil | exact okGs_snoc okGs_nil (by simp) (by assumption), by first | exact okNm_nil | exact okNm_auth _⟩⟩
            case mu1 =>
              try dsimp only
              first | omega | (simp only [w64] at *; omega) | (simp [w64] at *; omega)
          · skip
            refine Aw.skip (Aw.region ?_)
            refine AwOps.v hT rfl ?_
            refine AwOps.v hT rfl ?_
            refine AwOps.lit hT rfl ?_
            refine AwOps.turn (Tn.fz 44 rfl rfl (by first | rfl | (simp; done)) rfl) ?_
            refine AwOps.turn (Less.say (t := 44) (B := .one (.p (.sl (List.map ePoint [⟨_, _, _, _⟩])))) rfl rfl) ?_
            refine AwOps.appm  hT rfl rfl rfl (by first | rfl | (simp; done)) (by first | rfl | (simp; done)) (fun _ => rfl) (by simp only [List.length_cons, List.length_nil]; omega) ?_
            refine AwOps.v hT rfl ?_
            refine AwOps.nil (Aw.region ?_)
            refine AwOps.v hT rfl ?_
            refine AwOps.v hT rfl ?_
            first | refine AwOps.nm 12 rfl (by omega) (by omega) ?_ | skip
            refine AwOps.v hT rfl ?_
            refine AwOps.nil ?_
            refine ⟨(_, _, _), ?nx1, ?mu1, Tn.trans (Less.tn (τ := ⟨47, [(3, _), (4, _), (0, _)], [(45, _), (1000, _)]⟩) ⟨rfl, ⟨rfl, rfl, rfl, trivial⟩, ⟨rfl, rfl, trivial⟩⟩) (Tn.trans (Tn.ren 45 903 rfl rfl rfl) (Less.tn ⟨rfl, ⟨rfl, rfl, rfl, trivial⟩, ⟨rfl, rfl, trivial⟩⟩))⟩
            case nx1 =>
              try dsimp only
              exact ⟨by first | omega | (simp only [w64] at *; omega) | (simp [w64] at *; omega), by simp only [List.length_append, List.length_cons, List.length_nil]; first | omega | (simp only [w64] at *; omega) | (simp [w64] at *; omega), okPts_snoc hi1.2.2 (by omega) ⟨by first | exact okGs_nil | exact okGs_snoc okGs_nil (by simp) (by assumption), by first | exact okNm_nil | exact okNm_auth _⟩⟩
            case mu1 =>
              try dsimp only
              first | omega | (simp only [w64] at *; omega) | (simp [w64] at *; omega)
    · skip
      refine Aw.exit (Aw.seq (Aw.region ?_))
      refine AwOps.v hT rfl ?_
      refine AwOps.v hT rfl ?_
      refine AwOps.nil ?_
      refine Aw.turn (Tn.fz 2 rfl rfl (by first | rfl | (simp; done)) rfl) ?_
      refine Aw.ret ?_
      refine ⟨_, [_], rfl, ⟨rfl, trivial⟩, ?_⟩
      exact ⟨_, _, rfl, rfl, hi1.2.2, by omega⟩
end Go.Proofs.YtbdgmondalkhlaaDoor.Aw
