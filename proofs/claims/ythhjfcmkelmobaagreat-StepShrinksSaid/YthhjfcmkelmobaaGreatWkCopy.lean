
/- The walks of the copies: of names, constraints, anchors.
   Conditions: none. -/
import Derived.Test.YthhjfcmkelmobaaGreatWkCert
namespace Go.Proofs.YthhjfcmkelmobaaGreat.Aw
open Go
set_option maxRecDepth 100000
set_option maxHeartbeats 4000000
set_option linter.unusedSimpArgs false
set_option linter.unusedVariables false

theorem rowself {α : Type} {f : α → List PL} {l : List α} {t sz k : Nat} (h : k < l.length) : some (HB.row t sz true ((l.set k l[k]).map f)) = some (HB.row t sz true (l.map f)) := by rw [List.set_getElem_self]
theorem nil_of_map {α β : Type} {f : α → β} {l : List α} (h : l.map f = []) : l = [] := List.map_eq_nil_iff.1 h
theorem ownsnoc {α : Type} {l : List α} {i b : Nat} (h : i < l.length) : some (AV.one (.own b (l.take i ++ [l[i]]).length)) = some (AV.one (.own b (l.take (i + 1)).length)) := by rw [List.take_succ_eq_append_getElem h]
theorem rowsnoc {α : Type} {f : α → List PL} {l : List α} {i t sz : Nat} (h : i < l.length) : some (HB.row t sz true ((l.take i ++ [l[i]]).map f)) = some (HB.row t sz true ((l.take (i + 1)).map f)) := by rw [List.take_succ_eq_append_getElem h]
theorem take_snoc {α : Type} {l : List α} {i : Nat} (h : i < l.length) : l.take i ++ [l[i]] = l.take (i + 1) := (List.take_succ_eq_append_getElem h).symm
-- f65 slices.Clone[[][]certpath/api.Attribute,[]certpath/api.Attribute]
theorem F65 (l : List (List (Attr))) (hl : l.length ≤ 1000000) : FnO Tryz.prog 46 [.one (.p (.sl (l.map eRdn)))] (fun o => o = .row 96 1 (l.map eRdn)) := by
  refine FnO.intro Tryz.func46 (by kernel_rfl) rfl rfl rfl rfl fun C => ?_
  repeat (first | refine AwOps.nil ?_ | refine AwSch.nil ?_ | refine Aw.seq ?_ | refine Aw.region ?_ | refine Aw.block ?_ | refine Aw.skip ?_ | refine Aw.exit ?_ | refine Aw.condT rfl ?_ | refine Aw.condF rfl ?_)
  refine AwOps.v hT rfl ?_
  repeat (first | refine AwOps.nil ?_ | refine AwSch.nil ?_ | refine Aw.seq ?_ | refine Aw.region ?_ | refine Aw.block ?_ | refine Aw.skip ?_ | refine Aw.exit ?_ | refine Aw.condT rfl ?_ | refine Aw.condF rfl ?_)
  refine AwOps.v hT rfl ?_
  refine AwOps.eqn hT rfl ?_
  intro bn4 hn4
  repeat (first | refine AwOps.nil ?_ | refine AwSch.nil ?_ | refine Aw.seq ?_ | refine Aw.region ?_ | refine Aw.block ?_ | refine Aw.skip ?_ | refine Aw.exit ?_ | refine Aw.condT rfl ?_ | refine Aw.condF rfl ?_)
  refine Aw.tst rfl (fun hb4 => ?_) (fun hb4 => ?_)
  · skip
    have hnil := nil_of_map (hn4 hb4)
    repeat (first | refine AwOps.nil ?_ | refine AwSch.nil ?_ | refine Aw.seq ?_ | refine Aw.region ?_ | refine Aw.block ?_ | refine Aw.skip ?_ | refine Aw.exit ?_ | refine Aw.condT rfl ?_ | refine Aw.condF rfl ?_)
    refine AwOps.v hT rfl ?_
    repeat (first | refine AwOps.nil ?_ | refine AwSch.nil ?_ | refine Aw.seq ?_ | refine Aw.region ?_ | refine Aw.block ?_ | refine Aw.skip ?_ | refine Aw.exit ?_ | refine Aw.condT rfl ?_ | refine Aw.condF rfl ?_)
    refine Aw.turn (Tn.own 2 902 96 1 rfl (by decide) (by decide) rfl) ?_
    refine Aw.ret ?_
    exact ⟨902, by decide, .inl ⟨_, _, _, _, rfl, rfl, rfl, by rw [hnil]; rfl⟩⟩
  · skip
    repeat (first | refine AwOps.nil ?_ | refine AwSch.nil ?_ | refine Aw.seq ?_ | refine Aw.region ?_ | refine Aw.block ?_ | refine Aw.skip ?_ | refine Aw.exit ?_ | refine Aw.condT rfl ?_ | refine Aw.condF rfl ?_)
    refine AwOps.lit hT rfl ?_
    refine AwOps.turn (Tn.sayH (b := 5) (B := .row 96 1 true (List.map eRdn [])) rfl rfl) ?_
    refine AwOps.v hT rfl ?_
    refine AwOps.appm  hT rfl rfl rfl (by first | rfl | (simp; done)) (by first | rfl | (simp; done)) (fun _ => rfl) (by simp only [List.length_nil]; omega) ?_
    refine AwOps.v hT rfl ?_
    repeat (first | refine AwOps.nil ?_ | refine AwSch.nil ?_ | refine Aw.seq ?_ | refine Aw.region ?_ | refine Aw.block ?_ | refine Aw.skip ?_ | refine Aw.exit ?_ | refine Aw.condT rfl ?_ | refine Aw.condF rfl ?_)
    refine Aw.ret ?_
    exact ⟨7, by decide, .inl ⟨_, _, _, _, rfl, rfl, by simp, rfl⟩⟩
-- f66 slices.Clone[[]certpath/api.Attribute,certpath/api.Attribute]
theorem F66 (l : List (Attr)) (hl : l.length ≤ 1000000) : Fn Tryz.prog 47 [.pv (.one (.p (.sl (l.map eAttr))))] [] (fun r _ => r = .one (.p (.sl (l.map eAttr)))) := by
  refine Fn.intro (rs := [.tmp 2]) hT Tryz.func47 (by kernel_rfl) rfl rfl rfl rfl fun C => ?_
  repeat (first | refine AwOps.nil ?_ | refine AwSch.nil ?_ | refine Aw.seq ?_ | refine Aw.region ?_ | refine Aw.block ?_ | refine Aw.skip ?_ | refine Aw.exit ?_ | refine Aw.condT rfl ?_ | refine Aw.condF rfl ?_)
  refine AwOps.v hT rfl ?_
  repeat (first | refine AwOps.nil ?_ | refine AwSch.nil ?_ | refine Aw.seq ?_ | refine Aw.region ?_ | refine Aw.block ?_ | refine Aw.skip ?_ | refine Aw.exit ?_ | refine Aw.condT rfl ?_ | refine Aw.condF rfl ?_)
  refine AwOps.v hT rfl ?_
  refine AwOps.eqn hT rfl ?_
  intro bn4 hn4
  repeat (first | refine AwOps.nil ?_ | refine AwSch.nil ?_ | refine Aw.seq ?_ | refine Aw.region ?_ | refine Aw.block ?_ | refine Aw.skip ?_ | refine Aw.exit ?_ | refine Aw.condT rfl ?_ | refine Aw.condF rfl ?_)
  refine Aw.tst rfl (fun hb4 => ?_) (fun hb4 => ?_)
  · skip
    have hnil := nil_of_map (hn4 hb4)
    repeat (first | refine AwOps.nil ?_ | refine AwSch.nil ?_ | refine Aw.seq ?_ | refine Aw.region ?_ | refine Aw.block ?_ | refine Aw.skip ?_ | refine Aw.exit ?_ | refine Aw.condT rfl ?_ | refine Aw.condF rfl ?_)
    refine AwOps.v hT rfl ?_
    repeat (first | refine AwOps.nil ?_ | refine AwSch.nil ?_ | refine Aw.seq ?_ | refine Aw.region ?_ | refine Aw.block ?_ | refine Aw.skip ?_ | refine Aw.exit ?_ | refine Aw.condT rfl ?_ | refine Aw.condF rfl ?_)
    refine Aw.ret ?_
    refine ⟨_, [], rfl, trivial, ?_⟩
    rw [hnil]
    rfl
  · skip
    repeat (first | refine AwOps.nil ?_ | refine AwSch.nil ?_ | refine Aw.seq ?_ | refine Aw.region ?_ | refine Aw.block ?_ | refine Aw.skip ?_ | refine Aw.exit ?_ | refine Aw.condT rfl ?_ | refine Aw.condF rfl ?_)
    refine AwOps.lit hT rfl ?_
    refine AwOps.turn (Tn.sayH (b := 5) (B := .row 95 3 true (List.map eAttr [])) rfl rfl) ?_
    refine AwOps.v hT rfl ?_
    refine AwOps.appm  hT rfl rfl rfl (by first | rfl | (simp; done)) (by first | rfl | (simp; done)) (fun _ => rfl) (by simp only [List.length_nil]; omega) ?_
    refine AwOps.turn (Tn.fz 7 rfl rfl (by first | rfl | (simp; done)) rfl) ?_
    refine AwOps.v hT rfl ?_
    repeat (first | refine AwOps.nil ?_ | refine AwSch.nil ?_ | refine Aw.seq ?_ | refine Aw.region ?_ | refine Aw.block ?_ | refine Aw.skip ?_ | refine Aw.exit ?_ | refine Aw.condT rfl ?_ | refine Aw.condF rfl ?_)
    refine Aw.ret ?_
    refine ⟨_, [], rfl, trivial, ?_⟩
    exact rfl
-- f39 certpath/copies.Name
theorem F39 (n : Name) (hn : okNm n) : Fn Tryz.prog 24 [.pv (.agg (eName n))] [] (fun r _ => r = .agg (eName n)) := by
  refine Fn.intro (rs := [.cell 2 27]) hT Tryz.func24 (by kernel_rfl) rfl rfl rfl rfl fun C => ?_
  have hn1 := hn.2.1
  repeat (first | refine AwOps.nil ?_ | refine AwSch.nil ?_ | refine Aw.seq ?_ | refine Aw.region ?_ | refine Aw.block ?_ | refine Aw.skip ?_ | refine Aw.exit ?_ | refine Aw.condT rfl ?_ | refine Aw.condF rfl ?_)
  refine AwOps.eff hT rfl ?_
  refine AwOps.eff hT rfl ?_
  repeat (first | refine AwOps.nil ?_ | refine AwSch.nil ?_ | refine Aw.seq ?_ | refine Aw.region ?_ | refine Aw.block ?_ | refine Aw.skip ?_ | refine Aw.exit ?_ | refine Aw.condT rfl ?_ | refine Aw.condF rfl ?_)
  refine AwOps.v hT rfl ?_
  refine AwOps.v hT rfl ?_
  refine AwOps.ed (N := []) (Ed.callO (F65 _ (by omega)) rfl rfl rfl rfl ?_)
  rintro _ rfl
  refine AwOps.v hT rfl ?_
  refine AwOps.eff hT rfl ?_
  repeat (first | refine AwOps.nil ?_ | refine AwSch.nil ?_ | refine Aw.seq ?_ | refine Aw.region ?_ | refine Aw.block ?_ | refine Aw.skip ?_ | refine Aw.exit ?_ | refine Aw.condT rfl ?_ | refine Aw.condF rfl ?_)
  iterate 4 refine AwOps.v hT rfl ?_
  repeat (first | refine AwOps.nil ?_ | refine AwSch.nil ?_ | refine Aw.seq ?_ | refine Aw.region ?_ | refine Aw.block ?_ | refine Aw.skip ?_ | refine Aw.exit ?_ | refine Aw.condT rfl ?_ | refine Aw.condF rfl ?_)
  have hB1 : n.length ≤ maxLen := by unfold maxLen; omega
  repeat (first | refine AwOps.nil ?_ | refine AwSch.nil ?_ | refine Aw.seq ?_ | refine Aw.region ?_ | refine Aw.block ?_ | refine Aw.skip ?_ | refine Aw.exit ?_ | refine Aw.condT rfl ?_ | refine Aw.condF rfl ?_)
  refine Aw.lp (ι := Nat) (n := 25) [(1, _), (2, _), (10, _), (11, _)] [(1, _), (2, _)] (fun gq => [(12, sc (.int .i64 gq))]) (fun gq => [(7, .row 96 1 true (List.map eRdn n))]) (fun gq => gq ≤ n.length ∧ (True)) (fun gq => n.length - gq) (0) ?ok1 (Less.tn ⟨rfl, ⟨rfl, rfl, rfl, rfl, rfl, trivial⟩, ⟨rfl, rfl, rfl, trivial⟩⟩) ?bd1
  case ok1 =>
    try dsimp only
    exact ⟨Nat.zero_le _, trivial⟩
  case bd1 =>
    intro i1 hi1
    try dsimp only at hi1
    show Aw _ _ _ ⟨25, [(12, sc (.int .i64 i1))] ++ [(1, _), (2, _), (10, _), (11, _)], [(7, .row 96 1 true (List.map eRdn n))] ++ [(1, _), (2, _)]⟩ _
    repeat (first | refine AwOps.nil ?_ | refine AwSch.nil ?_ | refine Aw.seq ?_ | refine Aw.region ?_ | refine Aw.block ?_ | refine Aw.skip ?_ | refine Aw.exit ?_ | refine Aw.condT rfl ?_ | refine Aw.condF rfl ?_)
    refine AwOps.v hT rfl ?_
    repeat (first | refine AwOps.nil ?_ | refine AwSch.nil ?_ | refine Aw.seq ?_ | refine Aw.region ?_ | refine Aw.block ?_ | refine Aw.skip ?_ | refine Aw.exit ?_ | refine Aw.condT rfl ?_ | refine Aw.condF rfl ?_)
    refine Aw.tst rfl (fun hb13 => ?_) (fun hb13 => ?_)
    · skip
      have hlt1 : i1 < n.length := by simpa using hb13
      repeat (first | refine AwOps.nil ?_ | refine AwSch.nil ?_ | refine Aw.seq ?_ | refine Aw.region ?_ | refine Aw.block ?_ | refine Aw.skip ?_ | refine Aw.exit ?_ | refine Aw.condT rfl ?_ | refine Aw.condF rfl ?_)
      refine AwOps.v hT rfl ?_
      refine AwOps.idxo hT rfl rfl (by first | omega | (simp only [w64] at *; omega) | (simp [w64] at *; omega)) (by first | omega | (simp only [List.length_cons, List.length_nil, List.length_map]; omega) | (simp only [List.length_cons, List.length_nil, List.length_map, w64] at *; omega) | (simp [w64] at *; omega)) ?_
      refine AwOps.ldo hT rfl rfl (eRdn n[i1]) (ldm hlt1) rfl ?_
      refine AwOps.v hT rfl ?_
      refine AwOps.v hT rfl ?_
      repeat (first | refine AwOps.nil ?_ | refine AwSch.nil ?_ | refine Aw.seq ?_ | refine Aw.region ?_ | refine Aw.block ?_ | refine Aw.skip ?_ | refine Aw.exit ?_ | refine Aw.condT rfl ?_ | refine Aw.condF rfl ?_)
      refine Aw.regionS [7] [(true, 0), (true, 1), (true, 2), (true, 3), (false, 4), (true, 5), (false, 6)] (by kernel_rfl) (by kernel_rfl) ?_
      iterate 4 refine AwSch.take (Yd.val hT rfl rfl) ?_
      have hr := hn.2.2 _ (List.getElem_mem hlt1)
      refine AwSch.one ?_
      refine Ed.cl (F66 _ (by omega)) [] rfl ⟨⟨rfl, rfl⟩, trivial⟩ trivial rfl rfl ?_   -- api.Attribute]
      rintro _ _ rfl
      refine AwSch.take (Yd.idxo hT rfl rfl (by first | omega | (simp only [w64] at *; omega) | (simp [w64] at *; omega)) (by first | omega | (simp only [List.length_cons, List.length_nil, List.length_map]; omega) | (simp only [List.length_cons, List.length_nil, List.length_map, w64] at *; omega) | (simp [w64] at *; omega))) ?_
      refine AwSch.one ?_
      refine Ed.sto hT rfl rfl _ (ldm hlt1) (Nat.le_refl _) (by decide) ?_
      refine AwSch.sayH (b := 7) rfl (rowset (f := eRdn)) ?_
      repeat (first | refine AwOps.nil ?_ | refine AwSch.nil ?_ | refine Aw.seq ?_ | refine Aw.region ?_ | refine Aw.block ?_ | refine Aw.skip ?_ | refine Aw.exit ?_ | refine Aw.condT rfl ?_ | refine Aw.condF rfl ?_)
      refine AwOps.v hT rfl ?_
      refine AwOps.v hT rfl ?_
      repeat (first | refine AwOps.nil ?_ | refine AwSch.nil ?_ | refine Aw.seq ?_ | refine Aw.region ?_ | refine Aw.block ?_ | refine Aw.skip ?_ | refine Aw.exit ?_ | refine Aw.condT rfl ?_ | refine Aw.condF rfl ?_)
      refine ⟨(i1 + 1), ?nx1, ?mu1, Less.tn ⟨rfl, ⟨incS hlt1 hB1, rfl, rfl, rfl, rfl, trivial⟩, ⟨(rowself hlt1), rfl, rfl, trivial⟩⟩⟩
      case nx1 =>
        try dsimp only
        first | exact ⟨hlt1, trivial⟩ | trivial
      case mu1 =>
        try dsimp only
        first | omega | (simp only [w64] at *; omega) | (simp [w64] at *; omega)
    · skip
      repeat (first | refine AwOps.nil ?_ | refine AwSch.nil ?_ | refine Aw.seq ?_ | refine Aw.region ?_ | refine Aw.block ?_ | refine Aw.skip ?_ | refine Aw.exit ?_ | refine Aw.condT rfl ?_ | refine Aw.condF rfl ?_)
      refine AwOps.turn (Tn.freezeC 1 0 rfl rfl rfl (by first | rfl | (simp; done)) rfl rfl) ?_
      refine AwOps.v hT rfl ?_
      refine AwOps.eff hT rfl ?_
      repeat (first | refine AwOps.nil ?_ | refine AwSch.nil ?_ | refine Aw.seq ?_ | refine Aw.region ?_ | refine Aw.block ?_ | refine Aw.skip ?_ | refine Aw.exit ?_ | refine Aw.condT rfl ?_ | refine Aw.condF rfl ?_)
      refine Aw.ret ?_
      refine ⟨_, [], rfl, trivial, ?_⟩
      exact rfl
-- f82 slices.Clone[[]certpath/api.Anchor,certpath/api.Anchor]
theorem F82 (l : List (Anchor)) (hl : l.length ≤ 1000000) : FnO Tryz.prog 75 [.one (.p (.sl (l.map eAnchor)))] (fun o => o = .row 61 4 (l.map eAnchor)) := by
  refine FnO.intro Tryz.func75 (by kernel_rfl) rfl rfl rfl rfl fun C => ?_
  repeat (first | refine AwOps.nil ?_ | refine AwSch.nil ?_ | refine Aw.seq ?_ | refine Aw.region ?_ | refine Aw.block ?_ | refine Aw.skip ?_ | refine Aw.exit ?_ | refine Aw.condT rfl ?_ | refine Aw.condF rfl ?_)
  refine AwOps.v hT rfl ?_
  repeat (first | refine AwOps.nil ?_ | refine AwSch.nil ?_ | refine Aw.seq ?_ | refine Aw.region ?_ | refine Aw.block ?_ | refine Aw.skip ?_ | refine Aw.exit ?_ | refine Aw.condT rfl ?_ | refine Aw.condF rfl ?_)
  refine AwOps.v hT rfl ?_
  refine AwOps.eqn hT rfl ?_
  intro bn4 hn4
  repeat (first | refine AwOps.nil ?_ | refine AwSch.nil ?_ | refine Aw.seq ?_ | refine Aw.region ?_ | refine Aw.block ?_ | refine Aw.skip ?_ | refine Aw.exit ?_ | refine Aw.condT rfl ?_ | refine Aw.condF rfl ?_)
  refine Aw.tst rfl (fun hb4 => ?_) (fun hb4 => ?_)
  · skip
    have hnil := nil_of_map (hn4 hb4)
    repeat (first | refine AwOps.nil ?_ | refine AwSch.nil ?_ | refine Aw.seq ?_ | refine Aw.region ?_ | refine Aw.block ?_ | refine Aw.skip ?_ | refine Aw.exit ?_ | refine Aw.condT rfl ?_ | refine Aw.condF rfl ?_)
    refine AwOps.v hT rfl ?_
    repeat (first | refine AwOps.nil ?_ | refine AwSch.nil ?_ | refine Aw.seq ?_ | refine Aw.region ?_ | refine Aw.block ?_ | refine Aw.skip ?_ | refine Aw.exit ?_ | refine Aw.condT rfl ?_ | refine Aw.condF rfl ?_)
    refine Aw.turn (Tn.own 2 902 61 4 rfl (by decide) (by decide) rfl) ?_
    refine Aw.ret ?_
    exact ⟨902, by decide, .inl ⟨_, _, _, _, rfl, rfl, rfl, by rw [hnil]; rfl⟩⟩
  · skip
    repeat (first | refine AwOps.nil ?_ | refine AwSch.nil ?_ | refine Aw.seq ?_ | refine Aw.region ?_ | refine Aw.block ?_ | refine Aw.skip ?_ | refine Aw.exit ?_ | refine Aw.condT rfl ?_ | refine Aw.condF rfl ?_)
    refine AwOps.lit hT rfl ?_
    refine AwOps.turn (Tn.sayH (b := 5) (B := .row 61 4 true (List.map eAnchor [])) rfl rfl) ?_
    refine AwOps.v hT rfl ?_
    refine AwOps.appm  hT rfl rfl rfl (by first | rfl | (simp; done)) (by first | rfl | (simp; done)) (fun _ => rfl) (by simp only [List.length_nil]; omega) ?_
    refine AwOps.v hT rfl ?_
    repeat (first | refine AwOps.nil ?_ | refine AwSch.nil ?_ | refine Aw.seq ?_ | refine Aw.region ?_ | refine Aw.block ?_ | refine Aw.skip ?_ | refine Aw.exit ?_ | refine Aw.condT rfl ?_ | refine Aw.condF rfl ?_)
    refine Aw.ret ?_
    exact ⟨7, by decide, .inl ⟨_, _, _, _, rfl, rfl, by simp, rfl⟩⟩
-- f86 slices.Clone[[]certpath/api.Subtrees,certpath/api.Subtrees]
theorem F86 (l : List (Sub)) (hl : l.length ≤ 1000000) : FnO Tryz.prog 60 [.one (.p (.sl (l.map eSub)))] (fun o => o = .row 40 2 (l.map eSub)) := by
  refine FnO.intro Tryz.func60 (by kernel_rfl) rfl rfl rfl rfl fun C => ?_
  repeat (first | refine AwOps.nil ?_ | refine AwSch.nil ?_ | refine Aw.seq ?_ | refine Aw.region ?_ | refine Aw.block ?_ | refine Aw.skip ?_ | refine Aw.exit ?_ | refine Aw.condT rfl ?_ | refine Aw.condF rfl ?_)
  refine AwOps.v hT rfl ?_
  repeat (first | refine AwOps.nil ?_ | refine AwSch.nil ?_ | refine Aw.seq ?_ | refine Aw.region ?_ | refine Aw.block ?_ | refine Aw.skip ?_ | refine Aw.exit ?_ | refine Aw.condT rfl ?_ | refine Aw.condF rfl ?_)
  refine AwOps.v hT rfl ?_
  refine AwOps.eqn hT rfl ?_
  intro bn4 hn4
  repeat (first | refine AwOps.nil ?_ | refine AwSch.nil ?_ | refine Aw.seq ?_ | refine Aw.region ?_ | refine Aw.block ?_ | refine Aw.skip ?_ | refine Aw.exit ?_ | refine Aw.condT rfl ?_ | refine Aw.condF rfl ?_)
  refine Aw.tst rfl (fun hb4 => ?_) (fun hb4 => ?_)
  · skip
    have hnil := nil_of_map (hn4 hb4)
    repeat (first | refine AwOps.nil ?_ | refine AwSch.nil ?_ | refine Aw.seq ?_ | refine Aw.region ?_ | refine Aw.block ?_ | refine Aw.skip ?_ | refine Aw.exit ?_ | refine Aw.condT rfl ?_ | refine Aw.condF rfl ?_)
    refine AwOps.v hT rfl ?_
    repeat (first | refine AwOps.nil ?_ | refine AwSch.nil ?_ | refine Aw.seq ?_ | refine Aw.region ?_ | refine Aw.block ?_ | refine Aw.skip ?_ | refine Aw.exit ?_ | refine Aw.condT rfl ?_ | refine Aw.condF rfl ?_)
    refine Aw.turn (Tn.own 2 902 40 2 rfl (by decide) (by decide) rfl) ?_
    refine Aw.ret ?_
    exact ⟨902, by decide, .inl ⟨_, _, _, _, rfl, rfl, rfl, by rw [hnil]; rfl⟩⟩
  · skip
    repeat (first | refine AwOps.nil ?_ | refine AwSch.nil ?_ | refine Aw.seq ?_ | refine Aw.region ?_ | refine Aw.block ?_ | refine Aw.skip ?_ | refine Aw.exit ?_ | refine Aw.condT rfl ?_ | refine Aw.condF rfl ?_)
    refine AwOps.lit hT rfl ?_
    refine AwOps.turn (Tn.sayH (b := 5) (B := .row 40 2 true (List.map eSub [])) rfl rfl) ?_
    refine AwOps.v hT rfl ?_
    refine AwOps.appm  hT rfl rfl rfl (by first | rfl | (simp; done)) (by first | rfl | (simp; done)) (fun _ => rfl) (by simp only [List.length_nil]; omega) ?_
    refine AwOps.v hT rfl ?_
    repeat (first | refine AwOps.nil ?_ | refine AwSch.nil ?_ | refine Aw.seq ?_ | refine Aw.region ?_ | refine Aw.block ?_ | refine Aw.skip ?_ | refine Aw.exit ?_ | refine Aw.condT rfl ?_ | refine Aw.condF rfl ?_)
    refine Aw.ret ?_
    exact ⟨7, by decide, .inl ⟨_, _, _, _, rfl, rfl, by simp, rfl⟩⟩
-- f103 slices.Clone[[]certpath/api.GeneralName,certpath/api.GeneralName]
theorem F103 (l : List (Gn)) (hl : l.length ≤ 1000000) : FnO Tryz.prog 93 [.one (.p (.sl (l.map eGn)))] (fun o => o = .row 54 3 (l.map eGn)) := by
  refine FnO.intro Tryz.func93 (by kernel_rfl) rfl rfl rfl rfl fun C => ?_
  repeat (first | refine AwOps.nil ?_ | refine AwSch.nil ?_ | refine Aw.seq ?_ | refine Aw.region ?_ | refine Aw.block ?_ | refine Aw.skip ?_ | refine Aw.exit ?_ | refine Aw.condT rfl ?_ | refine Aw.condF rfl ?_)
  refine AwOps.v hT rfl ?_
  repeat (first | refine AwOps.nil ?_ | refine AwSch.nil ?_ | refine Aw.seq ?_ | refine Aw.region ?_ | refine Aw.block ?_ | refine Aw.skip ?_ | refine Aw.exit ?_ | refine Aw.condT rfl ?_ | refine Aw.condF rfl ?_)
  refine AwOps.v hT rfl ?_
  refine AwOps.eqn hT rfl ?_
  intro bn4 hn4
  repeat (first | refine AwOps.nil ?_ | refine AwSch.nil ?_ | refine Aw.seq ?_ | refine Aw.region ?_ | refine Aw.block ?_ | refine Aw.skip ?_ | refine Aw.exit ?_ | refine Aw.condT rfl ?_ | refine Aw.condF rfl ?_)
  refine Aw.tst rfl (fun hb4 => ?_) (fun hb4 => ?_)
  · skip
    have hnil := nil_of_map (hn4 hb4)
    repeat (first | refine AwOps.nil ?_ | refine AwSch.nil ?_ | refine Aw.seq ?_ | refine Aw.region ?_ | refine Aw.block ?_ | refine Aw.skip ?_ | refine Aw.exit ?_ | refine Aw.condT rfl ?_ | refine Aw.condF rfl ?_)
    refine AwOps.v hT rfl ?_
    repeat (first | refine AwOps.nil ?_ | refine AwSch.nil ?_ | refine Aw.seq ?_ | refine Aw.region ?_ | refine Aw.block ?_ | refine Aw.skip ?_ | refine Aw.exit ?_ | refine Aw.condT rfl ?_ | refine Aw.condF rfl ?_)
    refine Aw.turn (Tn.own 2 902 54 3 rfl (by decide) (by decide) rfl) ?_
    refine Aw.ret ?_
    exact ⟨902, by decide, .inl ⟨_, _, _, _, rfl, rfl, rfl, by rw [hnil]; rfl⟩⟩
  · skip
    repeat (first | refine AwOps.nil ?_ | refine AwSch.nil ?_ | refine Aw.seq ?_ | refine Aw.region ?_ | refine Aw.block ?_ | refine Aw.skip ?_ | refine Aw.exit ?_ | refine Aw.condT rfl ?_ | refine Aw.condF rfl ?_)
    refine AwOps.lit hT rfl ?_
    refine AwOps.turn (Tn.sayH (b := 5) (B := .row 54 3 true (List.map eGn [])) rfl rfl) ?_
    refine AwOps.v hT rfl ?_
    refine AwOps.appm  hT rfl rfl rfl (by first | rfl | (simp; done)) (by first | rfl | (simp; done)) (fun _ => rfl) (by simp only [List.length_nil]; omega) ?_
    refine AwOps.v hT rfl ?_
    repeat (first | refine AwOps.nil ?_ | refine AwSch.nil ?_ | refine Aw.seq ?_ | refine Aw.region ?_ | refine Aw.block ?_ | refine Aw.skip ?_ | refine Aw.exit ?_ | refine Aw.condT rfl ?_ | refine Aw.condF rfl ?_)
    refine Aw.ret ?_
    exact ⟨7, by decide, .inl ⟨_, _, _, _, rfl, rfl, by simp, rfl⟩⟩
-- f68 certpath/copies.each[certpath/api.Anchor]
theorem F68 (f : Nat) (l : List (Anchor)) (hl : l.length ≤ 1000000) (hf : ∀ x ∈ l, Fn Tryz.prog f [.pv (.agg (eAnchor x))] [] (fun r _ => r = .agg (eAnchor x))) : Fn Tryz.prog 64 [.pv (.one (.p (.sl (l.map eAnchor)))), .pv (sc (.func (.func f) #[] #[]))] [] (fun r _ => r = .one (.p (.sl (l.map eAnchor)))) := by
  refine Fn.intro (rs := [.tmp 4]) hT Tryz.func64 (by kernel_rfl) rfl rfl rfl rfl fun C => ?_
  repeat (first | refine AwOps.nil ?_ | refine AwSch.nil ?_ | refine Aw.seq ?_ | refine Aw.region ?_ | refine Aw.block ?_ | refine Aw.skip ?_ | refine Aw.exit ?_ | refine Aw.condT rfl ?_ | refine Aw.condF rfl ?_)
  refine AwOps.v hT rfl ?_
  repeat (first | refine AwOps.nil ?_ | refine AwSch.nil ?_ | refine Aw.seq ?_ | refine Aw.region ?_ | refine Aw.block ?_ | refine Aw.skip ?_ | refine Aw.exit ?_ | refine Aw.condT rfl ?_ | refine Aw.condF rfl ?_)
  refine AwOps.v hT rfl ?_
  refine AwOps.ed (N := []) (Ed.callO (F82 _ (by omega)) rfl rfl rfl rfl ?_)
  rintro _ rfl
  refine AwOps.v hT rfl ?_
  repeat (first | refine AwOps.nil ?_ | refine AwSch.nil ?_ | refine Aw.seq ?_ | refine Aw.region ?_ | refine Aw.block ?_ | refine Aw.skip ?_ | refine Aw.exit ?_ | refine Aw.condT rfl ?_ | refine Aw.condF rfl ?_)
  iterate 3 refine AwOps.v hT rfl ?_
  repeat (first | refine AwOps.nil ?_ | refine AwSch.nil ?_ | refine Aw.seq ?_ | refine Aw.region ?_ | refine Aw.block ?_ | refine Aw.skip ?_ | refine Aw.exit ?_ | refine Aw.condT rfl ?_ | refine Aw.condF rfl ?_)
  have hB1 : l.length ≤ maxLen := by unfold maxLen; omega
  repeat (first | refine AwOps.nil ?_ | refine AwSch.nil ?_ | refine Aw.seq ?_ | refine Aw.region ?_ | refine Aw.block ?_ | refine Aw.skip ?_ | refine Aw.exit ?_ | refine Aw.condT rfl ?_ | refine Aw.condF rfl ?_)
  refine Aw.lp (ι := Nat) (n := 24) [(0, _), (1, _), (9, _), (10, _)] [] (fun gq => [(11, sc (.int .i64 gq))]) (fun gq => [(8, .row 61 4 true (List.map eAnchor l))]) (fun gq => gq ≤ l.length ∧ (True)) (fun gq => l.length - gq) (0) ?ok1 (Less.tn ⟨rfl, ⟨rfl, rfl, rfl, rfl, rfl, trivial⟩, ⟨rfl, trivial⟩⟩) ?bd1
  case ok1 =>
    try dsimp only
    exact ⟨Nat.zero_le _, trivial⟩
  case bd1 =>
    intro i1 hi1
    try dsimp only at hi1
    show Aw _ _ _ ⟨24, [(11, sc (.int .i64 i1))] ++ [(0, _), (1, _), (9, _), (10, _)], [(8, .row 61 4 true (List.map eAnchor l))] ++ []⟩ _
    repeat (first | refine AwOps.nil ?_ | refine AwSch.nil ?_ | refine Aw.seq ?_ | refine Aw.region ?_ | refine Aw.block ?_ | refine Aw.skip ?_ | refine Aw.exit ?_ | refine Aw.condT rfl ?_ | refine Aw.condF rfl ?_)
    refine AwOps.v hT rfl ?_
    repeat (first | refine AwOps.nil ?_ | refine AwSch.nil ?_ | refine Aw.seq ?_ | refine Aw.region ?_ | refine Aw.block ?_ | refine Aw.skip ?_ | refine Aw.exit ?_ | refine Aw.condT rfl ?_ | refine Aw.condF rfl ?_)
    refine Aw.tst rfl (fun hb12 => ?_) (fun hb12 => ?_)
    · skip
      have hlt1 : i1 < l.length := by simpa using hb12
      repeat (first | refine AwOps.nil ?_ | refine AwSch.nil ?_ | refine Aw.seq ?_ | refine Aw.region ?_ | refine Aw.block ?_ | refine Aw.skip ?_ | refine Aw.exit ?_ | refine Aw.condT rfl ?_ | refine Aw.condF rfl ?_)
      refine AwOps.v hT rfl ?_
      refine AwOps.idxo hT rfl rfl (by first | omega | (simp only [w64] at *; omega) | (simp [w64] at *; omega)) (by first | omega | (simp only [List.length_cons, List.length_nil, List.length_map]; omega) | (simp only [List.length_cons, List.length_nil, List.length_map, w64] at *; omega) | (simp [w64] at *; omega)) ?_
      refine AwOps.ldo hT rfl rfl (eAnchor l[i1]) (ldm hlt1) rfl ?_
      refine AwOps.eff hT rfl ?_
      refine AwOps.v hT rfl ?_
      refine AwOps.eff hT rfl ?_
      repeat (first | refine AwOps.nil ?_ | refine AwSch.nil ?_ | refine Aw.seq ?_ | refine Aw.region ?_ | refine Aw.block ?_ | refine Aw.skip ?_ | refine Aw.exit ?_ | refine Aw.condT rfl ?_ | refine Aw.condF rfl ?_)
      iterate 4 refine AwOps.v hT rfl ?_
      refine AwOps.cl (hf _ (List.getElem_mem hlt1)) [] rfl ⟨⟨rfl, rfl⟩, trivial⟩ trivial rfl ?_   -- fv
      rintro _ _ rfl
      refine AwOps.idxo hT rfl rfl (by first | omega | (simp only [w64] at *; omega) | (simp [w64] at *; omega)) (by first | omega | (simp only [List.length_cons, List.length_nil, List.length_map]; omega) | (simp only [List.length_cons, List.length_nil, List.length_map, w64] at *; omega) | (simp [w64] at *; omega)) ?_
      refine AwOps.sto hT rfl rfl _ (ldm hlt1) (Nat.le_refl _) ?_
      refine AwOps.turn (Tn.sayH (b := 8) rfl (rowset (f := eAnchor))) ?_
      repeat (first | refine AwOps.nil ?_ | refine AwSch.nil ?_ | refine Aw.seq ?_ | refine Aw.region ?_ | refine Aw.block ?_ | refine Aw.skip ?_ | refine Aw.exit ?_ | refine Aw.condT rfl ?_ | refine Aw.condF rfl ?_)
      refine AwOps.v hT rfl ?_
      refine AwOps.v hT rfl ?_
      repeat (first | refine AwOps.nil ?_ | refine AwSch.nil ?_ | refine Aw.seq ?_ | refine Aw.region ?_ | refine Aw.block ?_ | refine Aw.skip ?_ | refine Aw.exit ?_ | refine Aw.condT rfl ?_ | refine Aw.condF rfl ?_)
      refine ⟨(i1 + 1), ?nx1, ?mu1, Less.tn ⟨rfl, ⟨incS hlt1 hB1, rfl, rfl, rfl, rfl, trivial⟩, ⟨(rowself hlt1), trivial⟩⟩⟩
      case nx1 =>
        try dsimp only
        first | exact ⟨hlt1, trivial⟩ | trivial
      case mu1 =>
        try dsimp only
        first | omega | (simp only [w64] at *; omega) | (simp [w64] at *; omega)
    · skip
      repeat (first | refine AwOps.nil ?_ | refine AwSch.nil ?_ | refine Aw.seq ?_ | refine Aw.region ?_ | refine Aw.block ?_ | refine Aw.skip ?_ | refine Aw.exit ?_ | refine Aw.condT rfl ?_ | refine Aw.condF rfl ?_)
      refine AwOps.v hT rfl ?_
      refine AwOps.v hT rfl ?_
      repeat (first | refine AwOps.nil ?_ | refine AwSch.nil ?_ | refine Aw.seq ?_ | refine Aw.region ?_ | refine Aw.block ?_ | refine Aw.skip ?_ | refine Aw.exit ?_ | refine Aw.condT rfl ?_ | refine Aw.condF rfl ?_)
      refine Aw.turn (Tn.fz 4 rfl rfl (by first | rfl | (simp; done)) rfl) ?_
      refine Aw.ret ?_
      refine ⟨_, [], rfl, trivial, ?_⟩
      exact rfl
-- f75 certpath/copies.each[certpath/api.Subtrees]
theorem F75 (f : Nat) (l : List (Sub)) (hl : l.length ≤ 1000000) (hf : ∀ x ∈ l, Fn Tryz.prog f [.pv (.agg (eSub x))] [] (fun r _ => r = .agg (eSub x))) : Fn Tryz.prog 48 [.pv (.one (.p (.sl (l.map eSub)))), .pv (sc (.func (.func f) #[] #[]))] [] (fun r _ => r = .one (.p (.sl (l.map eSub)))) := by
  refine Fn.intro (rs := [.tmp 4]) hT Tryz.func48 (by kernel_rfl) rfl rfl rfl rfl fun C => ?_
  repeat (first | refine AwOps.nil ?_ | refine AwSch.nil ?_ | refine Aw.seq ?_ | refine Aw.region ?_ | refine Aw.block ?_ | refine Aw.skip ?_ | refine Aw.exit ?_ | refine Aw.condT rfl ?_ | refine Aw.condF rfl ?_)
  refine AwOps.v hT rfl ?_
  repeat (first | refine AwOps.nil ?_ | refine AwSch.nil ?_ | refine Aw.seq ?_ | refine Aw.region ?_ | refine Aw.block ?_ | refine Aw.skip ?_ | refine Aw.exit ?_ | refine Aw.condT rfl ?_ | refine Aw.condF rfl ?_)
  refine AwOps.v hT rfl ?_
  refine AwOps.ed (N := []) (Ed.callO (F86 _ (by omega)) rfl rfl rfl rfl ?_)
  rintro _ rfl
  refine AwOps.v hT rfl ?_
  repeat (first | refine AwOps.nil ?_ | refine AwSch.nil ?_ | refine Aw.seq ?_ | refine Aw.region ?_ | refine Aw.block ?_ | refine Aw.skip ?_ | refine Aw.exit ?_ | refine Aw.condT rfl ?_ | refine Aw.condF rfl ?_)
  iterate 3 refine AwOps.v hT rfl ?_
  repeat (first | refine AwOps.nil ?_ | refine AwSch.nil ?_ | refine Aw.seq ?_ | refine Aw.region ?_ | refine Aw.block ?_ | refine Aw.skip ?_ | refine Aw.exit ?_ | refine Aw.condT rfl ?_ | refine Aw.condF rfl ?_)
  have hB1 : l.length ≤ maxLen := by unfold maxLen; omega
  repeat (first | refine AwOps.nil ?_ | refine AwSch.nil ?_ | refine Aw.seq ?_ | refine Aw.region ?_ | refine Aw.block ?_ | refine Aw.skip ?_ | refine Aw.exit ?_ | refine Aw.condT rfl ?_ | refine Aw.condF rfl ?_)
  refine Aw.lp (ι := Nat) (n := 24) [(0, _), (1, _), (9, _), (10, _)] [] (fun gq => [(11, sc (.int .i64 gq))]) (fun gq => [(8, .row 40 2 true (List.map eSub l))]) (fun gq => gq ≤ l.length ∧ (True)) (fun gq => l.length - gq) (0) ?ok1 (Less.tn ⟨rfl, ⟨rfl, rfl, rfl, rfl, rfl, trivial⟩, ⟨rfl, trivial⟩⟩) ?bd1
  case ok1 =>
    try dsimp only
    exact ⟨Nat.zero_le _, trivial⟩
  case bd1 =>
    intro i1 hi1
    try dsimp only at hi1
    show Aw _ _ _ ⟨24, [(11, sc (.int .i64 i1))] ++ [(0, _), (1, _), (9, _), (10, _)], [(8, .row 40 2 true (List.map eSub l))] ++ []⟩ _
    repeat (first | refine AwOps.nil ?_ | refine AwSch.nil ?_ | refine Aw.seq ?_ | refine Aw.region ?_ | refine Aw.block ?_ | refine Aw.skip ?_ | refine Aw.exit ?_ | refine Aw.condT rfl ?_ | refine Aw.condF rfl ?_)
    refine AwOps.v hT rfl ?_
    repeat (first | refine AwOps.nil ?_ | refine AwSch.nil ?_ | refine Aw.seq ?_ | refine Aw.region ?_ | refine Aw.block ?_ | refine Aw.skip ?_ | refine Aw.exit ?_ | refine Aw.condT rfl ?_ | refine Aw.condF rfl ?_)
    refine Aw.tst rfl (fun hb12 => ?_) (fun hb12 => ?_)
    · skip
      have hlt1 : i1 < l.length := by simpa using hb12
      repeat (first | refine AwOps.nil ?_ | refine AwSch.nil ?_ | refine Aw.seq ?_ | refine Aw.region ?_ | refine Aw.block ?_ | refine Aw.skip ?_ | refine Aw.exit ?_ | refine Aw.condT rfl ?_ | refine Aw.condF rfl ?_)
      refine AwOps.v hT rfl ?_
      refine AwOps.idxo hT rfl rfl (by first | omega | (simp only [w64] at *; omega) | (simp [w64] at *; omega)) (by first | omega | (simp only [List.length_cons, List.length_nil, List.length_map]; omega) | (simp only [List.length_cons, List.length_nil, List.length_map, w64] at *; omega) | (simp [w64] at *; omega)) ?_
      refine AwOps.ldo hT rfl rfl (eSub l[i1]) (ldm hlt1) rfl ?_
      refine AwOps.eff hT rfl ?_
      refine AwOps.v hT rfl ?_
      refine AwOps.eff hT rfl ?_
      repeat (first | refine AwOps.nil ?_ | refine AwSch.nil ?_ | refine Aw.seq ?_ | refine Aw.region ?_ | refine Aw.block ?_ | refine Aw.skip ?_ | refine Aw.exit ?_ | refine Aw.condT rfl ?_ | refine Aw.condF rfl ?_)
      iterate 4 refine AwOps.v hT rfl ?_
      refine AwOps.cl (hf _ (List.getElem_mem hlt1)) [] rfl ⟨⟨rfl, rfl⟩, trivial⟩ trivial rfl ?_   -- fv
      rintro _ _ rfl
      refine AwOps.idxo hT rfl rfl (by first | omega | (simp only [w64] at *; omega) | (simp [w64] at *; omega)) (by first | omega | (simp only [List.length_cons, List.length_nil, List.length_map]; omega) | (simp only [List.length_cons, List.length_nil, List.length_map, w64] at *; omega) | (simp [w64] at *; omega)) ?_
      refine AwOps.sto hT rfl rfl _ (ldm hlt1) (Nat.le_refl _) ?_
      refine AwOps.turn (Tn.sayH (b := 8) rfl (rowset (f := eSub))) ?_
      repeat (first | refine AwOps.nil ?_ | refine AwSch.nil ?_ | refine Aw.seq ?_ | refine Aw.region ?_ | refine Aw.block ?_ | refine Aw.skip ?_ | refine Aw.exit ?_ | refine Aw.condT rfl ?_ | refine Aw.condF rfl ?_)
      refine AwOps.v hT rfl ?_
      refine AwOps.v hT rfl ?_
      repeat (first | refine AwOps.nil ?_ | refine AwSch.nil ?_ | refine Aw.seq ?_ | refine Aw.region ?_ | refine Aw.block ?_ | refine Aw.skip ?_ | refine Aw.exit ?_ | refine Aw.condT rfl ?_ | refine Aw.condF rfl ?_)
      refine ⟨(i1 + 1), ?nx1, ?mu1, Less.tn ⟨rfl, ⟨incS hlt1 hB1, rfl, rfl, rfl, rfl, trivial⟩, ⟨(rowself hlt1), trivial⟩⟩⟩
      case nx1 =>
        try dsimp only
        first | exact ⟨hlt1, trivial⟩ | trivial
      case mu1 =>
        try dsimp only
        first | omega | (simp only [w64] at *; omega) | (simp [w64] at *; omega)
    · skip
      repeat (first | refine AwOps.nil ?_ | refine AwSch.nil ?_ | refine Aw.seq ?_ | refine Aw.region ?_ | refine Aw.block ?_ | refine Aw.skip ?_ | refine Aw.exit ?_ | refine Aw.condT rfl ?_ | refine Aw.condF rfl ?_)
      refine AwOps.v hT rfl ?_
      refine AwOps.v hT rfl ?_
      repeat (first | refine AwOps.nil ?_ | refine AwSch.nil ?_ | refine Aw.seq ?_ | refine Aw.region ?_ | refine Aw.block ?_ | refine Aw.skip ?_ | refine Aw.exit ?_ | refine Aw.condT rfl ?_ | refine Aw.condF rfl ?_)
      refine Aw.turn (Tn.fz 4 rfl rfl (by first | rfl | (simp; done)) rfl) ?_
      refine Aw.ret ?_
      refine ⟨_, [], rfl, trivial, ?_⟩
      exact rfl
-- f94 certpath/copies.each[certpath/api.GeneralName]
theorem F94 (f : Nat) (l : List (Gn)) (hl : l.length ≤ 1000000) (hf : ∀ x ∈ l, Fn Tryz.prog f [.pv (.agg (eGn x))] [] (fun r _ => r = .agg (eGn x))) : Fn Tryz.prog 73 [.pv (.one (.p (.sl (l.map eGn)))), .pv (sc (.func (.func f) #[] #[]))] [] (fun r _ => r = .one (.p (.sl (l.map eGn)))) := by
  refine Fn.intro (rs := [.tmp 4]) hT Tryz.func73 (by kernel_rfl) rfl rfl rfl rfl fun C => ?_
  repeat (first | refine AwOps.nil ?_ | refine AwSch.nil ?_ | refine Aw.seq ?_ | refine Aw.region ?_ | refine Aw.block ?_ | refine Aw.skip ?_ | refine Aw.exit ?_ | refine Aw.condT rfl ?_ | refine Aw.condF rfl ?_)
  refine AwOps.v hT rfl ?_
  repeat (first | refine AwOps.nil ?_ | refine AwSch.nil ?_ | refine Aw.seq ?_ | refine Aw.region ?_ | refine Aw.block ?_ | refine Aw.skip ?_ | refine Aw.exit ?_ | refine Aw.condT rfl ?_ | refine Aw.condF rfl ?_)
  refine AwOps.v hT rfl ?_
  refine AwOps.ed (N := []) (Ed.callO (F103 _ (by omega)) rfl rfl rfl rfl ?_)
  rintro _ rfl
  refine AwOps.v hT rfl ?_
  repeat (first | refine AwOps.nil ?_ | refine AwSch.nil ?_ | refine Aw.seq ?_ | refine Aw.region ?_ | refine Aw.block ?_ | refine Aw.skip ?_ | refine Aw.exit ?_ | refine Aw.condT rfl ?_ | refine Aw.condF rfl ?_)
  iterate 3 refine AwOps.v hT rfl ?_
  repeat (first | refine AwOps.nil ?_ | refine AwSch.nil ?_ | refine Aw.seq ?_ | refine Aw.region ?_ | refine Aw.block ?_ | refine Aw.skip ?_ | refine Aw.exit ?_ | refine Aw.condT rfl ?_ | refine Aw.condF rfl ?_)
  have hB1 : l.length ≤ maxLen := by unfold maxLen; omega
  repeat (first | refine AwOps.nil ?_ | refine AwSch.nil ?_ | refine Aw.seq ?_ | refine Aw.region ?_ | refine Aw.block ?_ | refine Aw.skip ?_ | refine Aw.exit ?_ | refine Aw.condT rfl ?_ | refine Aw.condF rfl ?_)
  refine Aw.lp (ι := Nat) (n := 24) [(0, _), (1, _), (9, _), (10, _)] [] (fun gq => [(11, sc (.int .i64 gq))]) (fun gq => [(8, .row 54 3 true (List.map eGn l))]) (fun gq => gq ≤ l.length ∧ (True)) (fun gq => l.length - gq) (0) ?ok1 (Less.tn ⟨rfl, ⟨rfl, rfl, rfl, rfl, rfl, trivial⟩, ⟨rfl, trivial⟩⟩) ?bd1
  case ok1 =>
    try dsimp only
    exact ⟨Nat.zero_le _, trivial⟩
  case bd1 =>
    intro i1 hi1
    try dsimp only at hi1
    show Aw _ _ _ ⟨24, [(11, sc (.int .i64 i1))] ++ [(0, _), (1, _), (9, _), (10, _)], [(8, .row 54 3 true (List.map eGn l))] ++ []⟩ _
    repeat (first | refine AwOps.nil ?_ | refine AwSch.nil ?_ | refine Aw.seq ?_ | refine Aw.region ?_ | refine Aw.block ?_ | refine Aw.skip ?_ | refine Aw.exit ?_ | refine Aw.condT rfl ?_ | refine Aw.condF rfl ?_)
    refine AwOps.v hT rfl ?_
    repeat (first | refine AwOps.nil ?_ | refine AwSch.nil ?_ | refine Aw.seq ?_ | refine Aw.region ?_ | refine Aw.block ?_ | refine Aw.skip ?_ | refine Aw.exit ?_ | refine Aw.condT rfl ?_ | refine Aw.condF rfl ?_)
    refine Aw.tst rfl (fun hb12 => ?_) (fun hb12 => ?_)
    · skip
      have hlt1 : i1 < l.length := by simpa using hb12
      repeat (first | refine AwOps.nil ?_ | refine AwSch.nil ?_ | refine Aw.seq ?_ | refine Aw.region ?_ | refine Aw.block ?_ | refine Aw.skip ?_ | refine Aw.exit ?_ | refine Aw.condT rfl ?_ | refine Aw.condF rfl ?_)
      refine AwOps.v hT rfl ?_
      refine AwOps.idxo hT rfl rfl (by first | omega | (simp only [w64] at *; omega) | (simp [w64] at *; omega)) (by first | omega | (simp only [List.length_cons, List.length_nil, List.length_map]; omega) | (simp only [List.length_cons, List.length_nil, List.length_map, w64] at *; omega) | (simp [w64] at *; omega)) ?_
      refine AwOps.ldo hT rfl rfl (eGn l[i1]) (ldm hlt1) rfl ?_
      refine AwOps.eff hT rfl ?_
      refine AwOps.v hT rfl ?_
      refine AwOps.eff hT rfl ?_
      repeat (first | refine AwOps.nil ?_ | refine AwSch.nil ?_ | refine Aw.seq ?_ | refine Aw.region ?_ | refine Aw.block ?_ | refine Aw.skip ?_ | refine Aw.exit ?_ | refine Aw.condT rfl ?_ | refine Aw.condF rfl ?_)
      iterate 4 refine AwOps.v hT rfl ?_
      refine AwOps.cl (hf _ (List.getElem_mem hlt1)) [] rfl ⟨⟨rfl, rfl⟩, trivial⟩ trivial rfl ?_   -- fv
      rintro _ _ rfl
      refine AwOps.idxo hT rfl rfl (by first | omega | (simp only [w64] at *; omega) | (simp [w64] at *; omega)) (by first | omega | (simp only [List.length_cons, List.length_nil, List.length_map]; omega) | (simp only [List.length_cons, List.length_nil, List.length_map, w64] at *; omega) | (simp [w64] at *; omega)) ?_
      refine AwOps.sto hT rfl rfl _ (ldm hlt1) (Nat.le_refl _) ?_
      refine AwOps.turn (Tn.sayH (b := 8) rfl (rowset (f := eGn))) ?_
      repeat (first | refine AwOps.nil ?_ | refine AwSch.nil ?_ | refine Aw.seq ?_ | refine Aw.region ?_ | refine Aw.block ?_ | refine Aw.skip ?_ | refine Aw.exit ?_ | refine Aw.condT rfl ?_ | refine Aw.condF rfl ?_)
      refine AwOps.v hT rfl ?_
      refine AwOps.v hT rfl ?_
      repeat (first | refine AwOps.nil ?_ | refine AwSch.nil ?_ | refine Aw.seq ?_ | refine Aw.region ?_ | refine Aw.block ?_ | refine Aw.skip ?_ | refine Aw.exit ?_ | refine Aw.condT rfl ?_ | refine Aw.condF rfl ?_)
      refine ⟨(i1 + 1), ?nx1, ?mu1, Less.tn ⟨rfl, ⟨incS hlt1 hB1, rfl, rfl, rfl, rfl, trivial⟩, ⟨(rowself hlt1), trivial⟩⟩⟩
      case nx1 =>
        try dsimp only
        first | exact ⟨hlt1, trivial⟩ | trivial
      case mu1 =>
        try dsimp only
        first | omega | (simp only [w64] at *; omega) | (simp [w64] at *; omega)
    · skip
      repeat (first | refine AwOps.nil ?_ | refine AwSch.nil ?_ | refine Aw.seq ?_ | refine Aw.region ?_ | refine Aw.block ?_ | refine Aw.skip ?_ | refine Aw.exit ?_ | refine Aw.condT rfl ?_ | refine Aw.condF rfl ?_)
      refine AwOps.v hT rfl ?_
      refine AwOps.v hT rfl ?_
      repeat (first | refine AwOps.nil ?_ | refine AwSch.nil ?_ | refine Aw.seq ?_ | refine Aw.region ?_ | refine Aw.block ?_ | refine Aw.skip ?_ | refine Aw.exit ?_ | refine Aw.condT rfl ?_ | refine Aw.condF rfl ?_)
      refine Aw.turn (Tn.fz 4 rfl rfl (by first | rfl | (simp; done)) rfl) ?_
      refine Aw.ret ?_
      refine ⟨_, [], rfl, trivial, ?_⟩
      exact rfl
-- f69 certpath/copies.Anchor
theorem F69 (a : Anchor) (h : okNm a.name) : Fn Tryz.prog 65 [.pv (.agg (eAnchor a))] [] (fun r _ => r = .agg (eAnchor a)) := by
  refine Fn.intro (rs := [.cell 2 61]) hT Tryz.func65 (by kernel_rfl) rfl rfl rfl rfl fun C => ?_
  repeat (first | refine AwOps.nil ?_ | refine AwSch.nil ?_ | refine Aw.seq ?_ | refine Aw.region ?_ | refine Aw.block ?_ | refine Aw.skip ?_ | refine Aw.exit ?_ | refine Aw.condT rfl ?_ | refine Aw.condF rfl ?_)
  refine AwOps.eff hT rfl ?_
  refine AwOps.eff hT rfl ?_
  repeat (first | refine AwOps.nil ?_ | refine AwSch.nil ?_ | refine Aw.seq ?_ | refine Aw.region ?_ | refine Aw.block ?_ | refine Aw.skip ?_ | refine Aw.exit ?_ | refine Aw.condT rfl ?_ | refine Aw.condF rfl ?_)
  refine AwOps.v hT rfl ?_
  refine AwOps.v hT rfl ?_
  refine AwOps.cl (F39 _ (by assumption)) [] rfl ⟨⟨rfl, rfl⟩, trivial⟩ trivial rfl ?_   -- copies.Name
  rintro _ _ rfl
  refine AwOps.v hT rfl ?_
  refine AwOps.eff hT rfl ?_
  repeat (first | refine AwOps.nil ?_ | refine AwSch.nil ?_ | refine Aw.seq ?_ | refine Aw.region ?_ | refine Aw.block ?_ | refine Aw.skip ?_ | refine Aw.exit ?_ | refine Aw.condT rfl ?_ | refine Aw.condF rfl ?_)
  refine AwOps.v hT rfl ?_
  refine AwOps.eff hT rfl ?_
  repeat (first | refine AwOps.nil ?_ | refine AwSch.nil ?_ | refine Aw.seq ?_ | refine Aw.region ?_ | refine Aw.block ?_ | refine Aw.skip ?_ | refine Aw.exit ?_ | refine Aw.condT rfl ?_ | refine Aw.condF rfl ?_)
  refine Aw.ret ?_
  refine ⟨_, [], rfl, trivial, ?_⟩
  exact rfl
-- f95 certpath/copies.GeneralName
theorem F95 (g : Gn) (h : okNm g.name) : Fn Tryz.prog 74 [.pv (.agg (eGn g))] [] (fun r _ => r = .agg (eGn g)) := by
  refine Fn.intro (rs := [.cell 2 54]) hT Tryz.func74 (by kernel_rfl) rfl rfl rfl rfl fun C => ?_
  repeat (first | refine AwOps.nil ?_ | refine AwSch.nil ?_ | refine Aw.seq ?_ | refine Aw.region ?_ | refine Aw.block ?_ | refine Aw.skip ?_ | refine Aw.exit ?_ | refine Aw.condT rfl ?_ | refine Aw.condF rfl ?_)
  refine AwOps.eff hT rfl ?_
  refine AwOps.eff hT rfl ?_
  repeat (first | refine AwOps.nil ?_ | refine AwSch.nil ?_ | refine Aw.seq ?_ | refine Aw.region ?_ | refine Aw.block ?_ | refine Aw.skip ?_ | refine Aw.exit ?_ | refine Aw.condT rfl ?_ | refine Aw.condF rfl ?_)
  refine AwOps.v hT rfl ?_
  refine AwOps.v hT rfl ?_
  refine AwOps.cl (F39 _ (by assumption)) [] rfl ⟨⟨rfl, rfl⟩, trivial⟩ trivial rfl ?_   -- copies.Name
  rintro _ _ rfl
  refine AwOps.v hT rfl ?_
  refine AwOps.eff hT rfl ?_
  repeat (first | refine AwOps.nil ?_ | refine AwSch.nil ?_ | refine Aw.seq ?_ | refine Aw.region ?_ | refine Aw.block ?_ | refine Aw.skip ?_ | refine Aw.exit ?_ | refine Aw.condT rfl ?_ | refine Aw.condF rfl ?_)
  refine AwOps.v hT rfl ?_
  refine AwOps.eff hT rfl ?_
  repeat (first | refine AwOps.nil ?_ | refine AwSch.nil ?_ | refine Aw.seq ?_ | refine Aw.region ?_ | refine Aw.block ?_ | refine Aw.skip ?_ | refine Aw.exit ?_ | refine Aw.condT rfl ?_ | refine Aw.condF rfl ?_)
  refine Aw.ret ?_
  refine ⟨_, [], rfl, trivial, ?_⟩
  exact rfl
-- f43 certpath/copies.Anchors
theorem F43 (l : List Anchor) (hl : l.length ≤ 1000000) (hk : ∀ x ∈ l, okNm x.name) : Fn Tryz.prog 53 [.pv (.one (.p (.sl (l.map eAnchor))))] [] (fun r _ => r = .one (.p (.sl (l.map eAnchor)))) := by
  refine Fn.intro (rs := [.tmp 2]) hT Tryz.func53 (by kernel_rfl) rfl rfl rfl rfl fun C => ?_
  repeat (first | refine AwOps.nil ?_ | refine AwSch.nil ?_ | refine Aw.seq ?_ | refine Aw.region ?_ | refine Aw.block ?_ | refine Aw.skip ?_ | refine Aw.exit ?_ | refine Aw.condT rfl ?_ | refine Aw.condF rfl ?_)
  refine AwOps.v hT rfl ?_
  repeat (first | refine AwOps.nil ?_ | refine AwSch.nil ?_ | refine Aw.seq ?_ | refine Aw.region ?_ | refine Aw.block ?_ | refine Aw.skip ?_ | refine Aw.exit ?_ | refine Aw.condT rfl ?_ | refine Aw.condF rfl ?_)
  refine AwOps.v hT rfl ?_
  refine AwOps.cl (F68 65 l (by omega) (fun x hx => F69 x (hk x hx))) [] rfl ⟨⟨rfl, rfl⟩, ⟨rfl, rfl⟩, trivial⟩ trivial rfl ?_   -- api.Anchor]
  rintro _ _ rfl
  refine AwOps.v hT rfl ?_
  repeat (first | refine AwOps.nil ?_ | refine AwSch.nil ?_ | refine Aw.seq ?_ | refine Aw.region ?_ | refine Aw.block ?_ | refine Aw.skip ?_ | refine Aw.exit ?_ | refine Aw.condT rfl ?_ | refine Aw.condF rfl ?_)
  refine Aw.ret ?_
  refine ⟨_, [], rfl, trivial, ?_⟩
  exact rfl
-- f87 certpath/copies.GeneralNames
theorem F87 (l : List Gn) (hl : l.length ≤ 1000000) (hk : ∀ x ∈ l, okNm x.name) : Fn Tryz.prog 61 [.pv (.one (.p (.sl (l.map eGn))))] [] (fun r _ => r = .one (.p (.sl (l.map eGn)))) := by
  refine Fn.intro (rs := [.tmp 2]) hT Tryz.func61 (by kernel_rfl) rfl rfl rfl rfl fun C => ?_
  repeat (first | refine AwOps.nil ?_ | refine AwSch.nil ?_ | refine Aw.seq ?_ | refine Aw.region ?_ | refine Aw.block ?_ | refine Aw.skip ?_ | refine Aw.exit ?_ | refine Aw.condT rfl ?_ | refine Aw.condF rfl ?_)
  refine AwOps.v hT rfl ?_
  repeat (first | refine AwOps.nil ?_ | refine AwSch.nil ?_ | refine Aw.seq ?_ | refine Aw.region ?_ | refine Aw.block ?_ | refine Aw.skip ?_ | refine Aw.exit ?_ | refine Aw.condT rfl ?_ | refine Aw.condF rfl ?_)
  refine AwOps.v hT rfl ?_
  refine AwOps.cl (F94 74 l (by omega) (fun x hx => F95 x (hk x hx))) [] rfl ⟨⟨rfl, rfl⟩, ⟨rfl, rfl⟩, trivial⟩ trivial rfl ?_   -- api.GeneralName]
  rintro _ _ rfl
  refine AwOps.v hT rfl ?_
  repeat (first | refine AwOps.nil ?_ | refine AwSch.nil ?_ | refine Aw.seq ?_ | refine Aw.region ?_ | refine Aw.block ?_ | refine Aw.skip ?_ | refine Aw.exit ?_ | refine Aw.condT rfl ?_ | refine Aw.condF rfl ?_)
  refine Aw.ret ?_
  refine ⟨_, [], rfl, trivial, ?_⟩
  exact rfl
-- f76 certpath/copies.Subtrees
theorem F76 (s : Sub) (h : okSub s) : Fn Tryz.prog 49 [.pv (.agg (eSub s))] [] (fun r _ => r = .agg (eSub s)) := by
  refine Fn.intro (rs := [.cell 2 40]) hT Tryz.func49 (by kernel_rfl) rfl rfl rfl rfl fun C => ?_
  repeat (first | refine AwOps.nil ?_ | refine AwSch.nil ?_ | refine Aw.seq ?_ | refine Aw.region ?_ | refine Aw.block ?_ | refine Aw.skip ?_ | refine Aw.exit ?_ | refine Aw.condT rfl ?_ | refine Aw.condF rfl ?_)
  refine AwOps.eff hT rfl ?_
  refine AwOps.eff hT rfl ?_
  repeat (first | refine AwOps.nil ?_ | refine AwSch.nil ?_ | refine Aw.seq ?_ | refine Aw.region ?_ | refine Aw.block ?_ | refine Aw.skip ?_ | refine Aw.exit ?_ | refine Aw.condT rfl ?_ | refine Aw.condF rfl ?_)
  refine Aw.regionS [2] [(true, 0), (true, 1), (true, 3), (true, 4), (false, 2), (false, 5), (true, 6), (false, 7)] (by kernel_rfl) (by kernel_rfl) ?_
  iterate 4 refine AwSch.take (Yd.val hT rfl rfl) ?_
  refine AwSch.one ?_
  refine Ed.cl (F87 s.p (Nat.le_trans h.1.1 (by decide)) (fun x hx => (h.1.2 x hx).2)) [] rfl ⟨⟨rfl, rfl⟩, trivial⟩ trivial rfl rfl ?_   -- copies.GeneralNames
  rintro _ _ rfl
  refine AwSch.one ?_
  refine Ed.cl (F87 s.x (Nat.le_trans h.2.1 (by decide)) (fun x hx => (h.2.2 x hx).2)) [] rfl ⟨⟨rfl, rfl⟩, trivial⟩ trivial rfl rfl ?_   -- copies.GeneralNames
  rintro _ _ rfl
  refine AwSch.take (Yd.build hT rfl) ?_
  refine AwSch.say (t := 9) (B := .agg [_, _]) rfl rfl ?_
  refine AwSch.one ?_
  refine Ed.eff hT rfl (fun b hb => by injection hb with hb; subst hb; decide) ?_
  repeat (first | refine AwOps.nil ?_ | refine AwSch.nil ?_ | refine Aw.seq ?_ | refine Aw.region ?_ | refine Aw.block ?_ | refine Aw.skip ?_ | refine Aw.exit ?_ | refine Aw.condT rfl ?_ | refine Aw.condF rfl ?_)
  refine Aw.ret ?_
  refine ⟨_, [], rfl, trivial, ?_⟩
  exact rfl
-- f51 certpath/copies.NameState
theorem F51 (l : List Sub) (hl : l.length ≤ 1000000) (hk : ∀ x ∈ l, okSub x) : Fn Tryz.prog 25 [.pv (.agg (eNSt l))] [] (fun r _ => r = .agg (eNSt l)) := by
  refine Fn.intro (rs := [.cell 2 32]) hT Tryz.func25 (by kernel_rfl) rfl rfl rfl rfl fun C => ?_
  repeat (first | refine AwOps.nil ?_ | refine AwSch.nil ?_ | refine Aw.seq ?_ | refine Aw.region ?_ | refine Aw.block ?_ | refine Aw.skip ?_ | refine Aw.exit ?_ | refine Aw.condT rfl ?_ | refine Aw.condF rfl ?_)
  refine AwOps.eff hT rfl ?_
  refine AwOps.eff hT rfl ?_
  repeat (first | refine AwOps.nil ?_ | refine AwSch.nil ?_ | refine Aw.seq ?_ | refine Aw.region ?_ | refine Aw.block ?_ | refine Aw.skip ?_ | refine Aw.exit ?_ | refine Aw.condT rfl ?_ | refine Aw.condF rfl ?_)
  refine AwOps.v hT rfl ?_
  refine AwOps.v hT rfl ?_
  refine AwOps.cl (F75 49 l hl (fun x hx => F76 x (hk x hx))) [] rfl ⟨⟨rfl, rfl⟩, ⟨rfl, rfl⟩, trivial⟩ trivial rfl ?_   -- api.Subtrees]
  rintro _ _ rfl
  refine AwOps.v hT rfl ?_
  refine AwOps.eff hT rfl ?_
  repeat (first | refine AwOps.nil ?_ | refine AwSch.nil ?_ | refine Aw.seq ?_ | refine Aw.region ?_ | refine Aw.block ?_ | refine Aw.skip ?_ | refine Aw.exit ?_ | refine Aw.condT rfl ?_ | refine Aw.condF rfl ?_)
  refine AwOps.v hT rfl ?_
  refine AwOps.eff hT rfl ?_
  repeat (first | refine AwOps.nil ?_ | refine AwSch.nil ?_ | refine Aw.seq ?_ | refine Aw.region ?_ | refine Aw.block ?_ | refine Aw.skip ?_ | refine Aw.exit ?_ | refine Aw.condT rfl ?_ | refine Aw.condF rfl ?_)
  refine Aw.ret ?_
  refine ⟨_, [], rfl, trivial, ?_⟩
  exact rfl
-- f89 certpath/subtree.cloneName
theorem F89 (g : Gn) (h : okNm g.name) : Fn Tryz.prog 63 [.pv (.agg (eGn g))] [] (fun r _ => r = .agg (eGn g)) := by
  refine Fn.intro (rs := [.cell 2 54]) hT Tryz.func63 (by kernel_rfl) rfl rfl rfl rfl fun C => ?_
  have hn1 := h.2.1
  repeat (first | refine AwOps.nil ?_ | refine AwSch.nil ?_ | refine Aw.seq ?_ | refine Aw.region ?_ | refine Aw.block ?_ | refine Aw.skip ?_ | refine Aw.exit ?_ | refine Aw.condT rfl ?_ | refine Aw.condF rfl ?_)
  refine AwOps.eff hT rfl ?_
  refine AwOps.eff hT rfl ?_
  repeat (first | refine AwOps.nil ?_ | refine AwSch.nil ?_ | refine Aw.seq ?_ | refine Aw.region ?_ | refine Aw.block ?_ | refine Aw.skip ?_ | refine Aw.exit ?_ | refine Aw.condT rfl ?_ | refine Aw.condF rfl ?_)
  refine AwOps.v hT rfl ?_
  repeat (first | refine AwOps.nil ?_ | refine AwSch.nil ?_ | refine Aw.seq ?_ | refine Aw.region ?_ | refine Aw.block ?_ | refine Aw.skip ?_ | refine Aw.exit ?_ | refine Aw.condT rfl ?_ | refine Aw.condF rfl ?_)
  iterate 5 refine AwOps.v hT rfl ?_
  repeat (first | refine AwOps.nil ?_ | refine AwSch.nil ?_ | refine Aw.seq ?_ | refine Aw.region ?_ | refine Aw.block ?_ | refine Aw.skip ?_ | refine Aw.exit ?_ | refine Aw.condT rfl ?_ | refine Aw.condF rfl ?_)
  refine Aw.bnd 8 rfl fun hB1 => ?_
  replace hB1 : g.name.length ≤ maxLen := by simpa using hB1
  repeat (first | refine AwOps.nil ?_ | refine AwSch.nil ?_ | refine Aw.seq ?_ | refine Aw.region ?_ | refine Aw.block ?_ | refine Aw.skip ?_ | refine Aw.exit ?_ | refine Aw.condT rfl ?_ | refine Aw.condF rfl ?_)
  refine Aw.turn (Tn.own 3 903 96 1 rfl (by decide) (by decide) rfl) ?_
  refine Aw.lp (ι := Nat) (n := 24) [(1, _), (2, _), (8, _), (9, _)] [(1, _), (2, _)] (fun gq => [(3, .one (.own 903 (g.name.take gq).length)), (10, sc (.int .i64 gq))]) (fun gq => [(903, .row 96 1 true (List.map eRdn (g.name.take gq)))]) (fun gq => gq ≤ g.name.length ∧ (True)) (fun gq => g.name.length - gq) (0) ?ok1 (Less.tn ⟨rfl, ⟨rfl, rfl, rfl, rfl, rfl, rfl, trivial⟩, ⟨rfl, rfl, rfl, trivial⟩⟩) ?bd1
  case ok1 =>
    try dsimp only
    exact ⟨Nat.zero_le _, trivial⟩
  case bd1 =>
    intro i1 hi1
    try dsimp only at hi1
    show Aw _ _ _ ⟨24, [(3, .one (.own 903 (g.name.take i1).length)), (10, sc (.int .i64 i1))] ++ [(1, _), (2, _), (8, _), (9, _)], [(903, .row 96 1 true (List.map eRdn (g.name.take i1)))] ++ [(1, _), (2, _)]⟩ _
    repeat (first | refine AwOps.nil ?_ | refine AwSch.nil ?_ | refine Aw.seq ?_ | refine Aw.region ?_ | refine Aw.block ?_ | refine Aw.skip ?_ | refine Aw.exit ?_ | refine Aw.condT rfl ?_ | refine Aw.condF rfl ?_)
    refine AwOps.v hT rfl ?_
    repeat (first | refine AwOps.nil ?_ | refine AwSch.nil ?_ | refine Aw.seq ?_ | refine Aw.region ?_ | refine Aw.block ?_ | refine Aw.skip ?_ | refine Aw.exit ?_ | refine Aw.condT rfl ?_ | refine Aw.condF rfl ?_)
    refine Aw.tst rfl (fun hb11 => ?_) (fun hb11 => ?_)
    · skip
      have hlt1 : i1 < g.name.length := by simpa using hb11
      repeat (first | refine AwOps.nil ?_ | refine AwSch.nil ?_ | refine Aw.seq ?_ | refine Aw.region ?_ | refine Aw.block ?_ | refine Aw.skip ?_ | refine Aw.exit ?_ | refine Aw.condT rfl ?_ | refine Aw.condF rfl ?_)
      refine AwOps.im hT rfl hlt1 rfl ?_
      refine AwOps.v hT rfl ?_
      refine AwOps.v hT rfl ?_
      repeat (first | refine AwOps.nil ?_ | refine AwSch.nil ?_ | refine Aw.seq ?_ | refine Aw.region ?_ | refine Aw.block ?_ | refine Aw.skip ?_ | refine Aw.exit ?_ | refine Aw.condT rfl ?_ | refine Aw.condF rfl ?_)
      refine AwOps.v hT rfl ?_
      refine AwOps.v hT rfl ?_
      have hr := h.2.2 _ (List.getElem_mem hlt1)
      refine AwOps.appm (xs := []) hT rfl rfl rfl (by first | rfl | (simp; done)) (by first | rfl | (simp; done)) (fun _ => rfl) (by simp only [List.length_nil]; omega) ?_
      refine AwOps.turn (Tn.fz 16 rfl rfl (by first | rfl | (simp; done)) rfl) ?_
      refine AwOps.lit hT rfl ?_
      refine AwOps.turn (Tn.fz 17 rfl rfl (by first | rfl | (simp; done)) rfl) ?_
      refine AwOps.turn (Less.say (t := 17) (B := .one (.p (.sl (List.map eRdn [_])))) rfl rfl) ?_
      refine AwOps.appm  hT rfl rfl rfl (by first | rfl | (simp; done)) (by first | rfl | (simp; done)) (fun _ => rfl) (by simp only [List.length_cons, List.length_nil, List.length_take]; omega) ?_
      refine AwOps.v hT rfl ?_
      repeat (first | refine AwOps.nil ?_ | refine AwSch.nil ?_ | refine Aw.seq ?_ | refine Aw.region ?_ | refine Aw.block ?_ | refine Aw.skip ?_ | refine Aw.exit ?_ | refine Aw.condT rfl ?_ | refine Aw.condF rfl ?_)
      refine AwOps.v hT rfl ?_
      refine AwOps.v hT rfl ?_
      repeat (first | refine AwOps.nil ?_ | refine AwSch.nil ?_ | refine Aw.seq ?_ | refine Aw.region ?_ | refine Aw.block ?_ | refine Aw.skip ?_ | refine Aw.exit ?_ | refine Aw.condT rfl ?_ | refine Aw.condF rfl ?_)
      refine ⟨(i1 + 1), ?nx1, ?mu1, Tn.trans (Less.tn (τ := ⟨24, [(3, _), (10, _), (1, _), (2, _), (8, _), (9, _)], [(18, _), (1, _), (2, _)]⟩) ⟨rfl, ⟨rfl, rfl, rfl, rfl, rfl, rfl, trivial⟩, ⟨rfl, rfl, rfl, trivial⟩⟩) (Tn.trans (Tn.ren 18 903 rfl rfl rfl) (Less.tn ⟨rfl, ⟨(ownsnoc hlt1), incS hlt1 hB1, rfl, rfl, rfl, rfl, trivial⟩, ⟨(rowsnoc hlt1), rfl, rfl, trivial⟩⟩))⟩
      case nx1 =>
        try dsimp only
        first | exact ⟨hlt1, trivial⟩ | trivial
      case mu1 =>
        try dsimp only
        first | omega | (simp only [w64] at *; omega) | (simp [w64] at *; omega)
    · skip
      have hi : i1 = g.name.length := by have := of_decide_eq_false hb11; simp only [List.length_map] at this; omega
      subst hi
      rw [List.take_length]
      repeat (first | refine AwOps.nil ?_ | refine AwSch.nil ?_ | refine Aw.seq ?_ | refine Aw.region ?_ | refine Aw.block ?_ | refine Aw.skip ?_ | refine Aw.exit ?_ | refine Aw.condT rfl ?_ | refine Aw.condF rfl ?_)
      iterate 3 refine AwOps.v hT rfl ?_
      refine AwOps.eff hT rfl ?_
      repeat (first | refine AwOps.nil ?_ | refine AwSch.nil ?_ | refine Aw.seq ?_ | refine Aw.region ?_ | refine Aw.block ?_ | refine Aw.skip ?_ | refine Aw.exit ?_ | refine Aw.condT rfl ?_ | refine Aw.condF rfl ?_)
      refine AwOps.turn (Tn.freezeC 1 2 rfl rfl rfl (by first | rfl | (simp; done)) rfl rfl) ?_
      refine AwOps.v hT rfl ?_
      refine AwOps.eff hT rfl ?_
      repeat (first | refine AwOps.nil ?_ | refine AwSch.nil ?_ | refine Aw.seq ?_ | refine Aw.region ?_ | refine Aw.block ?_ | refine Aw.skip ?_ | refine Aw.exit ?_ | refine Aw.condT rfl ?_ | refine Aw.condF rfl ?_)
      refine Aw.ret ?_
      refine ⟨_, [], rfl, trivial, ?_⟩
      exact rfl
-- f88 certpath/subtree.each[certpath/api.GeneralName,certpath/api.GeneralName]
theorem F88 (f : Nat) (l : List (Gn)) (hl : l.length ≤ 1000000) (hf : ∀ x ∈ l, Fn Tryz.prog f [.pv (.agg (eGn x))] [] (fun r _ => r = .agg (eGn x))) : Fn Tryz.prog 62 [.pv (.one (.p (.sl (l.map eGn)))), .pv (sc (.func (.func f) #[] #[]))] [] (fun r _ => r = .one (.p (.sl (l.map eGn)))) := by
  refine Fn.intro (rs := [.tmp 4]) hT Tryz.func62 (by kernel_rfl) rfl rfl rfl rfl fun C => ?_
  repeat (first | refine AwOps.nil ?_ | refine AwSch.nil ?_ | refine Aw.seq ?_ | refine Aw.region ?_ | refine Aw.block ?_ | refine Aw.skip ?_ | refine Aw.exit ?_ | refine Aw.condT rfl ?_ | refine Aw.condF rfl ?_)
  refine AwOps.v hT rfl ?_
  repeat (first | refine AwOps.nil ?_ | refine AwSch.nil ?_ | refine Aw.seq ?_ | refine Aw.region ?_ | refine Aw.block ?_ | refine Aw.skip ?_ | refine Aw.exit ?_ | refine Aw.condT rfl ?_ | refine Aw.condF rfl ?_)
  refine AwOps.v hT rfl ?_
  repeat (first | refine AwOps.nil ?_ | refine AwSch.nil ?_ | refine Aw.seq ?_ | refine Aw.region ?_ | refine Aw.block ?_ | refine Aw.skip ?_ | refine Aw.exit ?_ | refine Aw.condT rfl ?_ | refine Aw.condF rfl ?_)
  iterate 3 refine AwOps.v hT rfl ?_
  repeat (first | refine AwOps.nil ?_ | refine AwSch.nil ?_ | refine Aw.seq ?_ | refine Aw.region ?_ | refine Aw.block ?_ | refine Aw.skip ?_ | refine Aw.exit ?_ | refine Aw.condT rfl ?_ | refine Aw.condF rfl ?_)
  refine Aw.bnd 8 rfl fun hB1 => ?_
  replace hB1 : l.length ≤ maxLen := by simpa using hB1
  repeat (first | refine AwOps.nil ?_ | refine AwSch.nil ?_ | refine Aw.seq ?_ | refine Aw.region ?_ | refine Aw.block ?_ | refine Aw.skip ?_ | refine Aw.exit ?_ | refine Aw.condT rfl ?_ | refine Aw.condF rfl ?_)
  refine Aw.turn (Tn.own 5 905 54 3 rfl (by decide) (by decide) rfl) ?_
  refine Aw.lp (ι := Nat) (n := 22) [(1, _), (8, _), (9, _)] [] (fun gq => [(5, .one (.own 905 (l.take gq).length)), (10, sc (.int .i64 gq))]) (fun gq => [(905, .row 54 3 true (List.map eGn (l.take gq)))]) (fun gq => gq ≤ l.length ∧ (True)) (fun gq => l.length - gq) (0) ?ok1 (Less.tn ⟨rfl, ⟨rfl, rfl, rfl, rfl, rfl, trivial⟩, ⟨rfl, trivial⟩⟩) ?bd1
  case ok1 =>
    try dsimp only
    exact ⟨Nat.zero_le _, trivial⟩
  case bd1 =>
    intro i1 hi1
    try dsimp only at hi1
    show Aw _ _ _ ⟨22, [(5, .one (.own 905 (l.take i1).length)), (10, sc (.int .i64 i1))] ++ [(1, _), (8, _), (9, _)], [(905, .row 54 3 true (List.map eGn (l.take i1)))] ++ []⟩ _
    repeat (first | refine AwOps.nil ?_ | refine AwSch.nil ?_ | refine Aw.seq ?_ | refine Aw.region ?_ | refine Aw.block ?_ | refine Aw.skip ?_ | refine Aw.exit ?_ | refine Aw.condT rfl ?_ | refine Aw.condF rfl ?_)
    refine AwOps.v hT rfl ?_
    repeat (first | refine AwOps.nil ?_ | refine AwSch.nil ?_ | refine Aw.seq ?_ | refine Aw.region ?_ | refine Aw.block ?_ | refine Aw.skip ?_ | refine Aw.exit ?_ | refine Aw.condT rfl ?_ | refine Aw.condF rfl ?_)
    refine Aw.tst rfl (fun hb11 => ?_) (fun hb11 => ?_)
    · skip
      have hlt1 : i1 < l.length := by simpa using hb11
      repeat (first | refine AwOps.nil ?_ | refine AwSch.nil ?_ | refine Aw.seq ?_ | refine Aw.region ?_ | refine Aw.block ?_ | refine Aw.skip ?_ | refine Aw.exit ?_ | refine Aw.condT rfl ?_ | refine Aw.condF rfl ?_)
      refine AwOps.im hT rfl hlt1 rfl ?_
      refine AwOps.v hT rfl ?_
      refine AwOps.eff hT rfl ?_
      refine AwOps.eff hT rfl ?_
      repeat (first | refine AwOps.nil ?_ | refine AwSch.nil ?_ | refine Aw.seq ?_ | refine Aw.region ?_ | refine Aw.block ?_ | refine Aw.skip ?_ | refine Aw.exit ?_ | refine Aw.condT rfl ?_ | refine Aw.condF rfl ?_)
      iterate 3 refine AwOps.v hT rfl ?_
      refine AwOps.cl (hf _ (List.getElem_mem hlt1)) [] rfl ⟨⟨rfl, rfl⟩, trivial⟩ trivial rfl ?_   -- fv
      rintro _ _ rfl
      refine AwOps.lit hT rfl ?_
      refine AwOps.turn (Tn.fz 18 rfl rfl (by first | rfl | (simp; done)) rfl) ?_
      refine AwOps.turn (Less.say (t := 18) (B := .one (.p (.sl (List.map eGn [⟨_, _, _⟩])))) rfl rfl) ?_
      refine AwOps.appm  hT rfl rfl rfl (by first | rfl | (simp; done)) (by first | rfl | (simp; done)) (fun _ => rfl) (by simp only [List.length_cons, List.length_nil, List.length_take]; omega) ?_
      refine AwOps.v hT rfl ?_
      repeat (first | refine AwOps.nil ?_ | refine AwSch.nil ?_ | refine Aw.seq ?_ | refine Aw.region ?_ | refine Aw.block ?_ | refine Aw.skip ?_ | refine Aw.exit ?_ | refine Aw.condT rfl ?_ | refine Aw.condF rfl ?_)
      refine AwOps.v hT rfl ?_
      refine AwOps.v hT rfl ?_
      repeat (first | refine AwOps.nil ?_ | refine AwSch.nil ?_ | refine Aw.seq ?_ | refine Aw.region ?_ | refine Aw.block ?_ | refine Aw.skip ?_ | refine Aw.exit ?_ | refine Aw.condT rfl ?_ | refine Aw.condF rfl ?_)
      refine ⟨(i1 + 1), ?nx1, ?mu1, Tn.trans (Less.tn (τ := ⟨22, [(5, _), (10, _), (1, _), (8, _), (9, _)], [(19, _)]⟩) ⟨rfl, ⟨rfl, rfl, rfl, rfl, rfl, trivial⟩, ⟨rfl, trivial⟩⟩) (Tn.trans (Tn.ren 19 905 rfl rfl rfl) (Less.tn ⟨rfl, ⟨(ownsnoc hlt1), incS hlt1 hB1, rfl, rfl, rfl, trivial⟩, ⟨(rowsnoc hlt1), trivial⟩⟩))⟩
      case nx1 =>
        try dsimp only
        first | exact ⟨hlt1, trivial⟩ | trivial
      case mu1 =>
        try dsimp only
        first | omega | (simp only [w64] at *; omega) | (simp [w64] at *; omega)
    · skip
      have hi : i1 = l.length := by have := of_decide_eq_false hb11; simp only [List.length_map] at this; omega
      subst hi
      rw [List.take_length]
      repeat (first | refine AwOps.nil ?_ | refine AwSch.nil ?_ | refine Aw.seq ?_ | refine Aw.region ?_ | refine Aw.block ?_ | refine Aw.skip ?_ | refine Aw.exit ?_ | refine Aw.condT rfl ?_ | refine Aw.condF rfl ?_)
      refine AwOps.v hT rfl ?_
      refine AwOps.v hT rfl ?_
      repeat (first | refine AwOps.nil ?_ | refine AwSch.nil ?_ | refine Aw.seq ?_ | refine Aw.region ?_ | refine Aw.block ?_ | refine Aw.skip ?_ | refine Aw.exit ?_ | refine Aw.condT rfl ?_ | refine Aw.condF rfl ?_)
      refine Aw.turn (Tn.fz 4 rfl rfl (by first | rfl | (simp; done)) rfl) ?_
      refine Aw.ret ?_
      refine ⟨_, [], rfl, trivial, ?_⟩
      exact rfl
-- f77 certpath/subtree.each[certpath/api.Subtrees,certpath/api.Subtrees]
theorem F77 (f : Nat) (l : List (Sub)) (hl : l.length ≤ 1000000) (hf : ∀ x ∈ l, Fn Tryz.prog f [.pv (.agg (eSub x))] [] (fun r _ => r = .agg (eSub x))) : Fn Tryz.prog 50 [.pv (.one (.p (.sl (l.map eSub)))), .pv (sc (.func (.func f) #[] #[]))] [] (fun r _ => r = .one (.p (.sl (l.map eSub)))) := by
  refine Fn.intro (rs := [.tmp 4]) hT Tryz.func50 (by kernel_rfl) rfl rfl rfl rfl fun C => ?_
  repeat (first | refine AwOps.nil ?_ | refine AwSch.nil ?_ | refine Aw.seq ?_ | refine Aw.region ?_ | refine Aw.block ?_ | refine Aw.skip ?_ | refine Aw.exit ?_ | refine Aw.condT rfl ?_ | refine Aw.condF rfl ?_)
  refine AwOps.v hT rfl ?_
  repeat (first | refine AwOps.nil ?_ | refine AwSch.nil ?_ | refine Aw.seq ?_ | refine Aw.region ?_ | refine Aw.block ?_ | refine Aw.skip ?_ | refine Aw.exit ?_ | refine Aw.condT rfl ?_ | refine Aw.condF rfl ?_)
  refine AwOps.v hT rfl ?_
  repeat (first | refine AwOps.nil ?_ | refine AwSch.nil ?_ | refine Aw.seq ?_ | refine Aw.region ?_ | refine Aw.block ?_ | refine Aw.skip ?_ | refine Aw.exit ?_ | refine Aw.condT rfl ?_ | refine Aw.condF rfl ?_)
  iterate 3 refine AwOps.v hT rfl ?_
  repeat (first | refine AwOps.nil ?_ | refine AwSch.nil ?_ | refine Aw.seq ?_ | refine Aw.region ?_ | refine Aw.block ?_ | refine Aw.skip ?_ | refine Aw.exit ?_ | refine Aw.condT rfl ?_ | refine Aw.condF rfl ?_)
  refine Aw.bnd 8 rfl fun hB1 => ?_
  replace hB1 : l.length ≤ maxLen := by simpa using hB1
  repeat (first | refine AwOps.nil ?_ | refine AwSch.nil ?_ | refine Aw.seq ?_ | refine Aw.region ?_ | refine Aw.block ?_ | refine Aw.skip ?_ | refine Aw.exit ?_ | refine Aw.condT rfl ?_ | refine Aw.condF rfl ?_)
  refine Aw.turn (Tn.own 5 905 40 2 rfl (by decide) (by decide) rfl) ?_
  refine Aw.lp (ι := Nat) (n := 22) [(1, _), (8, _), (9, _)] [] (fun gq => [(5, .one (.own 905 (l.take gq).length)), (10, sc (.int .i64 gq))]) (fun gq => [(905, .row 40 2 true (List.map eSub (l.take gq)))]) (fun gq => gq ≤ l.length ∧ (True)) (fun gq => l.length - gq) (0) ?ok1 (Less.tn ⟨rfl, ⟨rfl, rfl, rfl, rfl, rfl, trivial⟩, ⟨rfl, trivial⟩⟩) ?bd1
  case ok1 =>
    try dsimp only
    exact ⟨Nat.zero_le _, trivial⟩
  case bd1 =>
    intro i1 hi1
    try dsimp only at hi1
    show Aw _ _ _ ⟨22, [(5, .one (.own 905 (l.take i1).length)), (10, sc (.int .i64 i1))] ++ [(1, _), (8, _), (9, _)], [(905, .row 40 2 true (List.map eSub (l.take i1)))] ++ []⟩ _
    repeat (first | refine AwOps.nil ?_ | refine AwSch.nil ?_ | refine Aw.seq ?_ | refine Aw.region ?_ | refine Aw.block ?_ | refine Aw.skip ?_ | refine Aw.exit ?_ | refine Aw.condT rfl ?_ | refine Aw.condF rfl ?_)
    refine AwOps.v hT rfl ?_
    repeat (first | refine AwOps.nil ?_ | refine AwSch.nil ?_ | refine Aw.seq ?_ | refine Aw.region ?_ | refine Aw.block ?_ | refine Aw.skip ?_ | refine Aw.exit ?_ | refine Aw.condT rfl ?_ | refine Aw.condF rfl ?_)
    refine Aw.tst rfl (fun hb11 => ?_) (fun hb11 => ?_)
    · skip
      have hlt1 : i1 < l.length := by simpa using hb11
      repeat (first | refine AwOps.nil ?_ | refine AwSch.nil ?_ | refine Aw.seq ?_ | refine Aw.region ?_ | refine Aw.block ?_ | refine Aw.skip ?_ | refine Aw.exit ?_ | refine Aw.condT rfl ?_ | refine Aw.condF rfl ?_)
      refine AwOps.im hT rfl hlt1 rfl ?_
      refine AwOps.v hT rfl ?_
      refine AwOps.eff hT rfl ?_
      refine AwOps.eff hT rfl ?_
      repeat (first | refine AwOps.nil ?_ | refine AwSch.nil ?_ | refine Aw.seq ?_ | refine Aw.region ?_ | refine Aw.block ?_ | refine Aw.skip ?_ | refine Aw.exit ?_ | refine Aw.condT rfl ?_ | refine Aw.condF rfl ?_)
      iterate 3 refine AwOps.v hT rfl ?_
      refine AwOps.cl (hf _ (List.getElem_mem hlt1)) [] rfl ⟨⟨rfl, rfl⟩, trivial⟩ trivial rfl ?_   -- fv
      rintro _ _ rfl
      refine AwOps.lit hT rfl ?_
      refine AwOps.turn (Tn.fz 18 rfl rfl (by first | rfl | (simp; done)) rfl) ?_
      refine AwOps.turn (Less.say (t := 18) (B := .one (.p (.sl (List.map eSub [⟨_, _⟩])))) rfl rfl) ?_
      refine AwOps.appm  hT rfl rfl rfl (by first | rfl | (simp; done)) (by first | rfl | (simp; done)) (fun _ => rfl) (by simp only [List.length_cons, List.length_nil, List.length_take]; omega) ?_
      refine AwOps.v hT rfl ?_
      repeat (first | refine AwOps.nil ?_ | refine AwSch.nil ?_ | refine Aw.seq ?_ | refine Aw.region ?_ | refine Aw.block ?_ | refine Aw.skip ?_ | refine Aw.exit ?_ | refine Aw.condT rfl ?_ | refine Aw.condF rfl ?_)
      refine AwOps.v hT rfl ?_
      refine AwOps.v hT rfl ?_
      repeat (first | refine AwOps.nil ?_ | refine AwSch.nil ?_ | refine Aw.seq ?_ | refine Aw.region ?_ | refine Aw.block ?_ | refine Aw.skip ?_ | refine Aw.exit ?_ | refine Aw.condT rfl ?_ | refine Aw.condF rfl ?_)
      refine ⟨(i1 + 1), ?nx1, ?mu1, Tn.trans (Less.tn (τ := ⟨22, [(5, _), (10, _), (1, _), (8, _), (9, _)], [(19, _)]⟩) ⟨rfl, ⟨rfl, rfl, rfl, rfl, rfl, trivial⟩, ⟨rfl, trivial⟩⟩) (Tn.trans (Tn.ren 19 905 rfl rfl rfl) (Less.tn ⟨rfl, ⟨(ownsnoc hlt1), incS hlt1 hB1, rfl, rfl, rfl, trivial⟩, ⟨(rowsnoc hlt1), trivial⟩⟩))⟩
      case nx1 =>
        try dsimp only
        first | exact ⟨hlt1, trivial⟩ | trivial
      case mu1 =>
        try dsimp only
        first | omega | (simp only [w64] at *; omega) | (simp [w64] at *; omega)
    · skip
      have hi : i1 = l.length := by have := of_decide_eq_false hb11; simp only [List.length_map] at this; omega
      subst hi
      rw [List.take_length]
      repeat (first | refine AwOps.nil ?_ | refine AwSch.nil ?_ | refine Aw.seq ?_ | refine Aw.region ?_ | refine Aw.block ?_ | refine Aw.skip ?_ | refine Aw.exit ?_ | refine Aw.condT rfl ?_ | refine Aw.condF rfl ?_)
      refine AwOps.v hT rfl ?_
      refine AwOps.v hT rfl ?_
      repeat (first | refine AwOps.nil ?_ | refine AwSch.nil ?_ | refine Aw.seq ?_ | refine Aw.region ?_ | refine Aw.block ?_ | refine Aw.skip ?_ | refine Aw.exit ?_ | refine Aw.condT rfl ?_ | refine Aw.condF rfl ?_)
      refine Aw.turn (Tn.fz 4 rfl rfl (by first | rfl | (simp; done)) rfl) ?_
      refine Aw.ret ?_
      refine ⟨_, [], rfl, trivial, ?_⟩
      exact rfl
-- f78 certpath/subtree.clone
theorem F78 (s : Sub) (h : okSub s) : Fn Tryz.prog 51 [.pv (.agg (eSub s))] [] (fun r _ => r = .agg (eSub s)) := by
  refine Fn.intro (rs := [.cell 2 40]) hT Tryz.func51 (by kernel_rfl) rfl rfl rfl rfl fun C => ?_
  repeat (first | refine AwOps.nil ?_ | refine AwSch.nil ?_ | refine Aw.seq ?_ | refine Aw.region ?_ | refine Aw.block ?_ | refine Aw.skip ?_ | refine Aw.exit ?_ | refine Aw.condT rfl ?_ | refine Aw.condF rfl ?_)
  refine AwOps.eff hT rfl ?_
  refine AwOps.eff hT rfl ?_
  repeat (first | refine AwOps.nil ?_ | refine AwSch.nil ?_ | refine Aw.seq ?_ | refine Aw.region ?_ | refine Aw.block ?_ | refine Aw.skip ?_ | refine Aw.exit ?_ | refine Aw.condT rfl ?_ | refine Aw.condF rfl ?_)
  refine Aw.regionS [2] [(true, 0), (true, 1), (true, 3), (true, 4), (false, 2), (false, 5), (true, 6), (false, 7)] (by kernel_rfl) (by kernel_rfl) ?_
  iterate 4 refine AwSch.take (Yd.val hT rfl rfl) ?_
  refine AwSch.one ?_
  refine Ed.cl (F88 63 s.p (Nat.le_trans h.1.1 (by decide)) (fun x hx => F89 x (h.1.2 x hx).2)) [] rfl ⟨⟨rfl, rfl⟩, ⟨rfl, rfl⟩, trivial⟩ trivial rfl rfl ?_   -- api.GeneralName]
  rintro _ _ rfl
  refine AwSch.one ?_
  refine Ed.cl (F88 63 s.x (Nat.le_trans h.2.1 (by decide)) (fun x hx => F89 x (h.2.2 x hx).2)) [] rfl ⟨⟨rfl, rfl⟩, ⟨rfl, rfl⟩, trivial⟩ trivial rfl rfl ?_   -- api.GeneralName]
  rintro _ _ rfl
  refine AwSch.take (Yd.build hT rfl) ?_
  refine AwSch.say (t := 9) (B := .agg [_, _]) rfl rfl ?_
  refine AwSch.one ?_
  refine Ed.eff hT rfl (fun b hb => by injection hb with hb; subst hb; decide) ?_
  repeat (first | refine AwOps.nil ?_ | refine AwSch.nil ?_ | refine Aw.seq ?_ | refine Aw.region ?_ | refine Aw.block ?_ | refine Aw.skip ?_ | refine Aw.exit ?_ | refine Aw.condT rfl ?_ | refine Aw.condF rfl ?_)
  refine Aw.ret ?_
  refine ⟨_, [], rfl, trivial, ?_⟩
  exact rfl
end Go.Proofs.YthhjfcmkelmobaaGreat.Aw
