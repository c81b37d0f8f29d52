
/- The walks of the copies: of names, constraints, anchors.
   Conditions: none. -/
import Derived.Test.YtbdgmondalkhlaaDoorWkCert
namespace Go.Proofs.YtbdgmondalkhlaaDoor.Aw
open Go
set_option maxRecDepth 100000
set_option maxHeartbeats 4000000
set_option linter.unusedSimpArgs false
set_option linter.unusedVariables false

theorem rowself {α : Type} {f : α → List PL} {l : List α} {t sz k : Nat} (h : k < l.length) : some (HB.row t sz true ((l.set k l[k]).map f)) = some (HB.row t sz true (l.map f)) := by rw [List.set_getElem_self]
theorem nil_of_map {α β : Type} {f : α → β} {l : List α} (h : l.map f = []) : l = [] := List.map_eq_nil_iff.1 h
theorem ownsnoc {α : Type} {l : List α} {i b : Nat} (h : i < l.length) : some (AV.one (.own b (l.take i ++ [l[i]]).length)) = some (AV.one (.own b (l.take (i + 1)).length)) := by rw [List.take_succ_eq_append_getElem h]
theorem rowsnoc {α : Type} {f : α → List PL} {l : List α} {i t sz : Nat} (h : i < l.length) : some (HB.row t sz true ((l.take i ++ [l[i]]).map f)) = some (HB.row t sz true ((l.take (i + 1)).map f)) := by rw [List.take_succ_eq_append_getElem h]
theorem take_snoc {α : Type} {l : List α} {i : Nat} (h : i < l.length) : l.take i ++ [l[i]] = l.take (i + 1) := (List.take_succ_eq_append_getElem h).symm
-- f65 slices.Clone[[][]certpath/api.Attribute,[]certpath/api.Attribute]
theorem F65 (l : List (List (Attr))) (hl : l.length ≤ 1000000) : FnO Tryd.prog 65 [.one (.p (.sl (l.map eRdn)))] (fun o => o = .row 79 1 (l.map eRdn)) := by
  refine FnO.intro Tryd.func65 (by kernel_rfl) rfl rfl rfl rfl fun C => ?_
  refine Aw.seq (Aw.region ?_)
  refine AwOps.v hT rfl ?_
  refine AwOps.nil (Aw.seq (Aw.seq (Aw.region ?_)))
  refine AwOps.v hT rfl ?_
  refine AwOps.eqn hT rfl ?_
  intro bn4 hn4
  refine AwOps.nil ?_
  refine Aw.tst rfl (fun hb4 => ?_) (fun hb4 => ?_)
  · skip
    have hnil := nil_of_map (hn4 hb4)
    refine Aw.seq (Aw.region ?_)
    refine AwOps.v hT rfl ?_
    refine AwOps.nil ?_
    refine Aw.turn (Tn.own 2 902 79 1 rfl (by decide) (by decide) rfl) ?_
    refine Aw.ret ?_
    exact ⟨902, by decide, .inl ⟨_, _, _, _, rfl, rfl, rfl, by rw [hnil]; rfl⟩⟩
  · skip
    refine Aw.skip (Aw.seq (Aw.region ?_))
    refine AwOps.lit hT rfl ?_
    refine AwOps.v hT rfl ?_
    refine AwOps.appm (xs := []) hT rfl rfl rfl (by first | rfl | (simp; done)) (by first | rfl | (simp; done)) (fun _ => rfl) (by simp only [List.length_nil]; omega) ?_
    refine AwOps.v hT rfl ?_
    refine AwOps.nil ?_
    refine Aw.ret ?_
    exact ⟨7, by decide, .inl ⟨_, _, _, _, rfl, rfl, by simp, rfl⟩⟩
-- f66 slices.Clone[[]certpath/api.Attribute,certpath/api.Attribute]
theorem F66 (l : List (Attr)) (hl : l.length ≤ 1000000) : Fn Tryd.prog 66 [.pv (.one (.p (.sl (l.map eAttr))))] [] (fun r _ => r = .one (.p (.sl (l.map eAttr)))) := by
  refine Fn.intro (rs := [.tmp 2]) hT Tryd.func66 (by kernel_rfl) rfl rfl rfl rfl fun C => ?_
  refine Aw.seq (Aw.region ?_)
  refine AwOps.v hT rfl ?_
  refine AwOps.nil (Aw.seq (Aw.seq (Aw.region ?_)))
  refine AwOps.v hT rfl ?_
  refine AwOps.eqn hT rfl ?_
  intro bn4 hn4
  refine AwOps.nil ?_
  refine Aw.tst rfl (fun hb4 => ?_) (fun hb4 => ?_)
  · skip
    have hnil := nil_of_map (hn4 hb4)
    refine Aw.seq (Aw.region ?_)
    refine AwOps.v hT rfl ?_
    refine AwOps.nil ?_
    refine Aw.ret ?_
    refine ⟨_, [], rfl, trivial, ?_⟩
    rw [hnil]
    rfl
  · skip
    refine Aw.skip (Aw.seq (Aw.region ?_))
    refine AwOps.lit hT rfl ?_
    refine AwOps.v hT rfl ?_
    refine AwOps.appm (xs := []) hT rfl rfl rfl (by first | rfl | (simp; done)) (by first | rfl | (simp; done)) (fun _ => rfl) (by simp only [List.length_nil]; omega) ?_
    refine AwOps.turn (Tn.fz 7 rfl rfl (by first | rfl | (simp; done)) rfl) ?_
    refine AwOps.v hT rfl ?_
    refine AwOps.nil ?_
    refine Aw.ret ?_
    refine ⟨_, [], rfl, trivial, ?_⟩
    exact rfl
-- f39 certpath/copies.Name
theorem F39 (n : Name) (hn : okNm n) : Fn Tryd.prog 53 [.pv (.agg (eName n))] [] (fun r _ => r = .agg (eName n)) := by
  refine Fn.intro (rs := [.cell 2 25]) hT Tryd.func53 (by kernel_rfl) rfl rfl rfl rfl fun C => ?_
  have hn1 := hn.2.1
  refine Aw.seq (Aw.region ?_)
  refine AwOps.eff hT rfl ?_
  refine AwOps.eff hT rfl ?_
  refine AwOps.nil (Aw.seq (Aw.region ?_))
  refine AwOps.v hT rfl ?_
  refine AwOps.v hT rfl ?_
  refine AwOps.ed (N := []) (Ed.callO (F65 _ (by omega)) rfl rfl rfl rfl ?_)
  rintro _ rfl
  refine AwOps.v hT rfl ?_
  refine AwOps.eff hT rfl ?_
  refine AwOps.nil (Aw.seq (Aw.seq (Aw.region ?_)))
  iterate 4 refine AwOps.v hT rfl ?_
  refine AwOps.nil (Aw.block ?_)
  have hB1 : n.length ≤ maxLen := by unfold maxLen; omega
  refine Aw.lp (ι := Nat) (n := 25) [(1, _), (2, _), (10, _), (11, _)] [(1, _), (2, _)] (fun gq => [(12, sc (.int .i64 gq))]) (fun gq => [(7, .row 79 1 true (List.map eRdn n))]) (fun gq => gq ≤ n.length ∧ (True)) (fun gq => n.length - gq) (0) ?ok1 (Less.tn ⟨rfl, ⟨rfl, rfl, rfl, rfl, rfl, trivial⟩, ⟨rfl, rfl, rfl, trivial⟩⟩) ?bd1
  case ok1 =>
    try dsimp only
    exact ⟨Nat.zero_le _, trivial⟩
  case bd1 =>
    intro i1 hi1
    try dsimp only at hi1
    show Aw _ _ _ ⟨25, [(12, sc (.int .i64 i1))] ++ [(1, _), (2, _), (10, _), (11, _)], [(7, .row 79 1 true (List.map eRdn n))] ++ [(1, _), (2, _)]⟩ _
    refine Aw.seq (Aw.region ?_)
    refine AwOps.v hT rfl ?_
    refine AwOps.nil (Aw.seq ?_)
    refine Aw.tst rfl (fun hb13 => ?_) (fun hb13 => ?_)
    · skip
      have hlt1 : i1 < n.length := by simpa using hb13
      refine Aw.skip (Aw.seq (Aw.block (Aw.seq (Aw.region ?_))))
      refine AwOps.v hT rfl ?_
      refine AwOps.idxo hT rfl rfl (by first | omega | (simp only [w64] at *; omega) | (simp [w64] at *; omega)) (by first | omega | (simp only [List.length_cons, List.length_nil, List.length_map]; omega) | (simp only [List.length_cons, List.length_nil, List.length_map, w64] at *; omega) | (simp [w64] at *; omega)) ?_
      refine AwOps.ldo hT rfl rfl (eRdn n[i1]) (ldm hlt1) rfl ?_
      refine AwOps.v hT rfl ?_
      refine AwOps.v hT rfl ?_
      refine AwOps.nil ?_
      refine Aw.regionS [7] [(true, 0), (true, 1), (true, 2), (true, 3), (false, 4), (true, 5), (false, 6)] (by kernel_rfl) (by kernel_rfl) ?_
      iterate 4 refine AwSch.take (Yd.val hT rfl rfl) ?_
      have hr := hn.2.2 _ (List.getElem_mem hlt1)
      refine AwSch.one ?_
      refine Ed.cl (F66 _ (by omega)) [] rfl ⟨⟨rfl, rfl⟩, trivial⟩ trivial rfl rfl ?_   -- api.Attribute]
      rintro _ _ rfl
      refine AwSch.take (Yd.idxo hT rfl rfl (by first | omega | (simp only [w64] at *; omega) | (simp [w64] at *; omega)) (by first | omega | (simp only [List.length_cons, List.length_nil, List.length_map]; omega) | (simp only [List.length_cons, List.length_nil, List.length_map, w64] at *; omega) | (simp [w64] at *; omega))) ?_
      refine AwSch.one ?_
      refine Ed.sto hT rfl rfl _ (ldm hlt1) (Nat.le_refl _) (by decide) ?_
      refine AwSch.sayH (b := 7) rfl (rowset (f := eRdn)) ?_
      refine AwSch.nil (Aw.region ?_)
      refine AwOps.v hT rfl ?_
      refine AwOps.v hT rfl ?_
      refine AwOps.nil ?_
      refine ⟨(i1 + 1), ?nx1, ?mu1, Less.tn ⟨rfl, ⟨incS hlt1 hB1, rfl, rfl, rfl, rfl, trivial⟩, ⟨(rowself hlt1), rfl, rfl, trivial⟩⟩⟩
      case nx1 =>
        try dsimp only
        first | exact ⟨hlt1, trivial⟩ | trivial
      case mu1 =>
        try dsimp only
        first | omega | (simp only [w64] at *; omega) | (simp [w64] at *; omega)
    · skip
      refine Aw.exit (Aw.seq (Aw.region ?_))
      refine AwOps.turn (Tn.freezeC 1 0 rfl rfl rfl (by first | rfl | (simp; done)) rfl rfl) ?_
      refine AwOps.v hT rfl ?_
      refine AwOps.eff hT rfl ?_
      refine AwOps.nil ?_
      refine Aw.ret ?_
      refine ⟨_, [], rfl, trivial, ?_⟩
      exact rfl
-- f103 slices.Clone[[]certpath/api.GeneralName,certpath/api.GeneralName]
theorem F103 (l : List (Gn)) (hl : l.length ≤ 1000000) : FnO Tryd.prog 75 [.one (.p (.sl (l.map eGn)))] (fun o => o = .row 60 3 (l.map eGn)) := by
  refine FnO.intro Tryd.func75 (by kernel_rfl) rfl rfl rfl rfl fun C => ?_
  refine Aw.seq (Aw.region ?_)
  refine AwOps.v hT rfl ?_
  refine AwOps.nil (Aw.seq (Aw.seq (Aw.region ?_)))
  refine AwOps.v hT rfl ?_
  refine AwOps.eqn hT rfl ?_
  intro bn4 hn4
  refine AwOps.nil ?_
  refine Aw.tst rfl (fun hb4 => ?_) (fun hb4 => ?_)
  · skip
    have hnil := nil_of_map (hn4 hb4)
    refine Aw.seq (Aw.region ?_)
    refine AwOps.v hT rfl ?_
    refine AwOps.nil ?_
    refine Aw.turn (Tn.own 2 902 60 3 rfl (by decide) (by decide) rfl) ?_
    refine Aw.ret ?_
    exact ⟨902, by decide, .inl ⟨_, _, _, _, rfl, rfl, rfl, by rw [hnil]; rfl⟩⟩
  · skip
    refine Aw.skip (Aw.seq (Aw.region ?_))
    refine AwOps.lit hT rfl ?_
    refine AwOps.v hT rfl ?_
    refine AwOps.appm (xs := []) hT rfl rfl rfl (by first | rfl | (simp; done)) (by first | rfl | (simp; done)) (fun _ => rfl) (by simp only [List.length_nil]; omega) ?_
    refine AwOps.v hT rfl ?_
    refine AwOps.nil ?_
    refine Aw.ret ?_
    exact ⟨7, by decide, .inl ⟨_, _, _, _, rfl, rfl, by simp, rfl⟩⟩
-- f94 certpath/copies.each[certpath/api.GeneralName]
theorem F94 (f : Nat) (l : List (Gn)) (hl : l.length ≤ 1000000) (hf : ∀ x ∈ l, Fn Tryd.prog f [.pv (.agg (eGn x))] [] (fun r _ => r = .agg (eGn x))) : Fn Tryd.prog 63 [.pv (.one (.p (.sl (l.map eGn)))), .pv (sc (.func (.func f) #[] #[]))] [] (fun r _ => r = .one (.p (.sl (l.map eGn)))) := by
  refine Fn.intro (rs := [.tmp 4]) hT Tryd.func63 (by kernel_rfl) rfl rfl rfl rfl fun C => ?_
  refine Aw.seq (Aw.region ?_)
  refine AwOps.v hT rfl ?_
  refine AwOps.nil (Aw.seq (Aw.region ?_))
  refine AwOps.v hT rfl ?_
  refine AwOps.ed (N := []) (Ed.callO (F103 _ (by omega)) rfl rfl rfl rfl ?_)
  rintro _ rfl
  refine AwOps.v hT rfl ?_
  refine AwOps.nil (Aw.seq (Aw.seq (Aw.region ?_)))
  iterate 3 refine AwOps.v hT rfl ?_
  refine AwOps.nil (Aw.block ?_)
  have hB1 : l.length ≤ maxLen := by unfold maxLen; omega
  refine Aw.lp (ι := Nat) (n := 24) [(0, _), (1, _), (9, _), (10, _)] [] (fun gq => [(11, sc (.int .i64 gq))]) (fun gq => [(8, .row 60 3 true (List.map eGn l))]) (fun gq => gq ≤ l.length ∧ (True)) (fun gq => l.length - gq) (0) ?ok1 (Less.tn ⟨rfl, ⟨rfl, rfl, rfl, rfl, rfl, trivial⟩, ⟨rfl, trivial⟩⟩) ?bd1
  case ok1 =>
    try dsimp only
    exact ⟨Nat.zero_le _, trivial⟩
  case bd1 =>
    intro i1 hi1
    try dsimp only at hi1
    show Aw _ _ _ ⟨24, [(11, sc (.int .i64 i1))] ++ [(0, _), (1, _), (9, _), (10, _)], [(8, .row 60 3 true (List.map eGn l))] ++ []⟩ _
    refine Aw.seq (Aw.region ?_)
    refine AwOps.v hT rfl ?_
    refine AwOps.nil (Aw.seq ?_)
    refine Aw.tst rfl (fun hb12 => ?_) (fun hb12 => ?_)
    · skip
      have hlt1 : i1 < l.length := by simpa using hb12
      refine Aw.skip (Aw.seq (Aw.block (Aw.seq (Aw.region ?_))))
      refine AwOps.v hT rfl ?_
      refine AwOps.idxo hT rfl rfl (by first | omega | (simp only [w64] at *; omega) | (simp [w64] at *; omega)) (by first | omega | (simp only [List.length_cons, List.length_nil, List.length_map]; omega) | (simp only [List.length_cons, List.length_nil, List.length_map, w64] at *; omega) | (simp [w64] at *; omega)) ?_
      refine AwOps.ldo hT rfl rfl (eGn l[i1]) (ldm hlt1) rfl ?_
      refine AwOps.eff hT rfl ?_
      refine AwOps.v hT rfl ?_
      refine AwOps.eff hT rfl ?_
      refine AwOps.nil (Aw.region ?_)
      iterate 4 refine AwOps.v hT rfl ?_
      refine AwOps.cl (hf _ (List.getElem_mem hlt1)) [] rfl ⟨⟨rfl, rfl⟩, trivial⟩ trivial rfl ?_   -- fv
      rintro _ _ rfl
      refine AwOps.idxo hT rfl rfl (by first | omega | (simp only [w64] at *; omega) | (simp [w64] at *; omega)) (by first | omega | (simp only [List.length_cons, List.length_nil, List.length_map]; omega) | (simp only [List.length_cons, List.length_nil, List.length_map, w64] at *; omega) | (simp [w64] at *; omega)) ?_
      refine AwOps.sto hT rfl rfl _ (ldm hlt1) (Nat.le_refl _) ?_
      refine AwOps.turn (Tn.sayH (b := 8) rfl (rowset (f := eGn))) ?_
      refine AwOps.nil (Aw.region ?_)
      refine AwOps.v hT rfl ?_
      refine AwOps.v hT rfl ?_
      refine AwOps.nil ?_
      refine ⟨(i1 + 1), ?nx1, ?mu1, Less.tn ⟨rfl, ⟨incS hlt1 hB1, rfl, rfl, rfl, rfl, trivial⟩, ⟨(rowself hlt1), trivial⟩⟩⟩
      case nx1 =>
        try dsimp only
        first | exact ⟨hlt1, trivial⟩ | trivial
      case mu1 =>
        try dsimp only
        first | omega | (simp only [w64] at *; omega) | (simp [w64] at *; omega)
    · skip
      refine Aw.exit (Aw.seq (Aw.region ?_))
      refine AwOps.v hT rfl ?_
      refine AwOps.v hT rfl ?_
      refine AwOps.nil ?_
      refine Aw.turn (Tn.fz 4 rfl rfl (by first | rfl | (simp; done)) rfl) ?_
      refine Aw.ret ?_
      refine ⟨_, [], rfl, trivial, ?_⟩
      exact rfl
-- f95 certpath/copies.GeneralName
theorem F95 (g : Gn) (h : okNm g.name) : Fn Tryd.prog 64 [.pv (.agg (eGn g))] [] (fun r _ => r = .agg (eGn g)) := by
  refine Fn.intro (rs := [.cell 2 60]) hT Tryd.func64 (by kernel_rfl) rfl rfl rfl rfl fun C => ?_
  refine Aw.seq (Aw.region ?_)
  refine AwOps.eff hT rfl ?_
  refine AwOps.eff hT rfl ?_
  refine AwOps.nil (Aw.seq (Aw.region ?_))
  refine AwOps.v hT rfl ?_
  refine AwOps.v hT rfl ?_
  refine AwOps.cl (F39 _ (by assumption)) [] rfl ⟨⟨rfl, rfl⟩, trivial⟩ trivial rfl ?_   -- copies.Name
  rintro _ _ rfl
  refine AwOps.v hT rfl ?_
  refine AwOps.eff hT rfl ?_
  refine AwOps.nil (Aw.seq (Aw.region ?_))
  refine AwOps.v hT rfl ?_
  refine AwOps.eff hT rfl ?_
  refine AwOps.nil ?_
  refine Aw.ret ?_
  refine ⟨_, [], rfl, trivial, ?_⟩
  exact rfl
-- f87 certpath/copies.GeneralNames
theorem F87 (l : List Gn) (hl : l.length ≤ 1000000) (hk : ∀ x ∈ l, okNm x.name) : Fn Tryd.prog 52 [.pv (.one (.p (.sl (l.map eGn))))] [] (fun r _ => r = .one (.p (.sl (l.map eGn)))) := by
  refine Fn.intro (rs := [.tmp 2]) hT Tryd.func52 (by kernel_rfl) rfl rfl rfl rfl fun C => ?_
  refine Aw.seq (Aw.region ?_)
  refine AwOps.v hT rfl ?_
  refine AwOps.nil (Aw.seq (Aw.region ?_))
  refine AwOps.v hT rfl ?_
  refine AwOps.cl (F94 64 l (by omega) (fun x hx => F95 x (hk x hx))) [] rfl ⟨⟨rfl, rfl⟩, ⟨rfl, rfl⟩, trivial⟩ trivial rfl ?_   -- api.GeneralName]
  rintro _ _ rfl
  refine AwOps.v hT rfl ?_
  refine AwOps.nil ?_
  refine Aw.ret ?_
  refine ⟨_, [], rfl, trivial, ?_⟩
  exact rfl
end Go.Proofs.YtbdgmondalkhlaaDoor.Aw
