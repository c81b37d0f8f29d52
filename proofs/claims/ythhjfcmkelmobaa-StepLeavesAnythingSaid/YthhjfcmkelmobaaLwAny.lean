/- The walks of the Short functions.
   Conditions: none. -/
import Derived.Test.YthhjfcmkelmobaaWkLaw
namespace Go.Proofs.Ythhjfcmkelmobaa.Aw
open Go
set_option maxRecDepth 100000
set_option maxHeartbeats 4000000
set_option linter.unusedSimpArgs false
set_option linter.unusedVariables false

theorem take_step {α : Type} {p : α → Prop} {l : List α} {i : Nat} (hi : i < l.length) (h : ∀ x ∈ l.take i, p x) (hp : p l[i]) : ∀ x ∈ l.take (i + 1), p x := fun x hx => by
  rw [List.take_succ_eq_append_getElem hi] at hx
  rcases List.mem_append.1 hx with hx | hx
  · exact h x hx
  · rw [List.mem_singleton.1 hx]; exact hp
theorem take_nil {α : Type} {p : α → Prop} {l : List α} : ∀ x ∈ l.take 0, p x := fun x hx => by simp at hx
theorem take_full {α : Type} {p : α → Prop} {l : List α} {i : Nat} (h : ∀ x ∈ l.take i, p x) (hi : decide ((i : Int) < (l.length : Nat)) = false) : ∀ x ∈ l, p x := by
  have : l.length ≤ i := by have := of_decide_eq_false hi; omega
  rwa [List.take_of_length_le this] at h
-- f27 certpath/certpathmade.ShortName
theorem F27 (n : Name) : Fn Try.prog 27 [.pv (.agg (eName n))] [] (fun r _ => ∃ b, r = sc (.bool b) ∧ (b = true → okNm n)) := by
  refine Fn.intro (rs := [.tmp 2]) hT Try.func27 (by kernel_rfl) rfl rfl rfl rfl fun C => ?_
  repeat (first | refine AwOps.nil ?_ | refine AwSch.nil ?_ | refine Aw.seq ?_ | refine Aw.region ?_ | refine Aw.block ?_ | refine Aw.skip ?_ | refine Aw.exit ?_ | refine Aw.condT rfl ?_ | refine Aw.condF rfl ?_)
  refine AwOps.eff hT rfl ?_
  refine AwOps.v hT rfl ?_
  repeat (first | refine AwOps.nil ?_ | refine AwSch.nil ?_ | refine Aw.seq ?_ | refine Aw.region ?_ | refine Aw.block ?_ | refine Aw.skip ?_ | refine Aw.exit ?_ | refine Aw.condT rfl ?_ | refine Aw.condF rfl ?_)
  iterate 4 refine AwOps.v hT rfl ?_
  repeat (first | refine AwOps.nil ?_ | refine AwSch.nil ?_ | refine Aw.seq ?_ | refine Aw.region ?_ | refine Aw.block ?_ | refine Aw.skip ?_ | refine Aw.exit ?_ | refine Aw.condT rfl ?_ | refine Aw.condF rfl ?_)
  refine Aw.tst rfl (fun hb10 => ?_) (fun hb10 => ?_)
  · skip
    repeat (first | refine AwOps.nil ?_ | refine AwSch.nil ?_ | refine Aw.seq ?_ | refine Aw.region ?_ | refine Aw.block ?_ | refine Aw.skip ?_ | refine Aw.exit ?_ | refine Aw.condT rfl ?_ | refine Aw.condF rfl ?_)
    refine AwOps.v hT rfl ?_
    repeat (first | refine AwOps.nil ?_ | refine AwSch.nil ?_ | refine Aw.seq ?_ | refine Aw.region ?_ | refine Aw.block ?_ | refine Aw.skip ?_ | refine Aw.exit ?_ | refine Aw.condT rfl ?_ | refine Aw.condF rfl ?_)
    refine Aw.ret ?_
    refine ⟨_, [], rfl, trivial, ?_⟩
    first
      | exact ⟨false, rfl, fun h => nomatch h⟩
      | exact ⟨_, rfl, fun _ => ⟨fun r hr => ((take_full hi1.2 (by simpa using hb15)) r hr).2, (by have := of_decide_eq_false hb10; simp at this; omega), fun r hr => Nat.le_trans ((take_full hi1.2 (by simpa using hb15)) r hr).1 (by omega)⟩⟩
  · skip
    repeat (first | refine AwOps.nil ?_ | refine AwSch.nil ?_ | refine Aw.seq ?_ | refine Aw.region ?_ | refine Aw.block ?_ | refine Aw.skip ?_ | refine Aw.exit ?_ | refine Aw.condT rfl ?_ | refine Aw.condF rfl ?_)
    iterate 4 refine AwOps.v hT rfl ?_
    repeat (first | refine AwOps.nil ?_ | refine AwSch.nil ?_ | refine Aw.seq ?_ | refine Aw.region ?_ | refine Aw.block ?_ | refine Aw.skip ?_ | refine Aw.exit ?_ | refine Aw.condT rfl ?_ | refine Aw.condF rfl ?_)
    refine Aw.bnd 12 rfl fun hB1 => ?_
    replace hB1 : n.length ≤ maxLen := by simpa using hB1
    repeat (first | refine AwOps.nil ?_ | refine AwSch.nil ?_ | refine Aw.seq ?_ | refine Aw.region ?_ | refine Aw.block ?_ | refine Aw.skip ?_ | refine Aw.exit ?_ | refine Aw.condT rfl ?_ | refine Aw.condF rfl ?_)
    refine Aw.lp (ι := Nat) (n := 39) [(12, _), (13, _)] [] (fun gq => [(14, sc (.int .i64 gq))]) (fun gq => []) (fun gq => gq ≤ n.length ∧ (∀ r ∈ n.take gq, r.length ≤ 8 ∧ okR r)) (fun gq => n.length - gq) (0) ?ok1 (Less.tn ⟨rfl, ⟨rfl, rfl, rfl, trivial⟩, trivial⟩) ?bd1
    case ok1 =>
      try dsimp only
      exact ⟨Nat.zero_le _, take_nil⟩
    case bd1 =>
      intro i1 hi1
      try dsimp only at hi1
      show Aw _ _ _ ⟨39, [(14, sc (.int .i64 i1))] ++ [(12, _), (13, _)], [] ++ []⟩ _
      repeat (first | refine AwOps.nil ?_ | refine AwSch.nil ?_ | refine Aw.seq ?_ | refine Aw.region ?_ | refine Aw.block ?_ | refine Aw.skip ?_ | refine Aw.exit ?_ | refine Aw.condT rfl ?_ | refine Aw.condF rfl ?_)
      refine AwOps.v hT rfl ?_
      repeat (first | refine AwOps.nil ?_ | refine AwSch.nil ?_ | refine Aw.seq ?_ | refine Aw.region ?_ | refine Aw.block ?_ | refine Aw.skip ?_ | refine Aw.exit ?_ | refine Aw.condT rfl ?_ | refine Aw.condF rfl ?_)
      refine Aw.tst rfl (fun hb15 => ?_) (fun hb15 => ?_)
      · skip
        have hlt1 : i1 < n.length := by simpa using hb15
        repeat (first | refine AwOps.nil ?_ | refine AwSch.nil ?_ | refine Aw.seq ?_ | refine Aw.region ?_ | refine Aw.block ?_ | refine Aw.skip ?_ | refine Aw.exit ?_ | refine Aw.condT rfl ?_ | refine Aw.condF rfl ?_)
        refine AwOps.im hT rfl hlt1 rfl ?_
        refine AwOps.v hT rfl ?_
        refine AwOps.v hT rfl ?_
        repeat (first | refine AwOps.nil ?_ | refine AwSch.nil ?_ | refine Aw.seq ?_ | refine Aw.region ?_ | refine Aw.block ?_ | refine Aw.skip ?_ | refine Aw.exit ?_ | refine Aw.condT rfl ?_ | refine Aw.condF rfl ?_)
        iterate 3 refine AwOps.v hT rfl ?_
        repeat (first | refine AwOps.nil ?_ | refine AwSch.nil ?_ | refine Aw.seq ?_ | refine Aw.region ?_ | refine Aw.block ?_ | refine Aw.skip ?_ | refine Aw.exit ?_ | refine Aw.condT rfl ?_ | refine Aw.condF rfl ?_)
        refine Aw.tst rfl (fun hb20 => ?_) (fun hb20 => ?_)
        · skip
          repeat (first | refine AwOps.nil ?_ | refine AwSch.nil ?_ | refine Aw.seq ?_ | refine Aw.region ?_ | refine Aw.block ?_ | refine Aw.skip ?_ | refine Aw.exit ?_ | refine Aw.condT rfl ?_ | refine Aw.condF rfl ?_)
          refine AwOps.v hT rfl ?_
          repeat (first | refine AwOps.nil ?_ | refine AwSch.nil ?_ | refine Aw.seq ?_ | refine Aw.region ?_ | refine Aw.block ?_ | refine Aw.skip ?_ | refine Aw.exit ?_ | refine Aw.condT rfl ?_ | refine Aw.condF rfl ?_)
          refine Aw.ret ?_
          refine ⟨_, [], rfl, trivial, ?_⟩
          first
            | exact ⟨false, rfl, fun h => nomatch h⟩
            | exact ⟨_, rfl, fun _ => ⟨fun r hr => ((take_full hi1.2 (by simpa using hb15)) r hr).2, (by have := of_decide_eq_false hb10; simp at this; omega), fun r hr => Nat.le_trans ((take_full hi1.2 (by simpa using hb15)) r hr).1 (by omega)⟩⟩
        · skip
          repeat (first | refine AwOps.nil ?_ | refine AwSch.nil ?_ | refine Aw.seq ?_ | refine Aw.region ?_ | refine Aw.block ?_ | refine Aw.skip ?_ | refine Aw.exit ?_ | refine Aw.condT rfl ?_ | refine Aw.condF rfl ?_)
          iterate 3 refine AwOps.v hT rfl ?_
          repeat (first | refine AwOps.nil ?_ | refine AwSch.nil ?_ | refine Aw.seq ?_ | refine Aw.region ?_ | refine Aw.block ?_ | refine Aw.skip ?_ | refine Aw.exit ?_ | refine Aw.condT rfl ?_ | refine Aw.condF rfl ?_)
          refine Aw.bnd 21 rfl fun hB2 => ?_
          replace hB2 : n[i1].length ≤ maxLen := by simpa using hB2
          repeat (first | refine AwOps.nil ?_ | refine AwSch.nil ?_ | refine Aw.seq ?_ | refine Aw.region ?_ | refine Aw.block ?_ | refine Aw.skip ?_ | refine Aw.exit ?_ | refine Aw.condT rfl ?_ | refine Aw.condF rfl ?_)
          refine Aw.lp (ι := Nat) (n := 39) [(12, _), (13, _), (14, _), (21, _), (22, _)] [] (fun gq => [(23, sc (.int .i64 gq))]) (fun gq => []) (fun gq => gq ≤ n[i1].length ∧ (∀ a ∈ n[i1].take gq, okS a.v)) (fun gq => n[i1].length - gq) (0) ?ok2 (Less.tn ⟨rfl, ⟨rfl, rfl, rfl, rfl, rfl, rfl, trivial⟩, trivial⟩) ?bd2
          case ok2 =>
            try dsimp only
            exact ⟨Nat.zero_le _, take_nil⟩
          case bd2 =>
            intro i2 hi2
            try dsimp only at hi2
            show Aw _ _ _ ⟨39, [(23, sc (.int .i64 i2))] ++ [(12, _), (13, _), (14, _), (21, _), (22, _)], [] ++ []⟩ _
            repeat (first | refine AwOps.nil ?_ | refine AwSch.nil ?_ | refine Aw.seq ?_ | refine Aw.region ?_ | refine Aw.block ?_ | refine Aw.skip ?_ | refine Aw.exit ?_ | refine Aw.condT rfl ?_ | refine Aw.condF rfl ?_)
            refine AwOps.v hT rfl ?_
            repeat (first | refine AwOps.nil ?_ | refine AwSch.nil ?_ | refine Aw.seq ?_ | refine Aw.region ?_ | refine Aw.block ?_ | refine Aw.skip ?_ | refine Aw.exit ?_ | refine Aw.condT rfl ?_ | refine Aw.condF rfl ?_)
            refine Aw.tst rfl (fun hb24 => ?_) (fun hb24 => ?_)
            · skip
              have hlt2 : i2 < n[i1].length := by simpa using hb24
              repeat (first | refine AwOps.nil ?_ | refine AwSch.nil ?_ | refine Aw.seq ?_ | refine Aw.region ?_ | refine Aw.block ?_ | refine Aw.skip ?_ | refine Aw.exit ?_ | refine Aw.condT rfl ?_ | refine Aw.condF rfl ?_)
              refine AwOps.im hT rfl hlt2 rfl ?_
              refine AwOps.v hT rfl ?_
              refine AwOps.eff hT rfl ?_
              refine AwOps.eff hT rfl ?_
              repeat (first | refine AwOps.nil ?_ | refine AwSch.nil ?_ | refine Aw.seq ?_ | refine Aw.region ?_ | refine Aw.block ?_ | refine Aw.skip ?_ | refine Aw.exit ?_ | refine Aw.condT rfl ?_ | refine Aw.condF rfl ?_)
              iterate 5 refine AwOps.v hT rfl ?_
              refine AwOps.split (t := 31) rfl (fun hb31 => ?_) (fun hb31 => ?_)
              · skip
                iterate 5 refine AwOps.v hT rfl ?_
                repeat (first | refine AwOps.nil ?_ | refine AwSch.nil ?_ | refine Aw.seq ?_ | refine Aw.region ?_ | refine Aw.block ?_ | refine Aw.skip ?_ | refine Aw.exit ?_ | refine Aw.condT rfl ?_ | refine Aw.condF rfl ?_)
                refine AwOps.v hT rfl ?_
                repeat (first | refine AwOps.nil ?_ | refine AwSch.nil ?_ | refine Aw.seq ?_ | refine Aw.region ?_ | refine Aw.block ?_ | refine Aw.skip ?_ | refine Aw.exit ?_ | refine Aw.condT rfl ?_ | refine Aw.condF rfl ?_)
                refine Aw.ret ?_
                refine ⟨_, [], rfl, trivial, ?_⟩
                first
                  | exact ⟨false, rfl, fun h => nomatch h⟩
                  | exact ⟨_, rfl, fun _ => ⟨fun r hr => ((take_full hi1.2 (by simpa using hb15)) r hr).2, (by have := of_decide_eq_false hb10; simp at this; omega), fun r hr => Nat.le_trans ((take_full hi1.2 (by simpa using hb15)) r hr).1 (by omega)⟩⟩
              · skip
                iterate 5 refine AwOps.v hT rfl ?_
                repeat (first | refine AwOps.nil ?_ | refine AwSch.nil ?_ | refine Aw.seq ?_ | refine Aw.region ?_ | refine Aw.block ?_ | refine Aw.skip ?_ | refine Aw.exit ?_ | refine Aw.condT rfl ?_ | refine Aw.condF rfl ?_)
                refine Aw.tst rfl (fun hb36 => ?_) (fun hb36 => ?_)
                · skip
                  repeat (first | refine AwOps.nil ?_ | refine AwSch.nil ?_ | refine Aw.seq ?_ | refine Aw.region ?_ | refine Aw.block ?_ | refine Aw.skip ?_ | refine Aw.exit ?_ | refine Aw.condT rfl ?_ | refine Aw.condF rfl ?_)
                  refine AwOps.v hT rfl ?_
                  repeat (first | refine AwOps.nil ?_ | refine AwSch.nil ?_ | refine Aw.seq ?_ | refine Aw.region ?_ | refine Aw.block ?_ | refine Aw.skip ?_ | refine Aw.exit ?_ | refine Aw.condT rfl ?_ | refine Aw.condF rfl ?_)
                  refine Aw.ret ?_
                  refine ⟨_, [], rfl, trivial, ?_⟩
                  first
                    | exact ⟨false, rfl, fun h => nomatch h⟩
                    | exact ⟨_, rfl, fun _ => ⟨fun r hr => ((take_full hi1.2 (by simpa using hb15)) r hr).2, (by have := of_decide_eq_false hb10; simp at this; omega), fun r hr => Nat.le_trans ((take_full hi1.2 (by simpa using hb15)) r hr).1 (by omega)⟩⟩
                · skip
                  repeat (first | refine AwOps.nil ?_ | refine AwSch.nil ?_ | refine Aw.seq ?_ | refine Aw.region ?_ | refine Aw.block ?_ | refine Aw.skip ?_ | refine Aw.exit ?_ | refine Aw.condT rfl ?_ | refine Aw.condF rfl ?_)
                  refine AwOps.v hT rfl ?_
                  refine AwOps.v hT rfl ?_
                  repeat (first | refine AwOps.nil ?_ | refine AwSch.nil ?_ | refine Aw.seq ?_ | refine Aw.region ?_ | refine Aw.block ?_ | refine Aw.skip ?_ | refine Aw.exit ?_ | refine Aw.condT rfl ?_ | refine Aw.condF rfl ?_)
                  refine ⟨(i2 + 1), ?nx2, ?mu2, Less.tn ⟨rfl, ⟨incS hlt2 hB2, rfl, rfl, rfl, rfl, rfl, trivial⟩, trivial⟩⟩
                  case nx2 =>
                    try dsimp only
                    exact ⟨hlt2, take_step hlt2 hi2.2 (by have h36 := hb36; unfold okS; simp at h36; omega)⟩
                  case mu2 =>
                    try dsimp only
                    first | omega | (simp only [w64] at *; omega) | (simp [w64] at *; omega)
            · skip
              repeat (first | refine AwOps.nil ?_ | refine AwSch.nil ?_ | refine Aw.seq ?_ | refine Aw.region ?_ | refine Aw.block ?_ | refine Aw.skip ?_ | refine Aw.exit ?_ | refine Aw.condT rfl ?_ | refine Aw.condF rfl ?_)
              refine AwOps.v hT rfl ?_
              refine AwOps.v hT rfl ?_
              repeat (first | refine AwOps.nil ?_ | refine AwSch.nil ?_ | refine Aw.seq ?_ | refine Aw.region ?_ | refine Aw.block ?_ | refine Aw.skip ?_ | refine Aw.exit ?_ | refine Aw.condT rfl ?_ | refine Aw.condF rfl ?_)
              refine ⟨(i1 + 1), ?nx1, ?mu1, Less.tn ⟨rfl, ⟨incS hlt1 hB1, rfl, rfl, trivial⟩, trivial⟩⟩
              case nx1 =>
                try dsimp only
                exact ⟨hlt1, take_step hlt1 hi1.2 ⟨(by have := of_decide_eq_false hb20; simp at this; omega), (take_full hi2.2 (by simpa using hb24))⟩⟩
              case mu1 =>
                try dsimp only
                first | omega | (simp only [w64] at *; omega) | (simp [w64] at *; omega)
      · skip
        repeat (first | refine AwOps.nil ?_ | refine AwSch.nil ?_ | refine Aw.seq ?_ | refine Aw.region ?_ | refine Aw.block ?_ | refine Aw.skip ?_ | refine Aw.exit ?_ | refine Aw.condT rfl ?_ | refine Aw.condF rfl ?_)
        refine AwOps.v hT rfl ?_
        repeat (first | refine AwOps.nil ?_ | refine AwSch.nil ?_ | refine Aw.seq ?_ | refine Aw.region ?_ | refine Aw.block ?_ | refine Aw.skip ?_ | refine Aw.exit ?_ | refine Aw.condT rfl ?_ | refine Aw.condF rfl ?_)
        refine Aw.ret ?_
        refine ⟨_, [], rfl, trivial, ?_⟩
        first
          | exact ⟨false, rfl, fun h => nomatch h⟩
          | exact ⟨_, rfl, fun _ => ⟨fun r hr => ((take_full hi1.2 (by simpa using hb15)) r hr).2, (by have := of_decide_eq_false hb10; simp at this; omega), fun r hr => Nat.le_trans ((take_full hi1.2 (by simpa using hb15)) r hr).1 (by omega)⟩⟩
-- f29 certpath/certpathmade.ShortNames
theorem F29 (l : List Gn) : Fn Try.prog 29 [.pv (.one (.p (.sl (l.map eGn))))] [] (fun r _ => ∃ b, r = sc (.bool b) ∧ (b = true → okGs l)) := by
  refine Fn.intro (rs := [.tmp 2]) hT Try.func29 (by kernel_rfl) rfl rfl rfl rfl fun C => ?_
  repeat (first | refine AwOps.nil ?_ | refine AwSch.nil ?_ | refine Aw.seq ?_ | refine Aw.region ?_ | refine Aw.block ?_ | refine Aw.skip ?_ | refine Aw.exit ?_ | refine Aw.condT rfl ?_ | refine Aw.condF rfl ?_)
  refine AwOps.v hT rfl ?_
  repeat (first | refine AwOps.nil ?_ | refine AwSch.nil ?_ | refine Aw.seq ?_ | refine Aw.region ?_ | refine Aw.block ?_ | refine Aw.skip ?_ | refine Aw.exit ?_ | refine Aw.condT rfl ?_ | refine Aw.condF rfl ?_)
  iterate 3 refine AwOps.v hT rfl ?_
  repeat (first | refine AwOps.nil ?_ | refine AwSch.nil ?_ | refine Aw.seq ?_ | refine Aw.region ?_ | refine Aw.block ?_ | refine Aw.skip ?_ | refine Aw.exit ?_ | refine Aw.condT rfl ?_ | refine Aw.condF rfl ?_)
  refine Aw.tst rfl (fun hb7 => ?_) (fun hb7 => ?_)
  · skip
    repeat (first | refine AwOps.nil ?_ | refine AwSch.nil ?_ | refine Aw.seq ?_ | refine Aw.region ?_ | refine Aw.block ?_ | refine Aw.skip ?_ | refine Aw.exit ?_ | refine Aw.condT rfl ?_ | refine Aw.condF rfl ?_)
    refine AwOps.v hT rfl ?_
    repeat (first | refine AwOps.nil ?_ | refine AwSch.nil ?_ | refine Aw.seq ?_ | refine Aw.region ?_ | refine Aw.block ?_ | refine Aw.skip ?_ | refine Aw.exit ?_ | refine Aw.condT rfl ?_ | refine Aw.condF rfl ?_)
    refine Aw.ret ?_
    refine ⟨_, [], rfl, trivial, ?_⟩
    first
      | exact ⟨false, rfl, fun h => nomatch h⟩
      | exact ⟨_, rfl, fun _ => ⟨(by have := of_decide_eq_false hb7; simp at this; omega), (take_full hi1.2 (by simpa using hb11))⟩⟩
  · skip
    repeat (first | refine AwOps.nil ?_ | refine AwSch.nil ?_ | refine Aw.seq ?_ | refine Aw.region ?_ | refine Aw.block ?_ | refine Aw.skip ?_ | refine Aw.exit ?_ | refine Aw.condT rfl ?_ | refine Aw.condF rfl ?_)
    iterate 3 refine AwOps.v hT rfl ?_
    repeat (first | refine AwOps.nil ?_ | refine AwSch.nil ?_ | refine Aw.seq ?_ | refine Aw.region ?_ | refine Aw.block ?_ | refine Aw.skip ?_ | refine Aw.exit ?_ | refine Aw.condT rfl ?_ | refine Aw.condF rfl ?_)
    refine Aw.bnd 8 rfl fun hB1 => ?_
    replace hB1 : l.length ≤ maxLen := by simpa using hB1
    repeat (first | refine AwOps.nil ?_ | refine AwSch.nil ?_ | refine Aw.seq ?_ | refine Aw.region ?_ | refine Aw.block ?_ | refine Aw.skip ?_ | refine Aw.exit ?_ | refine Aw.condT rfl ?_ | refine Aw.condF rfl ?_)
    refine Aw.lp (ι := Nat) (n := 25) [(8, _), (9, _)] [] (fun gq => [(10, sc (.int .i64 gq))]) (fun gq => []) (fun gq => gq ≤ l.length ∧ (∀ g ∈ l.take gq, okG g)) (fun gq => l.length - gq) (0) ?ok1 (Less.tn ⟨rfl, ⟨rfl, rfl, rfl, trivial⟩, trivial⟩) ?bd1
    case ok1 =>
      try dsimp only
      exact ⟨Nat.zero_le _, take_nil⟩
    case bd1 =>
      intro i1 hi1
      try dsimp only at hi1
      show Aw _ _ _ ⟨25, [(10, sc (.int .i64 i1))] ++ [(8, _), (9, _)], [] ++ []⟩ _
      repeat (first | refine AwOps.nil ?_ | refine AwSch.nil ?_ | refine Aw.seq ?_ | refine Aw.region ?_ | refine Aw.block ?_ | refine Aw.skip ?_ | refine Aw.exit ?_ | refine Aw.condT rfl ?_ | refine Aw.condF rfl ?_)
      refine AwOps.v hT rfl ?_
      repeat (first | refine AwOps.nil ?_ | refine AwSch.nil ?_ | refine Aw.seq ?_ | refine Aw.region ?_ | refine Aw.block ?_ | refine Aw.skip ?_ | refine Aw.exit ?_ | refine Aw.condT rfl ?_ | refine Aw.condF rfl ?_)
      refine Aw.tst rfl (fun hb11 => ?_) (fun hb11 => ?_)
      · skip
        have hlt1 : i1 < l.length := by simpa using hb11
        repeat (first | refine AwOps.nil ?_ | refine AwSch.nil ?_ | refine Aw.seq ?_ | refine Aw.region ?_ | refine Aw.block ?_ | refine Aw.skip ?_ | refine Aw.exit ?_ | refine Aw.condT rfl ?_ | refine Aw.condF rfl ?_)
        refine AwOps.im hT rfl hlt1 rfl ?_
        refine AwOps.v hT rfl ?_
        refine AwOps.eff hT rfl ?_
        refine AwOps.eff hT rfl ?_
        repeat (first | refine AwOps.nil ?_ | refine AwSch.nil ?_ | refine Aw.seq ?_ | refine Aw.region ?_ | refine Aw.block ?_ | refine Aw.skip ?_ | refine Aw.exit ?_ | refine Aw.condT rfl ?_ | refine Aw.condF rfl ?_)
        iterate 5 refine AwOps.v hT rfl ?_
        refine AwOps.split (t := 18) rfl (fun hb18 => ?_) (fun hb18 => ?_)
        · skip
          iterate 5 refine AwOps.v hT rfl ?_
          repeat (first | refine AwOps.nil ?_ | refine AwSch.nil ?_ | refine Aw.seq ?_ | refine Aw.region ?_ | refine Aw.block ?_ | refine Aw.skip ?_ | refine Aw.exit ?_ | refine Aw.condT rfl ?_ | refine Aw.condF rfl ?_)
          refine AwOps.v hT rfl ?_
          repeat (first | refine AwOps.nil ?_ | refine AwSch.nil ?_ | refine Aw.seq ?_ | refine Aw.region ?_ | refine Aw.block ?_ | refine Aw.skip ?_ | refine Aw.exit ?_ | refine Aw.condT rfl ?_ | refine Aw.condF rfl ?_)
          refine Aw.ret ?_
          refine ⟨_, [], rfl, trivial, ?_⟩
          first
            | exact ⟨false, rfl, fun h => nomatch h⟩
            | exact ⟨_, rfl, fun _ => ⟨(by have := of_decide_eq_false hb7; simp at this; omega), (take_full hi1.2 (by simpa using hb11))⟩⟩
        · skip
          refine AwOps.v hT rfl ?_
          refine AwOps.v hT rfl ?_
          refine AwOps.cl (F27 _) [] rfl ⟨⟨rfl, rfl⟩, trivial⟩ trivial rfl ?_   -- certpathmade.ShortName
          rintro _ _ ⟨b1, rfl, hs1⟩
          refine AwOps.v hT rfl ?_
          refine AwOps.v hT rfl ?_
          repeat (first | refine AwOps.nil ?_ | refine AwSch.nil ?_ | refine Aw.seq ?_ | refine Aw.region ?_ | refine Aw.block ?_ | refine Aw.skip ?_ | refine Aw.exit ?_ | refine Aw.condT rfl ?_ | refine Aw.condF rfl ?_)
          refine Aw.tst rfl (fun hb23 => ?_) (fun hb23 => ?_)
          · skip
            repeat (first | refine AwOps.nil ?_ | refine AwSch.nil ?_ | refine Aw.seq ?_ | refine Aw.region ?_ | refine Aw.block ?_ | refine Aw.skip ?_ | refine Aw.exit ?_ | refine Aw.condT rfl ?_ | refine Aw.condF rfl ?_)
            refine AwOps.v hT rfl ?_
            repeat (first | refine AwOps.nil ?_ | refine AwSch.nil ?_ | refine Aw.seq ?_ | refine Aw.region ?_ | refine Aw.block ?_ | refine Aw.skip ?_ | refine Aw.exit ?_ | refine Aw.condT rfl ?_ | refine Aw.condF rfl ?_)
            refine Aw.ret ?_
            refine ⟨_, [], rfl, trivial, ?_⟩
            first
              | exact ⟨false, rfl, fun h => nomatch h⟩
              | exact ⟨_, rfl, fun _ => ⟨(by have := of_decide_eq_false hb7; simp at this; omega), (take_full hi1.2 (by simpa using hb11))⟩⟩
          · skip
            repeat (first | refine AwOps.nil ?_ | refine AwSch.nil ?_ | refine Aw.seq ?_ | refine Aw.region ?_ | refine Aw.block ?_ | refine Aw.skip ?_ | refine Aw.exit ?_ | refine Aw.condT rfl ?_ | refine Aw.condF rfl ?_)
            refine AwOps.v hT rfl ?_
            refine AwOps.v hT rfl ?_
            repeat (first | refine AwOps.nil ?_ | refine AwSch.nil ?_ | refine Aw.seq ?_ | refine Aw.region ?_ | refine Aw.block ?_ | refine Aw.skip ?_ | refine Aw.exit ?_ | refine Aw.condT rfl ?_ | refine Aw.condF rfl ?_)
            refine ⟨(i1 + 1), ?nx1, ?mu1, Less.tn ⟨rfl, ⟨incS hlt1 hB1, rfl, rfl, trivial⟩, trivial⟩⟩
            case nx1 =>
              try dsimp only
              exact ⟨hlt1, take_step hlt1 hi1.2 ⟨(by have h := hb18; unfold okS; simp at h; omega), (by apply_assumption; simpa using hb23)⟩⟩
            case mu1 =>
              try dsimp only
              first | omega | (simp only [w64] at *; omega) | (simp [w64] at *; omega)
      · skip
        repeat (first | refine AwOps.nil ?_ | refine AwSch.nil ?_ | refine Aw.seq ?_ | refine Aw.region ?_ | refine Aw.block ?_ | refine Aw.skip ?_ | refine Aw.exit ?_ | refine Aw.condT rfl ?_ | refine Aw.condF rfl ?_)
        refine AwOps.v hT rfl ?_
        repeat (first | refine AwOps.nil ?_ | refine AwSch.nil ?_ | refine Aw.seq ?_ | refine Aw.region ?_ | refine Aw.block ?_ | refine Aw.skip ?_ | refine Aw.exit ?_ | refine Aw.condT rfl ?_ | refine Aw.condF rfl ?_)
        refine Aw.ret ?_
        refine ⟨_, [], rfl, trivial, ?_⟩
        first
          | exact ⟨false, rfl, fun h => nomatch h⟩
          | exact ⟨_, rfl, fun _ => ⟨(by have := of_decide_eq_false hb7; simp at this; omega), (take_full hi1.2 (by simpa using hb11))⟩⟩
-- f56 certpath/certpathmade.Few
theorem F56 (l : List ByteArray) (n m : Int) (hn : n ≤ 1000) : Fn Try.prog 56 [.pv (.one (.p (.sl (l.map eStr)))), .pv (sc (.int .i64 n)), .pv (sc (.int .i64 m))] [] (fun r _ => ∃ b, r = sc (.bool b) ∧ (b = true → l.length ≤ 1000)) := by
  refine Fn.intro (rs := [.tmp 6]) hT Try.func56 (by kernel_rfl) rfl rfl rfl rfl fun C => ?_
  repeat (first | refine AwOps.nil ?_ | refine AwSch.nil ?_ | refine Aw.seq ?_ | refine Aw.region ?_ | refine Aw.block ?_ | refine Aw.skip ?_ | refine Aw.exit ?_ | refine Aw.condT rfl ?_ | refine Aw.condF rfl ?_)
  refine AwOps.v hT rfl ?_
  repeat (first | refine AwOps.nil ?_ | refine AwSch.nil ?_ | refine Aw.seq ?_ | refine Aw.region ?_ | refine Aw.block ?_ | refine Aw.skip ?_ | refine Aw.exit ?_ | refine Aw.condT rfl ?_ | refine Aw.condF rfl ?_)
  iterate 4 refine AwOps.v hT rfl ?_
  repeat (first | refine AwOps.nil ?_ | refine AwSch.nil ?_ | refine Aw.seq ?_ | refine Aw.region ?_ | refine Aw.block ?_ | refine Aw.skip ?_ | refine Aw.exit ?_ | refine Aw.condT rfl ?_ | refine Aw.condF rfl ?_)
  refine Aw.tst rfl (fun hb12 => ?_) (fun hb12 => ?_)
  · skip
    repeat (first | refine AwOps.nil ?_ | refine AwSch.nil ?_ | refine Aw.seq ?_ | refine Aw.region ?_ | refine Aw.block ?_ | refine Aw.skip ?_ | refine Aw.exit ?_ | refine Aw.condT rfl ?_ | refine Aw.condF rfl ?_)
    refine AwOps.v hT rfl ?_
    repeat (first | refine AwOps.nil ?_ | refine AwSch.nil ?_ | refine Aw.seq ?_ | refine Aw.region ?_ | refine Aw.block ?_ | refine Aw.skip ?_ | refine Aw.exit ?_ | refine Aw.condT rfl ?_ | refine Aw.condF rfl ?_)
    refine Aw.ret ?_
    refine ⟨_, [], rfl, trivial, ?_⟩
    first
      | exact ⟨false, rfl, fun h => nomatch h⟩
      | exact ⟨_, rfl, fun _ => (by have := of_decide_eq_false hb12; simp at this; omega)⟩
  · skip
    repeat (first | refine AwOps.nil ?_ | refine AwSch.nil ?_ | refine Aw.seq ?_ | refine Aw.region ?_ | refine Aw.block ?_ | refine Aw.skip ?_ | refine Aw.exit ?_ | refine Aw.condT rfl ?_ | refine Aw.condF rfl ?_)
    iterate 3 refine AwOps.v hT rfl ?_
    repeat (first | refine AwOps.nil ?_ | refine AwSch.nil ?_ | refine Aw.seq ?_ | refine Aw.region ?_ | refine Aw.block ?_ | refine Aw.skip ?_ | refine Aw.exit ?_ | refine Aw.condT rfl ?_ | refine Aw.condF rfl ?_)
    refine Aw.bnd 13 rfl fun hB1 => ?_
    replace hB1 : l.length ≤ maxLen := by simpa using hB1
    repeat (first | refine AwOps.nil ?_ | refine AwSch.nil ?_ | refine Aw.seq ?_ | refine Aw.region ?_ | refine Aw.block ?_ | refine Aw.skip ?_ | refine Aw.exit ?_ | refine Aw.condT rfl ?_ | refine Aw.condF rfl ?_)
    refine Aw.lp (ι := Nat) (n := 24) [(2, _), (13, _), (14, _)] [] (fun gq => [(15, sc (.int .i64 gq))]) (fun gq => []) (fun gq => gq ≤ l.length ∧ (True)) (fun gq => l.length - gq) (0) ?ok1 (Less.tn ⟨rfl, ⟨rfl, rfl, rfl, rfl, trivial⟩, trivial⟩) ?bd1
    case ok1 =>
      try dsimp only
      first | trivial | exact ⟨Nat.zero_le _, trivial⟩ | (simp; done) | (refine ⟨by simp, ?_⟩; (first | trivial | (simp; done))) | (simp; first | omega | (simp only [w64] at *; omega) | (simp [w64] at *; omega))
    case bd1 =>
      intro i1 hi1
      try dsimp only at hi1
      show Aw _ _ _ ⟨24, [(15, sc (.int .i64 i1))] ++ [(2, _), (13, _), (14, _)], [] ++ []⟩ _
      repeat (first | refine AwOps.nil ?_ | refine AwSch.nil ?_ | refine Aw.seq ?_ | refine Aw.region ?_ | refine Aw.block ?_ | refine Aw.skip ?_ | refine Aw.exit ?_ | refine Aw.condT rfl ?_ | refine Aw.condF rfl ?_)
      refine AwOps.v hT rfl ?_
      repeat (first | refine AwOps.nil ?_ | refine AwSch.nil ?_ | refine Aw.seq ?_ | refine Aw.region ?_ | refine Aw.block ?_ | refine Aw.skip ?_ | refine Aw.exit ?_ | refine Aw.condT rfl ?_ | refine Aw.condF rfl ?_)
      refine Aw.tst rfl (fun hb16 => ?_) (fun hb16 => ?_)
      · skip
        have hlt1 : i1 < l.length := by simpa using hb16
        repeat (first | refine AwOps.nil ?_ | refine AwSch.nil ?_ | refine Aw.seq ?_ | refine Aw.region ?_ | refine Aw.block ?_ | refine Aw.skip ?_ | refine Aw.exit ?_ | refine Aw.condT rfl ?_ | refine Aw.condF rfl ?_)
        refine AwOps.im hT rfl hlt1 rfl ?_
        refine AwOps.v hT rfl ?_
        refine AwOps.v hT rfl ?_
        repeat (first | refine AwOps.nil ?_ | refine AwSch.nil ?_ | refine Aw.seq ?_ | refine Aw.region ?_ | refine Aw.block ?_ | refine Aw.skip ?_ | refine Aw.exit ?_ | refine Aw.condT rfl ?_ | refine Aw.condF rfl ?_)
        iterate 4 refine AwOps.v hT rfl ?_
        repeat (first | refine AwOps.nil ?_ | refine AwSch.nil ?_ | refine Aw.seq ?_ | refine Aw.region ?_ | refine Aw.block ?_ | refine Aw.skip ?_ | refine Aw.exit ?_ | refine Aw.condT rfl ?_ | refine Aw.condF rfl ?_)
        refine Aw.tst rfl (fun hb22 => ?_) (fun hb22 => ?_)
        · skip
          repeat (first | refine AwOps.nil ?_ | refine AwSch.nil ?_ | refine Aw.seq ?_ | refine Aw.region ?_ | refine Aw.block ?_ | refine Aw.skip ?_ | refine Aw.exit ?_ | refine Aw.condT rfl ?_ | refine Aw.condF rfl ?_)
          refine AwOps.v hT rfl ?_
          repeat (first | refine AwOps.nil ?_ | refine AwSch.nil ?_ | refine Aw.seq ?_ | refine Aw.region ?_ | refine Aw.block ?_ | refine Aw.skip ?_ | refine Aw.exit ?_ | refine Aw.condT rfl ?_ | refine Aw.condF rfl ?_)
          refine Aw.ret ?_
          refine ⟨_, [], rfl, trivial, ?_⟩
          first
            | exact ⟨false, rfl, fun h => nomatch h⟩
            | exact ⟨_, rfl, fun _ => (by have := of_decide_eq_false hb12; simp at this; omega)⟩
        · skip
          repeat (first | refine AwOps.nil ?_ | refine AwSch.nil ?_ | refine Aw.seq ?_ | refine Aw.region ?_ | refine Aw.block ?_ | refine Aw.skip ?_ | refine Aw.exit ?_ | refine Aw.condT rfl ?_ | refine Aw.condF rfl ?_)
          refine AwOps.v hT rfl ?_
          refine AwOps.v hT rfl ?_
          repeat (first | refine AwOps.nil ?_ | refine AwSch.nil ?_ | refine Aw.seq ?_ | refine Aw.region ?_ | refine Aw.block ?_ | refine Aw.skip ?_ | refine Aw.exit ?_ | refine Aw.condT rfl ?_ | refine Aw.condF rfl ?_)
          refine ⟨(i1 + 1), ?nx1, ?mu1, Less.tn ⟨rfl, ⟨incS hlt1 hB1, rfl, rfl, rfl, trivial⟩, trivial⟩⟩
          case nx1 =>
            try dsimp only
            first | exact ⟨hlt1, trivial⟩ | trivial
          case mu1 =>
            try dsimp only
            first | omega | (simp only [w64] at *; omega) | (simp [w64] at *; omega)
      · skip
        repeat (first | refine AwOps.nil ?_ | refine AwSch.nil ?_ | refine Aw.seq ?_ | refine Aw.region ?_ | refine Aw.block ?_ | refine Aw.skip ?_ | refine Aw.exit ?_ | refine Aw.condT rfl ?_ | refine Aw.condF rfl ?_)
        refine AwOps.v hT rfl ?_
        repeat (first | refine AwOps.nil ?_ | refine AwSch.nil ?_ | refine Aw.seq ?_ | refine Aw.region ?_ | refine Aw.block ?_ | refine Aw.skip ?_ | refine Aw.exit ?_ | refine Aw.condT rfl ?_ | refine Aw.condF rfl ?_)
        refine Aw.ret ?_
        refine ⟨_, [], rfl, trivial, ?_⟩
        first
          | exact ⟨false, rfl, fun h => nomatch h⟩
          | exact ⟨_, rfl, fun _ => (by have := of_decide_eq_false hb12; simp at this; omega)⟩
-- f57 certpath/certpathmade.ShortPoints
theorem F57 (l : List Point) : Fn Try.prog 57 [.pv (.one (.p (.sl (l.map ePoint))))] [] (fun r _ => ∃ b, r = sc (.bool b) ∧ (b = true → okPts l)) := by
  refine Fn.intro (rs := [.tmp 2]) hT Try.func57 (by kernel_rfl) rfl rfl rfl rfl fun C => ?_
  repeat (first | refine AwOps.nil ?_ | refine AwSch.nil ?_ | refine Aw.seq ?_ | refine Aw.region ?_ | refine Aw.block ?_ | refine Aw.skip ?_ | refine Aw.exit ?_ | refine Aw.condT rfl ?_ | refine Aw.condF rfl ?_)
  refine AwOps.v hT rfl ?_
  repeat (first | refine AwOps.nil ?_ | refine AwSch.nil ?_ | refine Aw.seq ?_ | refine Aw.region ?_ | refine Aw.block ?_ | refine Aw.skip ?_ | refine Aw.exit ?_ | refine Aw.condT rfl ?_ | refine Aw.condF rfl ?_)
  iterate 3 refine AwOps.v hT rfl ?_
  repeat (first | refine AwOps.nil ?_ | refine AwSch.nil ?_ | refine Aw.seq ?_ | refine Aw.region ?_ | refine Aw.block ?_ | refine Aw.skip ?_ | refine Aw.exit ?_ | refine Aw.condT rfl ?_ | refine Aw.condF rfl ?_)
  refine Aw.tst rfl (fun hb7 => ?_) (fun hb7 => ?_)
  · skip
    repeat (first | refine AwOps.nil ?_ | refine AwSch.nil ?_ | refine Aw.seq ?_ | refine Aw.region ?_ | refine Aw.block ?_ | refine Aw.skip ?_ | refine Aw.exit ?_ | refine Aw.condT rfl ?_ | refine Aw.condF rfl ?_)
    refine AwOps.v hT rfl ?_
    repeat (first | refine AwOps.nil ?_ | refine AwSch.nil ?_ | refine Aw.seq ?_ | refine Aw.region ?_ | refine Aw.block ?_ | refine Aw.skip ?_ | refine Aw.exit ?_ | refine Aw.condT rfl ?_ | refine Aw.condF rfl ?_)
    refine Aw.ret ?_
    refine ⟨_, [], rfl, trivial, ?_⟩
    first
      | exact ⟨false, rfl, fun h => nomatch h⟩
      | exact ⟨_, rfl, fun _ => ⟨(by have := of_decide_eq_false hb7; simp at this; omega), (take_full hi1.2 (by simpa using hb11))⟩⟩
  · skip
    repeat (first | refine AwOps.nil ?_ | refine AwSch.nil ?_ | refine Aw.seq ?_ | refine Aw.region ?_ | refine Aw.block ?_ | refine Aw.skip ?_ | refine Aw.exit ?_ | refine Aw.condT rfl ?_ | refine Aw.condF rfl ?_)
    iterate 3 refine AwOps.v hT rfl ?_
    repeat (first | refine AwOps.nil ?_ | refine AwSch.nil ?_ | refine Aw.seq ?_ | refine Aw.region ?_ | refine Aw.block ?_ | refine Aw.skip ?_ | refine Aw.exit ?_ | refine Aw.condT rfl ?_ | refine Aw.condF rfl ?_)
    refine Aw.bnd 8 rfl fun hB1 => ?_
    replace hB1 : l.length ≤ maxLen := by simpa using hB1
    repeat (first | refine AwOps.nil ?_ | refine AwSch.nil ?_ | refine Aw.seq ?_ | refine Aw.region ?_ | refine Aw.block ?_ | refine Aw.skip ?_ | refine Aw.exit ?_ | refine Aw.condT rfl ?_ | refine Aw.condF rfl ?_)
    refine Aw.lp (ι := Nat) (n := 25) [(8, _), (9, _)] [] (fun gq => [(10, sc (.int .i64 gq))]) (fun gq => []) (fun gq => gq ≤ l.length ∧ (∀ g ∈ l.take gq, okPt g)) (fun gq => l.length - gq) (0) ?ok1 (Less.tn ⟨rfl, ⟨rfl, rfl, rfl, trivial⟩, trivial⟩) ?bd1
    case ok1 =>
      try dsimp only
      exact ⟨Nat.zero_le _, take_nil⟩
    case bd1 =>
      intro i1 hi1
      try dsimp only at hi1
      show Aw _ _ _ ⟨25, [(10, sc (.int .i64 i1))] ++ [(8, _), (9, _)], [] ++ []⟩ _
      repeat (first | refine AwOps.nil ?_ | refine AwSch.nil ?_ | refine Aw.seq ?_ | refine Aw.region ?_ | refine Aw.block ?_ | refine Aw.skip ?_ | refine Aw.exit ?_ | refine Aw.condT rfl ?_ | refine Aw.condF rfl ?_)
      refine AwOps.v hT rfl ?_
      repeat (first | refine AwOps.nil ?_ | refine AwSch.nil ?_ | refine Aw.seq ?_ | refine Aw.region ?_ | refine Aw.block ?_ | refine Aw.skip ?_ | refine Aw.exit ?_ | refine Aw.condT rfl ?_ | refine Aw.condF rfl ?_)
      refine Aw.tst rfl (fun hb11 => ?_) (fun hb11 => ?_)
      · skip
        have hlt1 : i1 < l.length := by simpa using hb11
        repeat (first | refine AwOps.nil ?_ | refine AwSch.nil ?_ | refine Aw.seq ?_ | refine Aw.region ?_ | refine Aw.block ?_ | refine Aw.skip ?_ | refine Aw.exit ?_ | refine Aw.condT rfl ?_ | refine Aw.condF rfl ?_)
        refine AwOps.im hT rfl hlt1 rfl ?_
        refine AwOps.v hT rfl ?_
        refine AwOps.eff hT rfl ?_
        refine AwOps.eff hT rfl ?_
        repeat (first | refine AwOps.nil ?_ | refine AwSch.nil ?_ | refine Aw.seq ?_ | refine Aw.region ?_ | refine Aw.block ?_ | refine Aw.skip ?_ | refine Aw.exit ?_ | refine Aw.condT rfl ?_ | refine Aw.condF rfl ?_)
        refine AwOps.v hT rfl ?_
        refine AwOps.v hT rfl ?_
        refine AwOps.cl (F29 _) [] rfl ⟨⟨rfl, rfl⟩, trivial⟩ trivial rfl ?_   -- certpathmade.ShortNames
        rintro _ _ ⟨b1, rfl, hs1⟩
        refine AwOps.v hT rfl ?_
        refine AwOps.v hT rfl ?_
        refine AwOps.split (t := 18) rfl (fun hb18 => ?_) (fun hb18 => ?_)
        · skip
          iterate 5 refine AwOps.v hT rfl ?_
          repeat (first | refine AwOps.nil ?_ | refine AwSch.nil ?_ | refine Aw.seq ?_ | refine Aw.region ?_ | refine Aw.block ?_ | refine Aw.skip ?_ | refine Aw.exit ?_ | refine Aw.condT rfl ?_ | refine Aw.condF rfl ?_)
          refine AwOps.v hT rfl ?_
          repeat (first | refine AwOps.nil ?_ | refine AwSch.nil ?_ | refine Aw.seq ?_ | refine Aw.region ?_ | refine Aw.block ?_ | refine Aw.skip ?_ | refine Aw.exit ?_ | refine Aw.condT rfl ?_ | refine Aw.condF rfl ?_)
          refine Aw.ret ?_
          refine ⟨_, [], rfl, trivial, ?_⟩
          first
            | exact ⟨false, rfl, fun h => nomatch h⟩
            | exact ⟨_, rfl, fun _ => ⟨(by have := of_decide_eq_false hb7; simp at this; omega), (take_full hi1.2 (by simpa using hb11))⟩⟩
        · skip
          refine AwOps.v hT rfl ?_
          refine AwOps.v hT rfl ?_
          refine AwOps.cl (F27 _) [] rfl ⟨⟨rfl, rfl⟩, trivial⟩ trivial rfl ?_   -- certpathmade.ShortName
          rintro _ _ ⟨b2, rfl, hs2⟩
          refine AwOps.v hT rfl ?_
          refine AwOps.v hT rfl ?_
          repeat (first | refine AwOps.nil ?_ | refine AwSch.nil ?_ | refine Aw.seq ?_ | refine Aw.region ?_ | refine Aw.block ?_ | refine Aw.skip ?_ | refine Aw.exit ?_ | refine Aw.condT rfl ?_ | refine Aw.condF rfl ?_)
          refine Aw.tst rfl (fun hb23 => ?_) (fun hb23 => ?_)
          · skip
            repeat (first | refine AwOps.nil ?_ | refine AwSch.nil ?_ | refine Aw.seq ?_ | refine Aw.region ?_ | refine Aw.block ?_ | refine Aw.skip ?_ | refine Aw.exit ?_ | refine Aw.condT rfl ?_ | refine Aw.condF rfl ?_)
            refine AwOps.v hT rfl ?_
            repeat (first | refine AwOps.nil ?_ | refine AwSch.nil ?_ | refine Aw.seq ?_ | refine Aw.region ?_ | refine Aw.block ?_ | refine Aw.skip ?_ | refine Aw.exit ?_ | refine Aw.condT rfl ?_ | refine Aw.condF rfl ?_)
            refine Aw.ret ?_
            refine ⟨_, [], rfl, trivial, ?_⟩
            first
              | exact ⟨false, rfl, fun h => nomatch h⟩
              | exact ⟨_, rfl, fun _ => ⟨(by have := of_decide_eq_false hb7; simp at this; omega), (take_full hi1.2 (by simpa using hb11))⟩⟩
          · skip
            repeat (first | refine AwOps.nil ?_ | refine AwSch.nil ?_ | refine Aw.seq ?_ | refine Aw.region ?_ | refine Aw.block ?_ | refine Aw.skip ?_ | refine Aw.exit ?_ | refine Aw.condT rfl ?_ | refine Aw.condF rfl ?_)
            refine AwOps.v hT rfl ?_
            refine AwOps.v hT rfl ?_
            repeat (first | refine AwOps.nil ?_ | refine AwSch.nil ?_ | refine Aw.seq ?_ | refine Aw.region ?_ | refine Aw.block ?_ | refine Aw.skip ?_ | refine Aw.exit ?_ | refine Aw.condT rfl ?_ | refine Aw.condF rfl ?_)
            refine ⟨(i1 + 1), ?nx1, ?mu1, Less.tn ⟨rfl, ⟨incS hlt1 hB1, rfl, rfl, trivial⟩, trivial⟩⟩
            case nx1 =>
              try dsimp only
              exact ⟨hlt1, take_step hlt1 hi1.2 ⟨(by apply_assumption; simpa using hb18), (by apply_assumption; simpa using hb23)⟩⟩
            case mu1 =>
              try dsimp only
              first | omega | (simp only [w64] at *; omega) | (simp [w64] at *; omega)
      · skip
        repeat (first | refine AwOps.nil ?_ | refine AwSch.nil ?_ | refine Aw.seq ?_ | refine Aw.region ?_ | refine Aw.block ?_ | refine Aw.skip ?_ | refine Aw.exit ?_ | refine Aw.condT rfl ?_ | refine Aw.condF rfl ?_)
        refine AwOps.v hT rfl ?_
        repeat (first | refine AwOps.nil ?_ | refine AwSch.nil ?_ | refine Aw.seq ?_ | refine Aw.region ?_ | refine Aw.block ?_ | refine Aw.skip ?_ | refine Aw.exit ?_ | refine Aw.condT rfl ?_ | refine Aw.condF rfl ?_)
        refine Aw.ret ?_
        refine ⟨_, [], rfl, trivial, ?_⟩
        first
          | exact ⟨false, rfl, fun h => nomatch h⟩
          | exact ⟨_, rfl, fun _ => ⟨(by have := of_decide_eq_false hb7; simp at this; omega), (take_full hi1.2 (by simpa using hb11))⟩⟩
-- f58 certpath/certpathmade.ShortExtensions
theorem F58 (l : List Ext) : Fn Try.prog 58 [.pv (.one (.p (.sl (l.map eExt))))] [] (fun r _ => ∃ b, r = sc (.bool b) ∧ (b = true → l.length ≤ 1000)) := by
  refine Fn.intro (rs := [.tmp 2]) hT Try.func58 (by kernel_rfl) rfl rfl rfl rfl fun C => ?_
  repeat (first | refine AwOps.nil ?_ | refine AwSch.nil ?_ | refine Aw.seq ?_ | refine Aw.region ?_ | refine Aw.block ?_ | refine Aw.skip ?_ | refine Aw.exit ?_ | refine Aw.condT rfl ?_ | refine Aw.condF rfl ?_)
  refine AwOps.v hT rfl ?_
  repeat (first | refine AwOps.nil ?_ | refine AwSch.nil ?_ | refine Aw.seq ?_ | refine Aw.region ?_ | refine Aw.block ?_ | refine Aw.skip ?_ | refine Aw.exit ?_ | refine Aw.condT rfl ?_ | refine Aw.condF rfl ?_)
  iterate 3 refine AwOps.v hT rfl ?_
  repeat (first | refine AwOps.nil ?_ | refine AwSch.nil ?_ | refine Aw.seq ?_ | refine Aw.region ?_ | refine Aw.block ?_ | refine Aw.skip ?_ | refine Aw.exit ?_ | refine Aw.condT rfl ?_ | refine Aw.condF rfl ?_)
  refine Aw.tst rfl (fun hb7 => ?_) (fun hb7 => ?_)
  · skip
    repeat (first | refine AwOps.nil ?_ | refine AwSch.nil ?_ | refine Aw.seq ?_ | refine Aw.region ?_ | refine Aw.block ?_ | refine Aw.skip ?_ | refine Aw.exit ?_ | refine Aw.condT rfl ?_ | refine Aw.condF rfl ?_)
    refine AwOps.v hT rfl ?_
    repeat (first | refine AwOps.nil ?_ | refine AwSch.nil ?_ | refine Aw.seq ?_ | refine Aw.region ?_ | refine Aw.block ?_ | refine Aw.skip ?_ | refine Aw.exit ?_ | refine Aw.condT rfl ?_ | refine Aw.condF rfl ?_)
    refine Aw.ret ?_
    refine ⟨_, [], rfl, trivial, ?_⟩
    first
      | exact ⟨false, rfl, fun h => nomatch h⟩
      | exact ⟨_, rfl, fun _ => (by have := of_decide_eq_false hb7; simp at this; omega)⟩
  · skip
    repeat (first | refine AwOps.nil ?_ | refine AwSch.nil ?_ | refine Aw.seq ?_ | refine Aw.region ?_ | refine Aw.block ?_ | refine Aw.skip ?_ | refine Aw.exit ?_ | refine Aw.condT rfl ?_ | refine Aw.condF rfl ?_)
    iterate 3 refine AwOps.v hT rfl ?_
    repeat (first | refine AwOps.nil ?_ | refine AwSch.nil ?_ | refine Aw.seq ?_ | refine Aw.region ?_ | refine Aw.block ?_ | refine Aw.skip ?_ | refine Aw.exit ?_ | refine Aw.condT rfl ?_ | refine Aw.condF rfl ?_)
    refine Aw.bnd 8 rfl fun hB1 => ?_
    replace hB1 : l.length ≤ maxLen := by simpa using hB1
    repeat (first | refine AwOps.nil ?_ | refine AwSch.nil ?_ | refine Aw.seq ?_ | refine Aw.region ?_ | refine Aw.block ?_ | refine Aw.skip ?_ | refine Aw.exit ?_ | refine Aw.condT rfl ?_ | refine Aw.condF rfl ?_)
    refine Aw.lp (ι := Nat) (n := 25) [(8, _), (9, _)] [] (fun gq => [(10, sc (.int .i64 gq))]) (fun gq => []) (fun gq => gq ≤ l.length ∧ (True)) (fun gq => l.length - gq) (0) ?ok1 (Less.tn ⟨rfl, ⟨rfl, rfl, rfl, trivial⟩, trivial⟩) ?bd1
    case ok1 =>
      try dsimp only
      first | trivial | exact ⟨Nat.zero_le _, trivial⟩ | (simp; done) | (refine ⟨by simp, ?_⟩; (first | trivial | (simp; done))) | (simp; first | omega | (simp only [w64] at *; omega) | (simp [w64] at *; omega))
    case bd1 =>
      intro i1 hi1
      try dsimp only at hi1
      show Aw _ _ _ ⟨25, [(10, sc (.int .i64 i1))] ++ [(8, _), (9, _)], [] ++ []⟩ _
      repeat (first | refine AwOps.nil ?_ | refine AwSch.nil ?_ | refine Aw.seq ?_ | refine Aw.region ?_ | refine Aw.block ?_ | refine Aw.skip ?_ | refine Aw.exit ?_ | refine Aw.condT rfl ?_ | refine Aw.condF rfl ?_)
      refine AwOps.v hT rfl ?_
      repeat (first | refine AwOps.nil ?_ | refine AwSch.nil ?_ | refine Aw.seq ?_ | refine Aw.region ?_ | refine Aw.block ?_ | refine Aw.skip ?_ | refine Aw.exit ?_ | refine Aw.condT rfl ?_ | refine Aw.condF rfl ?_)
      refine Aw.tst rfl (fun hb11 => ?_) (fun hb11 => ?_)
      · skip
        have hlt1 : i1 < l.length := by simpa using hb11
        repeat (first | refine AwOps.nil ?_ | refine AwSch.nil ?_ | refine Aw.seq ?_ | refine Aw.region ?_ | refine Aw.block ?_ | refine Aw.skip ?_ | refine Aw.exit ?_ | refine Aw.condT rfl ?_ | refine Aw.condF rfl ?_)
        refine AwOps.im hT rfl hlt1 rfl ?_
        refine AwOps.v hT rfl ?_
        refine AwOps.eff hT rfl ?_
        refine AwOps.eff hT rfl ?_
        repeat (first | refine AwOps.nil ?_ | refine AwSch.nil ?_ | refine Aw.seq ?_ | refine Aw.region ?_ | refine Aw.block ?_ | refine Aw.skip ?_ | refine Aw.exit ?_ | refine Aw.condT rfl ?_ | refine Aw.condF rfl ?_)
        iterate 5 refine AwOps.v hT rfl ?_
        refine AwOps.split (t := 18) rfl (fun hb18 => ?_) (fun hb18 => ?_)
        · skip
          iterate 5 refine AwOps.v hT rfl ?_
          repeat (first | refine AwOps.nil ?_ | refine AwSch.nil ?_ | refine Aw.seq ?_ | refine Aw.region ?_ | refine Aw.block ?_ | refine Aw.skip ?_ | refine Aw.exit ?_ | refine Aw.condT rfl ?_ | refine Aw.condF rfl ?_)
          refine AwOps.v hT rfl ?_
          repeat (first | refine AwOps.nil ?_ | refine AwSch.nil ?_ | refine Aw.seq ?_ | refine Aw.region ?_ | refine Aw.block ?_ | refine Aw.skip ?_ | refine Aw.exit ?_ | refine Aw.condT rfl ?_ | refine Aw.condF rfl ?_)
          refine Aw.ret ?_
          refine ⟨_, [], rfl, trivial, ?_⟩
          first
            | exact ⟨false, rfl, fun h => nomatch h⟩
            | exact ⟨_, rfl, fun _ => (by have := of_decide_eq_false hb7; simp at this; omega)⟩
        · skip
          iterate 5 refine AwOps.v hT rfl ?_
          repeat (first | refine AwOps.nil ?_ | refine AwSch.nil ?_ | refine Aw.seq ?_ | refine Aw.region ?_ | refine Aw.block ?_ | refine Aw.skip ?_ | refine Aw.exit ?_ | refine Aw.condT rfl ?_ | refine Aw.condF rfl ?_)
          refine Aw.tst rfl (fun hb23 => ?_) (fun hb23 => ?_)
          · skip
            repeat (first | refine AwOps.nil ?_ | refine AwSch.nil ?_ | refine Aw.seq ?_ | refine Aw.region ?_ | refine Aw.block ?_ | refine Aw.skip ?_ | refine Aw.exit ?_ | refine Aw.condT rfl ?_ | refine Aw.condF rfl ?_)
            refine AwOps.v hT rfl ?_
            repeat (first | refine AwOps.nil ?_ | refine AwSch.nil ?_ | refine Aw.seq ?_ | refine Aw.region ?_ | refine Aw.block ?_ | refine Aw.skip ?_ | refine Aw.exit ?_ | refine Aw.condT rfl ?_ | refine Aw.condF rfl ?_)
            refine Aw.ret ?_
            refine ⟨_, [], rfl, trivial, ?_⟩
            first
              | exact ⟨false, rfl, fun h => nomatch h⟩
              | exact ⟨_, rfl, fun _ => (by have := of_decide_eq_false hb7; simp at this; omega)⟩
          · skip
            repeat (first | refine AwOps.nil ?_ | refine AwSch.nil ?_ | refine Aw.seq ?_ | refine Aw.region ?_ | refine Aw.block ?_ | refine Aw.skip ?_ | refine Aw.exit ?_ | refine Aw.condT rfl ?_ | refine Aw.condF rfl ?_)
            refine AwOps.v hT rfl ?_
            refine AwOps.v hT rfl ?_
            repeat (first | refine AwOps.nil ?_ | refine AwSch.nil ?_ | refine Aw.seq ?_ | refine Aw.region ?_ | refine Aw.block ?_ | refine Aw.skip ?_ | refine Aw.exit ?_ | refine Aw.condT rfl ?_ | refine Aw.condF rfl ?_)
            refine ⟨(i1 + 1), ?nx1, ?mu1, Less.tn ⟨rfl, ⟨incS hlt1 hB1, rfl, rfl, trivial⟩, trivial⟩⟩
            case nx1 =>
              try dsimp only
              first | exact ⟨hlt1, trivial⟩ | trivial
            case mu1 =>
              try dsimp only
              first | omega | (simp only [w64] at *; omega) | (simp [w64] at *; omega)
      · skip
        repeat (first | refine AwOps.nil ?_ | refine AwSch.nil ?_ | refine Aw.seq ?_ | refine Aw.region ?_ | refine Aw.block ?_ | refine Aw.skip ?_ | refine Aw.exit ?_ | refine Aw.condT rfl ?_ | refine Aw.condF rfl ?_)
        refine AwOps.v hT rfl ?_
        repeat (first | refine AwOps.nil ?_ | refine AwSch.nil ?_ | refine Aw.seq ?_ | refine Aw.region ?_ | refine Aw.block ?_ | refine Aw.skip ?_ | refine Aw.exit ?_ | refine Aw.condT rfl ?_ | refine Aw.condF rfl ?_)
        refine Aw.ret ?_
        refine ⟨_, [], rfl, trivial, ?_⟩
        first
          | exact ⟨false, rfl, fun h => nomatch h⟩
          | exact ⟨_, rfl, fun _ => (by have := of_decide_eq_false hb7; simp at this; omega)⟩
-- f28 certpath/certpathmade.ShortInfo
theorem F28 (i : Info) : Fn Try.prog 28 [.pv (.agg (eInfo i))] [] (fun r _ => ∃ b, r = sc (.bool b) ∧ (b = true → okI i)) := by
  refine Fn.intro (rs := [.tmp 2]) hT Try.func28 (by kernel_rfl) rfl rfl rfl rfl fun C => ?_
  repeat (first | refine AwOps.nil ?_ | refine AwSch.nil ?_ | refine Aw.seq ?_ | refine Aw.region ?_ | refine Aw.block ?_ | refine Aw.skip ?_ | refine Aw.exit ?_ | refine Aw.condT rfl ?_ | refine Aw.condF rfl ?_)
  refine AwOps.eff hT rfl ?_
  refine AwOps.v hT rfl ?_
  repeat (first | refine AwOps.nil ?_ | refine AwSch.nil ?_ | refine Aw.seq ?_ | refine Aw.region ?_ | refine Aw.block ?_ | refine Aw.skip ?_ | refine Aw.exit ?_ | refine Aw.condT rfl ?_ | refine Aw.condF rfl ?_)
  refine AwOps.v hT rfl ?_
  refine AwOps.v hT rfl ?_
  refine AwOps.cl (F56 _ _ _ (by omega)) [] rfl ⟨⟨rfl, rfl⟩, ⟨rfl, rfl⟩, ⟨rfl, rfl⟩, trivial⟩ trivial rfl ?_   -- certpathmade.Few
  rintro _ _ ⟨b1, rfl, hs1⟩
  refine AwOps.v hT rfl ?_
  refine AwOps.v hT rfl ?_
  refine AwOps.split (t := 9) rfl (fun hb9 => ?_) (fun hb9 => ?_)
  · skip
    iterate 43 refine AwOps.v hT rfl ?_
    repeat (first | refine AwOps.nil ?_ | refine AwSch.nil ?_ | refine Aw.seq ?_ | refine Aw.region ?_ | refine Aw.block ?_ | refine Aw.skip ?_ | refine Aw.exit ?_ | refine Aw.condT rfl ?_ | refine Aw.condF rfl ?_)
    refine AwOps.v hT rfl ?_
    repeat (first | refine AwOps.nil ?_ | refine AwSch.nil ?_ | refine Aw.seq ?_ | refine Aw.region ?_ | refine Aw.block ?_ | refine Aw.skip ?_ | refine Aw.exit ?_ | refine Aw.condT rfl ?_ | refine Aw.condF rfl ?_)
    refine Aw.ret ?_
    refine ⟨_, [], rfl, trivial, ?_⟩
    exact ⟨false, rfl, fun h => nomatch h⟩
  · skip
    simp at hb9
    refine AwOps.v hT rfl ?_
    refine AwOps.v hT rfl ?_
    refine AwOps.cl (F56 _ _ _ (by omega)) [] rfl ⟨⟨rfl, rfl⟩, ⟨rfl, rfl⟩, ⟨rfl, rfl⟩, trivial⟩ trivial rfl ?_   -- certpathmade.Few
    rintro _ _ ⟨b2, rfl, hs2⟩
    iterate 3 refine AwOps.v hT rfl ?_
    refine AwOps.split (t := 15) rfl (fun hb15 => ?_) (fun hb15 => ?_)
    · skip
      iterate 37 refine AwOps.v hT rfl ?_
      repeat (first | refine AwOps.nil ?_ | refine AwSch.nil ?_ | refine Aw.seq ?_ | refine Aw.region ?_ | refine Aw.block ?_ | refine Aw.skip ?_ | refine Aw.exit ?_ | refine Aw.condT rfl ?_ | refine Aw.condF rfl ?_)
      refine AwOps.v hT rfl ?_
      repeat (first | refine AwOps.nil ?_ | refine AwSch.nil ?_ | refine Aw.seq ?_ | refine Aw.region ?_ | refine Aw.block ?_ | refine Aw.skip ?_ | refine Aw.exit ?_ | refine Aw.condT rfl ?_ | refine Aw.condF rfl ?_)
      refine Aw.ret ?_
      refine ⟨_, [], rfl, trivial, ?_⟩
      exact ⟨false, rfl, fun h => nomatch h⟩
    · skip
      simp at hb15
      iterate 6 refine AwOps.v hT rfl ?_
      refine AwOps.split (t := 21) rfl (fun hb21 => ?_) (fun hb21 => ?_)
      · skip
        iterate 31 refine AwOps.v hT rfl ?_
        repeat (first | refine AwOps.nil ?_ | refine AwSch.nil ?_ | refine Aw.seq ?_ | refine Aw.region ?_ | refine Aw.block ?_ | refine Aw.skip ?_ | refine Aw.exit ?_ | refine Aw.condT rfl ?_ | refine Aw.condF rfl ?_)
        refine AwOps.v hT rfl ?_
        repeat (first | refine AwOps.nil ?_ | refine AwSch.nil ?_ | refine Aw.seq ?_ | refine Aw.region ?_ | refine Aw.block ?_ | refine Aw.skip ?_ | refine Aw.exit ?_ | refine Aw.condT rfl ?_ | refine Aw.condF rfl ?_)
        refine Aw.ret ?_
        refine ⟨_, [], rfl, trivial, ?_⟩
        exact ⟨false, rfl, fun h => nomatch h⟩
      · skip
        have hl21 := of_decide_eq_false hb21
        simp at hl21
        refine AwOps.v hT rfl ?_
        refine AwOps.v hT rfl ?_
        refine AwOps.cl (F29 _) [] rfl ⟨⟨rfl, rfl⟩, trivial⟩ trivial rfl ?_   -- certpathmade.ShortNames
        rintro _ _ ⟨b3, rfl, hs3⟩
        iterate 3 refine AwOps.v hT rfl ?_
        refine AwOps.split (t := 27) rfl (fun hb27 => ?_) (fun hb27 => ?_)
        · skip
          iterate 25 refine AwOps.v hT rfl ?_
          repeat (first | refine AwOps.nil ?_ | refine AwSch.nil ?_ | refine Aw.seq ?_ | refine Aw.region ?_ | refine Aw.block ?_ | refine Aw.skip ?_ | refine Aw.exit ?_ | refine Aw.condT rfl ?_ | refine Aw.condF rfl ?_)
          refine AwOps.v hT rfl ?_
          repeat (first | refine AwOps.nil ?_ | refine AwSch.nil ?_ | refine Aw.seq ?_ | refine Aw.region ?_ | refine Aw.block ?_ | refine Aw.skip ?_ | refine Aw.exit ?_ | refine Aw.condT rfl ?_ | refine Aw.condF rfl ?_)
          refine Aw.ret ?_
          refine ⟨_, [], rfl, trivial, ?_⟩
          exact ⟨false, rfl, fun h => nomatch h⟩
        · skip
          simp at hb27
          iterate 3 refine AwOps.v hT rfl ?_
          refine AwOps.cl (F29 _) [] rfl ⟨⟨rfl, rfl⟩, trivial⟩ trivial rfl ?_   -- certpathmade.ShortNames
          rintro _ _ ⟨b4, rfl, hs4⟩
          iterate 3 refine AwOps.v hT rfl ?_
          refine AwOps.split (t := 34) rfl (fun hb34 => ?_) (fun hb34 => ?_)
          · skip
            iterate 18 refine AwOps.v hT rfl ?_
            repeat (first | refine AwOps.nil ?_ | refine AwSch.nil ?_ | refine Aw.seq ?_ | refine Aw.region ?_ | refine Aw.block ?_ | refine Aw.skip ?_ | refine Aw.exit ?_ | refine Aw.condT rfl ?_ | refine Aw.condF rfl ?_)
            refine AwOps.v hT rfl ?_
            repeat (first | refine AwOps.nil ?_ | refine AwSch.nil ?_ | refine Aw.seq ?_ | refine Aw.region ?_ | refine Aw.block ?_ | refine Aw.skip ?_ | refine Aw.exit ?_ | refine Aw.condT rfl ?_ | refine Aw.condF rfl ?_)
            refine Aw.ret ?_
            refine ⟨_, [], rfl, trivial, ?_⟩
            exact ⟨false, rfl, fun h => nomatch h⟩
          · skip
            simp at hb34
            iterate 3 refine AwOps.v hT rfl ?_
            refine AwOps.cl (F29 _) [] rfl ⟨⟨rfl, rfl⟩, trivial⟩ trivial rfl ?_   -- certpathmade.ShortNames
            rintro _ _ ⟨b5, rfl, hs5⟩
            iterate 3 refine AwOps.v hT rfl ?_
            refine AwOps.split (t := 41) rfl (fun hb41 => ?_) (fun hb41 => ?_)
            · skip
              iterate 11 refine AwOps.v hT rfl ?_
              repeat (first | refine AwOps.nil ?_ | refine AwSch.nil ?_ | refine Aw.seq ?_ | refine Aw.region ?_ | refine Aw.block ?_ | refine Aw.skip ?_ | refine Aw.exit ?_ | refine Aw.condT rfl ?_ | refine Aw.condF rfl ?_)
              refine AwOps.v hT rfl ?_
              repeat (first | refine AwOps.nil ?_ | refine AwSch.nil ?_ | refine Aw.seq ?_ | refine Aw.region ?_ | refine Aw.block ?_ | refine Aw.skip ?_ | refine Aw.exit ?_ | refine Aw.condT rfl ?_ | refine Aw.condF rfl ?_)
              refine Aw.ret ?_
              refine ⟨_, [], rfl, trivial, ?_⟩
              exact ⟨false, rfl, fun h => nomatch h⟩
            · skip
              simp at hb41
              iterate 6 refine AwOps.v hT rfl ?_
              refine AwOps.split (t := 47) rfl (fun hb47 => ?_) (fun hb47 => ?_)
              · skip
                iterate 5 refine AwOps.v hT rfl ?_
                repeat (first | refine AwOps.nil ?_ | refine AwSch.nil ?_ | refine Aw.seq ?_ | refine Aw.region ?_ | refine Aw.block ?_ | refine Aw.skip ?_ | refine Aw.exit ?_ | refine Aw.condT rfl ?_ | refine Aw.condF rfl ?_)
                refine AwOps.v hT rfl ?_
                repeat (first | refine AwOps.nil ?_ | refine AwSch.nil ?_ | refine Aw.seq ?_ | refine Aw.region ?_ | refine Aw.block ?_ | refine Aw.skip ?_ | refine Aw.exit ?_ | refine Aw.condT rfl ?_ | refine Aw.condF rfl ?_)
                refine Aw.ret ?_
                refine ⟨_, [], rfl, trivial, ?_⟩
                exact ⟨false, rfl, fun h => nomatch h⟩
              · skip
                iterate 5 refine AwOps.v hT rfl ?_
                repeat (first | refine AwOps.nil ?_ | refine AwSch.nil ?_ | refine Aw.seq ?_ | refine Aw.region ?_ | refine Aw.block ?_ | refine Aw.skip ?_ | refine Aw.exit ?_ | refine Aw.condT rfl ?_ | refine Aw.condF rfl ?_)
                refine Aw.tst rfl (fun hb52 => ?_) (fun hb52 => ?_)
                · skip
                  repeat (first | refine AwOps.nil ?_ | refine AwSch.nil ?_ | refine Aw.seq ?_ | refine Aw.region ?_ | refine Aw.block ?_ | refine Aw.skip ?_ | refine Aw.exit ?_ | refine Aw.condT rfl ?_ | refine Aw.condF rfl ?_)
                  refine AwOps.v hT rfl ?_
                  repeat (first | refine AwOps.nil ?_ | refine AwSch.nil ?_ | refine Aw.seq ?_ | refine Aw.region ?_ | refine Aw.block ?_ | refine Aw.skip ?_ | refine Aw.exit ?_ | refine Aw.condT rfl ?_ | refine Aw.condF rfl ?_)
                  refine Aw.ret ?_
                  refine ⟨_, [], rfl, trivial, ?_⟩
                  exact ⟨false, rfl, fun h => nomatch h⟩
                · skip
                  repeat (first | refine AwOps.nil ?_ | refine AwSch.nil ?_ | refine Aw.seq ?_ | refine Aw.region ?_ | refine Aw.block ?_ | refine Aw.skip ?_ | refine Aw.exit ?_ | refine Aw.condT rfl ?_ | refine Aw.condF rfl ?_)
                  iterate 4 refine AwOps.v hT rfl ?_
                  repeat (first | refine AwOps.nil ?_ | refine AwSch.nil ?_ | refine Aw.seq ?_ | refine Aw.region ?_ | refine Aw.block ?_ | refine Aw.skip ?_ | refine Aw.exit ?_ | refine Aw.condT rfl ?_ | refine Aw.condF rfl ?_)
                  refine Aw.bnd 54 rfl fun hB1 => ?_
                  replace hB1 : i.mappings.length ≤ maxLen := by simpa using hB1
                  repeat (first | refine AwOps.nil ?_ | refine AwSch.nil ?_ | refine Aw.seq ?_ | refine Aw.region ?_ | refine Aw.block ?_ | refine Aw.skip ?_ | refine Aw.exit ?_ | refine Aw.condT rfl ?_ | refine Aw.condF rfl ?_)
                  refine Aw.lp (ι := Nat) (n := 84) [(1, _), (54, _), (55, _)] [(1, _)] (fun gq => [(56, sc (.int .i64 gq))]) (fun gq => []) (fun gq => gq ≤ i.mappings.length ∧ (True)) (fun gq => i.mappings.length - gq) (0) ?ok1 (Less.tn ⟨rfl, ⟨rfl, rfl, rfl, rfl, trivial⟩, ⟨rfl, trivial⟩⟩) ?bd1
                  case ok1 =>
                    try dsimp only
                    first | trivial | exact ⟨Nat.zero_le _, trivial⟩ | (simp; done) | (refine ⟨by simp, ?_⟩; (first | trivial | (simp; done))) | (simp; first | omega | (simp only [w64] at *; omega) | (simp [w64] at *; omega))
                  case bd1 =>
                    intro i1 hi1
                    try dsimp only at hi1
                    show Aw _ _ _ ⟨84, [(56, sc (.int .i64 i1))] ++ [(1, _), (54, _), (55, _)], [] ++ [(1, _)]⟩ _
                    repeat (first | refine AwOps.nil ?_ | refine AwSch.nil ?_ | refine Aw.seq ?_ | refine Aw.region ?_ | refine Aw.block ?_ | refine Aw.skip ?_ | refine Aw.exit ?_ | refine Aw.condT rfl ?_ | refine Aw.condF rfl ?_)
                    refine AwOps.v hT rfl ?_
                    repeat (first | refine AwOps.nil ?_ | refine AwSch.nil ?_ | refine Aw.seq ?_ | refine Aw.region ?_ | refine Aw.block ?_ | refine Aw.skip ?_ | refine Aw.exit ?_ | refine Aw.condT rfl ?_ | refine Aw.condF rfl ?_)
                    refine Aw.tst rfl (fun hb57 => ?_) (fun hb57 => ?_)
                    · skip
                      have hlt1 : i1 < i.mappings.length := by simpa using hb57
                      repeat (first | refine AwOps.nil ?_ | refine AwSch.nil ?_ | refine Aw.seq ?_ | refine Aw.region ?_ | refine Aw.block ?_ | refine Aw.skip ?_ | refine Aw.exit ?_ | refine Aw.condT rfl ?_ | refine Aw.condF rfl ?_)
                      refine AwOps.im hT rfl hlt1 rfl ?_
                      refine AwOps.v hT rfl ?_
                      refine AwOps.eff hT rfl ?_
                      refine AwOps.eff hT rfl ?_
                      repeat (first | refine AwOps.nil ?_ | refine AwSch.nil ?_ | refine Aw.seq ?_ | refine Aw.region ?_ | refine Aw.block ?_ | refine Aw.skip ?_ | refine Aw.exit ?_ | refine Aw.condT rfl ?_ | refine Aw.condF rfl ?_)
                      iterate 5 refine AwOps.v hT rfl ?_
                      refine AwOps.split (t := 64) rfl (fun hb64 => ?_) (fun hb64 => ?_)
                      · skip
                        iterate 5 refine AwOps.v hT rfl ?_
                        repeat (first | refine AwOps.nil ?_ | refine AwSch.nil ?_ | refine Aw.seq ?_ | refine Aw.region ?_ | refine Aw.block ?_ | refine Aw.skip ?_ | refine Aw.exit ?_ | refine Aw.condT rfl ?_ | refine Aw.condF rfl ?_)
                        refine AwOps.v hT rfl ?_
                        repeat (first | refine AwOps.nil ?_ | refine AwSch.nil ?_ | refine Aw.seq ?_ | refine Aw.region ?_ | refine Aw.block ?_ | refine Aw.skip ?_ | refine Aw.exit ?_ | refine Aw.condT rfl ?_ | refine Aw.condF rfl ?_)
                        refine Aw.ret ?_
                        refine ⟨_, [], rfl, trivial, ?_⟩
                        exact ⟨false, rfl, fun h => nomatch h⟩
                      · skip
                        iterate 5 refine AwOps.v hT rfl ?_
                        repeat (first | refine AwOps.nil ?_ | refine AwSch.nil ?_ | refine Aw.seq ?_ | refine Aw.region ?_ | refine Aw.block ?_ | refine Aw.skip ?_ | refine Aw.exit ?_ | refine Aw.condT rfl ?_ | refine Aw.condF rfl ?_)
                        refine Aw.tst rfl (fun hb69 => ?_) (fun hb69 => ?_)
                        · skip
                          repeat (first | refine AwOps.nil ?_ | refine AwSch.nil ?_ | refine Aw.seq ?_ | refine Aw.region ?_ | refine Aw.block ?_ | refine Aw.skip ?_ | refine Aw.exit ?_ | refine Aw.condT rfl ?_ | refine Aw.condF rfl ?_)
                          refine AwOps.v hT rfl ?_
                          repeat (first | refine AwOps.nil ?_ | refine AwSch.nil ?_ | refine Aw.seq ?_ | refine Aw.region ?_ | refine Aw.block ?_ | refine Aw.skip ?_ | refine Aw.exit ?_ | refine Aw.condT rfl ?_ | refine Aw.condF rfl ?_)
                          refine Aw.ret ?_
                          refine ⟨_, [], rfl, trivial, ?_⟩
                          exact ⟨false, rfl, fun h => nomatch h⟩
                        · skip
                          repeat (first | refine AwOps.nil ?_ | refine AwSch.nil ?_ | refine Aw.seq ?_ | refine Aw.region ?_ | refine Aw.block ?_ | refine Aw.skip ?_ | refine Aw.exit ?_ | refine Aw.condT rfl ?_ | refine Aw.condF rfl ?_)
                          refine AwOps.v hT rfl ?_
                          refine AwOps.v hT rfl ?_
                          repeat (first | refine AwOps.nil ?_ | refine AwSch.nil ?_ | refine Aw.seq ?_ | refine Aw.region ?_ | refine Aw.block ?_ | refine Aw.skip ?_ | refine Aw.exit ?_ | refine Aw.condT rfl ?_ | refine Aw.condF rfl ?_)
                          refine ⟨(i1 + 1), ?nx1, ?mu1, Less.tn ⟨rfl, ⟨incS hlt1 hB1, rfl, rfl, rfl, trivial⟩, ⟨rfl, trivial⟩⟩⟩
                          case nx1 =>
                            try dsimp only
                            first | exact ⟨hlt1, trivial⟩ | trivial
                          case mu1 =>
                            try dsimp only
                            first | omega | (simp only [w64] at *; omega) | (simp [w64] at *; omega)
                    · skip
                      repeat (first | refine AwOps.nil ?_ | refine AwSch.nil ?_ | refine Aw.seq ?_ | refine Aw.region ?_ | refine Aw.block ?_ | refine Aw.skip ?_ | refine Aw.exit ?_ | refine Aw.condT rfl ?_ | refine Aw.condF rfl ?_)
                      refine AwOps.v hT rfl ?_
                      refine AwOps.v hT rfl ?_
                      refine AwOps.cl (F57 _) [] rfl ⟨⟨rfl, rfl⟩, trivial⟩ trivial rfl ?_   -- certpathmade.ShortPoints
                      rintro _ _ ⟨b6, rfl, hs6⟩
                      refine AwOps.v hT rfl ?_
                      refine AwOps.split (t := 74) rfl (fun hb74 => ?_) (fun hb74 => ?_)
                      · skip
                        refine AwOps.v hT rfl ?_
                        refine AwOps.v hT rfl ?_
                        refine AwOps.cl (F57 _) [] rfl ⟨⟨rfl, rfl⟩, trivial⟩ trivial rfl ?_   -- certpathmade.ShortPoints
                        rintro _ _ ⟨b7, rfl, hs7⟩
                        refine AwOps.v hT rfl ?_
                        refine AwOps.v hT rfl ?_
                        refine AwOps.split (t := 79) rfl (fun hb79 => ?_) (fun hb79 => ?_)
                        · skip
                          refine AwOps.v hT rfl ?_
                          refine AwOps.v hT rfl ?_
                          refine AwOps.cl (F58 _) [] rfl ⟨⟨rfl, rfl⟩, trivial⟩ trivial rfl ?_   -- certpathmade.ShortExtensions
                          rintro _ _ ⟨b8, rfl, hs8⟩
                          refine AwOps.v hT rfl ?_
                          refine AwOps.v hT rfl ?_
                          repeat (first | refine AwOps.nil ?_ | refine AwSch.nil ?_ | refine Aw.seq ?_ | refine Aw.region ?_ | refine Aw.block ?_ | refine Aw.skip ?_ | refine Aw.exit ?_ | refine Aw.condT rfl ?_ | refine Aw.condF rfl ?_)
                          refine Aw.ret ?_
                          refine ⟨_, [], rfl, trivial, ?_⟩
                          exact ⟨_, rfl, fun h => ⟨(by first | omega | assumption | solve_by_elim), (by first | omega | assumption | solve_by_elim), (by first | omega | assumption | solve_by_elim), (by first | omega | assumption | solve_by_elim), (by first | omega | assumption | solve_by_elim), ⟨(by first | omega | assumption | solve_by_elim), (by first | omega | assumption | solve_by_elim)⟩, (by first | omega | assumption | solve_by_elim), (by first | omega | assumption | solve_by_elim)⟩⟩
                        · skip
                          iterate 5 refine AwOps.v hT rfl ?_
                          repeat (first | refine AwOps.nil ?_ | refine AwSch.nil ?_ | refine Aw.seq ?_ | refine Aw.region ?_ | refine Aw.block ?_ | refine Aw.skip ?_ | refine Aw.exit ?_ | refine Aw.condT rfl ?_ | refine Aw.condF rfl ?_)
                          refine Aw.ret ?_
                          refine ⟨_, [], rfl, trivial, ?_⟩
                          exact ⟨false, rfl, fun h => nomatch h⟩
                      · skip
                        iterate 10 refine AwOps.v hT rfl ?_
                        repeat (first | refine AwOps.nil ?_ | refine AwSch.nil ?_ | refine Aw.seq ?_ | refine Aw.region ?_ | refine Aw.block ?_ | refine Aw.skip ?_ | refine Aw.exit ?_ | refine Aw.condT rfl ?_ | refine Aw.condF rfl ?_)
                        refine Aw.ret ?_
                        refine ⟨_, [], rfl, trivial, ?_⟩
                        exact ⟨false, rfl, fun h => nomatch h⟩
def cA (b : Bool) (i : Info) : Cert := { awC (if b then authS 8 else authS 1) with info := i }
theorem cons_le' {s : Progress} {c : Cert} (h : okP s) : (if leaveC s c == 0 then leaveP s c else zeroP).cons.length ≤ 1001 := by
  have := h.2.1
  split
  · simp only [leaveP, consS]
    split
    · simp; omega
    · omega
  · simp [zeroP]
-- f7 certpath/certpathlaw30.StepLeavesAnything
theorem F7 (s : Progress) (i : Info) (self' : Bool) : Fn Try.prog 7 [.pv (.agg (ePr s)), .pv (.agg (eInfo i)), .pv (sc (.bool self'))] [] (fun r _ => r = sc (.bool true)) := by
  refine Fn.intro (rs := [.tmp 6]) hT Try.func7 (by kernel_rfl) rfl rfl rfl rfl fun C => ?_
  repeat (first | refine AwOps.nil ?_ | refine AwSch.nil ?_ | refine Aw.seq ?_ | refine Aw.region ?_ | refine Aw.block ?_ | refine Aw.skip ?_ | refine Aw.exit ?_ | refine Aw.condT rfl ?_ | refine Aw.condF rfl ?_)
  refine AwOps.eff hT rfl ?_
  refine AwOps.eff hT rfl ?_
  refine AwOps.v hT rfl ?_
  repeat (first | refine AwOps.nil ?_ | refine AwSch.nil ?_ | refine Aw.seq ?_ | refine Aw.region ?_ | refine Aw.block ?_ | refine Aw.skip ?_ | refine Aw.exit ?_ | refine Aw.condT rfl ?_ | refine Aw.condF rfl ?_)
  refine AwOps.v hT rfl ?_
  refine AwOps.v hT rfl ?_
  refine AwOps.cl (F27 _) [] rfl ⟨⟨rfl, rfl⟩, trivial⟩ trivial rfl ?_   -- certpathmade.ShortName
  rintro _ _ ⟨b1, rfl, hs1⟩
  refine AwOps.v hT rfl ?_
  refine AwOps.v hT rfl ?_
  refine AwOps.split (t := 17) rfl (fun hb17 => ?_) (fun hb17 => ?_)
  · skip
    iterate 11 refine AwOps.v hT rfl ?_
    repeat (first | refine AwOps.nil ?_ | refine AwSch.nil ?_ | refine Aw.seq ?_ | refine Aw.region ?_ | refine Aw.block ?_ | refine Aw.skip ?_ | refine Aw.exit ?_ | refine Aw.condT rfl ?_ | refine Aw.condF rfl ?_)
    refine AwOps.cl (F22) [] rfl trivial trivial rfl ?_   -- certpathlaw30.awake
    rintro _ _ rfl
    refine AwOps.v hT rfl ?_
    repeat (first | refine AwOps.nil ?_ | refine AwSch.nil ?_ | refine Aw.seq ?_ | refine Aw.region ?_ | refine Aw.block ?_ | refine Aw.skip ?_ | refine Aw.exit ?_ | refine Aw.condT rfl ?_ | refine Aw.condF rfl ?_)
    refine Aw.ret ?_
    refine ⟨_, [], rfl, trivial, ?_⟩
    exact rfl
  · skip
    simp at hb17
    refine AwOps.v hT rfl ?_
    refine AwOps.cl (F28 _) [] rfl ⟨⟨rfl, rfl⟩, trivial⟩ trivial rfl ?_   -- certpathmade.ShortInfo
    rintro _ _ ⟨b3, rfl, hs3⟩
    iterate 3 refine AwOps.v hT rfl ?_
    refine AwOps.split (t := 22) rfl (fun hb22 => ?_) (fun hb22 => ?_)
    · skip
      iterate 6 refine AwOps.v hT rfl ?_
      repeat (first | refine AwOps.nil ?_ | refine AwSch.nil ?_ | refine Aw.seq ?_ | refine Aw.region ?_ | refine Aw.block ?_ | refine Aw.skip ?_ | refine Aw.exit ?_ | refine Aw.condT rfl ?_ | refine Aw.condF rfl ?_)
      refine AwOps.cl (F22) [] rfl trivial trivial rfl ?_   -- certpathlaw30.awake
      rintro _ _ rfl
      refine AwOps.v hT rfl ?_
      repeat (first | refine AwOps.nil ?_ | refine AwSch.nil ?_ | refine Aw.seq ?_ | refine Aw.region ?_ | refine Aw.block ?_ | refine Aw.skip ?_ | refine Aw.exit ?_ | refine Aw.condT rfl ?_ | refine Aw.condF rfl ?_)
      refine Aw.ret ?_
      refine ⟨_, [], rfl, trivial, ?_⟩
      exact rfl
    · skip
      simp at hb22
      iterate 6 refine AwOps.v hT rfl ?_
      repeat (first | refine AwOps.nil ?_ | refine AwSch.nil ?_ | refine Aw.seq ?_ | refine Aw.region ?_ | refine Aw.block ?_ | refine Aw.skip ?_ | refine Aw.exit ?_ | refine Aw.condT rfl ?_ | refine Aw.condF rfl ?_)
      refine Aw.tst rfl (fun hb28 => ?_) (fun hb28 => ?_)
      · skip
        repeat (first | refine AwOps.nil ?_ | refine AwSch.nil ?_ | refine Aw.seq ?_ | refine Aw.region ?_ | refine Aw.block ?_ | refine Aw.skip ?_ | refine Aw.exit ?_ | refine Aw.condT rfl ?_ | refine Aw.condF rfl ?_)
        refine AwOps.cl (F22) [] rfl trivial trivial rfl ?_   -- certpathlaw30.awake
        rintro _ _ rfl
        refine AwOps.v hT rfl ?_
        repeat (first | refine AwOps.nil ?_ | refine AwSch.nil ?_ | refine Aw.seq ?_ | refine Aw.region ?_ | refine Aw.block ?_ | refine Aw.skip ?_ | refine Aw.exit ?_ | refine Aw.condT rfl ?_ | refine Aw.condF rfl ?_)
        refine Aw.ret ?_
        refine ⟨_, [], rfl, trivial, ?_⟩
        exact rfl
      · skip
        have hl28 := of_decide_eq_false hb28
        simp at hl28
        repeat (first | refine AwOps.nil ?_ | refine AwSch.nil ?_ | refine Aw.seq ?_ | refine Aw.region ?_ | refine Aw.block ?_ | refine Aw.skip ?_ | refine Aw.exit ?_ | refine Aw.condT rfl ?_ | refine Aw.condF rfl ?_)
        refine AwOps.v hT rfl ?_
        repeat (first | refine AwOps.nil ?_ | refine AwSch.nil ?_ | refine Aw.seq ?_ | refine Aw.region ?_ | refine Aw.block ?_ | refine Aw.skip ?_ | refine Aw.exit ?_ | refine Aw.condT rfl ?_ | refine Aw.condF rfl ?_)
        have hB1 : s.cons.length ≤ maxLen := by unfold maxLen; omega
        repeat (first | refine AwOps.nil ?_ | refine AwSch.nil ?_ | refine Aw.seq ?_ | refine Aw.region ?_ | refine Aw.block ?_ | refine Aw.skip ?_ | refine Aw.exit ?_ | refine Aw.condT rfl ?_ | refine Aw.condF rfl ?_)
        refine Aw.lp (ι := Nat) (n := 105) [(2, _), (3, _), (4, _)] [(3, _), (4, _)] (fun gq => [(7, sc (.int .i64 gq))]) (fun gq => []) (fun gq => gq ≤ s.cons.length ∧ (∀ x ∈ s.cons.take gq, okSub x)) (fun gq => s.cons.length - gq) (0) ?ok1 (Less.tn ⟨rfl, ⟨rfl, rfl, rfl, rfl, trivial⟩, ⟨rfl, rfl, trivial⟩⟩) ?bd1
        case ok1 =>
          try dsimp only
          exact ⟨Nat.zero_le _, take_nil⟩
        case bd1 =>
          intro i1 hi1
          try dsimp only at hi1
          show Aw _ _ _ ⟨105, [(7, sc (.int .i64 i1))] ++ [(2, _), (3, _), (4, _)], [] ++ [(3, _), (4, _)]⟩ _
          repeat (first | refine AwOps.nil ?_ | refine AwSch.nil ?_ | refine Aw.seq ?_ | refine Aw.region ?_ | refine Aw.block ?_ | refine Aw.skip ?_ | refine Aw.exit ?_ | refine Aw.condT rfl ?_ | refine Aw.condF rfl ?_)
          iterate 6 refine AwOps.v hT rfl ?_
          repeat (first | refine AwOps.nil ?_ | refine AwSch.nil ?_ | refine Aw.seq ?_ | refine Aw.region ?_ | refine Aw.block ?_ | refine Aw.skip ?_ | refine Aw.exit ?_ | refine Aw.condT rfl ?_ | refine Aw.condF rfl ?_)
          refine Aw.tst rfl (fun hb35 => ?_) (fun hb35 => ?_)
          · skip
            have hlt1 : i1 < s.cons.length := by simpa using hb35
            repeat (first | refine AwOps.nil ?_ | refine AwSch.nil ?_ | refine Aw.seq ?_ | refine Aw.region ?_ | refine Aw.block ?_ | refine Aw.skip ?_ | refine Aw.exit ?_ | refine Aw.condT rfl ?_ | refine Aw.condF rfl ?_)
            iterate 4 refine AwOps.v hT rfl ?_
            refine AwOps.im hT rfl hlt1 rfl ?_
            refine AwOps.v hT rfl ?_
            refine AwOps.v hT rfl ?_
            refine AwOps.cl (F29 _) [] rfl ⟨⟨rfl, rfl⟩, trivial⟩ trivial rfl ?_   -- certpathmade.ShortNames
            rintro _ _ ⟨b6, rfl, hs6⟩
            refine AwOps.v hT rfl ?_
            refine AwOps.v hT rfl ?_
            refine AwOps.split (t := 47) rfl (fun hb47 => ?_) (fun hb47 => ?_)
            · skip
              iterate 10 refine AwOps.v hT rfl ?_
              repeat (first | refine AwOps.nil ?_ | refine AwSch.nil ?_ | refine Aw.seq ?_ | refine Aw.region ?_ | refine Aw.block ?_ | refine Aw.skip ?_ | refine Aw.exit ?_ | refine Aw.condT rfl ?_ | refine Aw.condF rfl ?_)
              refine AwOps.cl (F22) [] rfl trivial trivial rfl ?_   -- certpathlaw30.awake
              rintro _ _ rfl
              refine AwOps.v hT rfl ?_
              repeat (first | refine AwOps.nil ?_ | refine AwSch.nil ?_ | refine Aw.seq ?_ | refine Aw.region ?_ | refine Aw.block ?_ | refine Aw.skip ?_ | refine Aw.exit ?_ | refine Aw.condT rfl ?_ | refine Aw.condF rfl ?_)
              refine Aw.ret ?_
              refine ⟨_, [], rfl, trivial, ?_⟩
              exact rfl
            · skip
              simp at hb47
              iterate 4 refine AwOps.v hT rfl ?_
              refine AwOps.im hT rfl hlt1 rfl ?_
              refine AwOps.v hT rfl ?_
              refine AwOps.v hT rfl ?_
              refine AwOps.cl (F29 _) [] rfl ⟨⟨rfl, rfl⟩, trivial⟩ trivial rfl ?_   -- certpathmade.ShortNames
              rintro _ _ ⟨b8, rfl, hs8⟩
              refine AwOps.v hT rfl ?_
              refine AwOps.v hT rfl ?_
              repeat (first | refine AwOps.nil ?_ | refine AwSch.nil ?_ | refine Aw.seq ?_ | refine Aw.region ?_ | refine Aw.block ?_ | refine Aw.skip ?_ | refine Aw.exit ?_ | refine Aw.condT rfl ?_ | refine Aw.condF rfl ?_)
              refine Aw.tst rfl (fun hb57 => ?_) (fun hb57 => ?_)
              · skip
                repeat (first | refine AwOps.nil ?_ | refine AwSch.nil ?_ | refine Aw.seq ?_ | refine Aw.region ?_ | refine Aw.block ?_ | refine Aw.skip ?_ | refine Aw.exit ?_ | refine Aw.condT rfl ?_ | refine Aw.condF rfl ?_)
                refine AwOps.cl (F22) [] rfl trivial trivial rfl ?_   -- certpathlaw30.awake
                rintro _ _ rfl
                refine AwOps.v hT rfl ?_
                repeat (first | refine AwOps.nil ?_ | refine AwSch.nil ?_ | refine Aw.seq ?_ | refine Aw.region ?_ | refine Aw.block ?_ | refine Aw.skip ?_ | refine Aw.exit ?_ | refine Aw.condT rfl ?_ | refine Aw.condF rfl ?_)
                refine Aw.ret ?_
                refine ⟨_, [], rfl, trivial, ?_⟩
                exact rfl
              · skip
                repeat (first | refine AwOps.nil ?_ | refine AwSch.nil ?_ | refine Aw.seq ?_ | refine Aw.region ?_ | refine Aw.block ?_ | refine Aw.skip ?_ | refine Aw.exit ?_ | refine Aw.condT rfl ?_ | refine Aw.condF rfl ?_)
                iterate 3 refine AwOps.v hT rfl ?_
                repeat (first | refine AwOps.nil ?_ | refine AwSch.nil ?_ | refine Aw.seq ?_ | refine Aw.region ?_ | refine Aw.block ?_ | refine Aw.skip ?_ | refine Aw.exit ?_ | refine Aw.condT rfl ?_ | refine Aw.condF rfl ?_)
                refine ⟨(i1 + 1), ?nx1, ?mu1, Less.tn ⟨rfl, ⟨incS hlt1 hB1, rfl, rfl, rfl, trivial⟩, ⟨rfl, rfl, trivial⟩⟩⟩
                case nx1 =>
                  try dsimp only
                  exact ⟨hlt1, take_step hlt1 hi1.2 ⟨by solve_by_elim, (by apply_assumption; simpa using hb57)⟩⟩
                case mu1 =>
                  try dsimp only
                  first | omega | (simp only [w64] at *; omega) | (simp [w64] at *; omega)
          · skip
            have hoi : okI i := by solve_by_elim
            have hp : okP s := ⟨by solve_by_elim, by omega, take_full hi1.2 (by simpa using hb35)⟩
            repeat (first | refine AwOps.nil ?_ | refine AwSch.nil ?_ | refine Aw.seq ?_ | refine Aw.region ?_ | refine Aw.block ?_ | refine Aw.skip ?_ | refine Aw.exit ?_ | refine Aw.condT rfl ?_ | refine Aw.condF rfl ?_)
            refine Aw.regionAny [8] (by kernel_rfl) ?_
            refine AwAny.tk (i := 2) (Yd.val hT rfl rfl) (by kernel_rfl) ?_
            refine AwAny.two (i := 0) (j := 4) (by kernel_rfl) ?_ ?_
            · skip
              refine Ed.cl (F25 _ (by first | omega | (simp only [w64] at *; omega) | (simp [w64] at *; omega))) [] rfl ⟨⟨rfl, rfl⟩, trivial⟩ trivial rfl rfl ?_   -- certpathmade.Authority
              rintro _ _ rfl
              refine AwAny.two (i := 1) (j := 4) (by kernel_rfl) ?_ ?_
              · skip
                refine Ed.cl (F25 _ (by first | omega | (simp only [w64] at *; omega) | (simp [w64] at *; omega))) [] rfl ⟨⟨rfl, rfl⟩, trivial⟩ trivial rfl rfl ?_   -- certpathmade.Authority
                rintro _ _ rfl
                refine AwAny.tk (i := 3) (Yd.build hT rfl) (by kernel_rfl) ?_
                refine AwAny.say (t := 62) (B := .agg [.v (.string ⟨#[]⟩), .v (.string ⟨#[]⟩), .v (.int .i64 0), _, _, .v (.int .i64 0), .v (.int .i64 0), .v (.int .i64 0), .v (.string ⟨#[]⟩), .v (.string ⟨#[]⟩), _, _, _, _, _, _, _, _, _, _, _, _, _, _, _, _, _, _, _, .v (.string ⟨#[]⟩)]) rfl rfl ?_
                refine AwAny.one (i := 4) (by kernel_rfl) ?_
                refine Ed.eff hT rfl (fun b hb => by cases hb) ?_
                refine AwAny.one (i := 5) (by kernel_rfl) ?_
                refine Ed.eff hT rfl (fun b hb => by injection hb with hb; subst hb; decide) ?_
                refine AwAny.done (by kernel_rfl) ?_
                repeat (first | refine AwOps.nil ?_ | refine AwSch.nil ?_ | refine Aw.seq ?_ | refine Aw.region ?_ | refine Aw.block ?_ | refine Aw.skip ?_ | refine Aw.exit ?_ | refine Aw.condT rfl ?_ | refine Aw.condF rfl ?_)
                refine AwOps.v hT rfl ?_
                repeat (first | refine AwOps.nil ?_ | refine AwSch.nil ?_ | refine Aw.seq ?_ | refine Aw.region ?_ | refine Aw.block ?_ | refine Aw.skip ?_ | refine Aw.exit ?_ | refine Aw.condT rfl ?_ | refine Aw.condF rfl ?_)
                refine Aw.joinQ (fun σ' => (True) ∧ Tn σ' ⟨105, [(3, .one (.ptr 3 0)), (8, .one (.ptr 8 0))], [(3, .box ⟨45, ePr s, []⟩), (8, .box ⟨58, eCert (cA self' i), []⟩)]⟩) ?_ (fun _ hj => ?_)
                · skip
                  repeat (first | refine AwOps.nil ?_ | refine AwSch.nil ?_ | refine Aw.seq ?_ | refine Aw.region ?_ | refine Aw.block ?_ | refine Aw.skip ?_ | refine Aw.exit ?_ | refine Aw.condT rfl ?_ | refine Aw.condF rfl ?_)
                  refine Aw.tst rfl (fun hb63 => ?_) (fun hb63 => ?_)
                  · skip
                    repeat (first | refine AwOps.nil ?_ | refine AwSch.nil ?_ | refine Aw.seq ?_ | refine Aw.region ?_ | refine Aw.block ?_ | refine Aw.skip ?_ | refine Aw.exit ?_ | refine Aw.condT rfl ?_ | refine Aw.condF rfl ?_)
                    refine AwOps.cl (F25 _ (by first | omega | (simp only [w64] at *; omega) | (simp [w64] at *; omega))) [] rfl ⟨⟨rfl, rfl⟩, trivial⟩ trivial rfl ?_   -- certpathmade.Authority
                    rintro _ _ rfl
                    refine AwOps.v hT rfl ?_
                    refine AwOps.eff hT rfl ?_
                    repeat (first | refine AwOps.nil ?_ | refine AwSch.nil ?_ | refine Aw.seq ?_ | refine Aw.region ?_ | refine Aw.block ?_ | refine Aw.skip ?_ | refine Aw.exit ?_ | refine Aw.condT rfl ?_ | refine Aw.condF rfl ?_)
                    exact ⟨trivial, Less.tn ⟨rfl, ⟨rfl, rfl, trivial⟩, ⟨rfl, (by rw [hb63]; rfl), trivial⟩⟩⟩
                  · skip
                    repeat (first | refine AwOps.nil ?_ | refine AwSch.nil ?_ | refine Aw.seq ?_ | refine Aw.region ?_ | refine Aw.block ?_ | refine Aw.skip ?_ | refine Aw.exit ?_ | refine Aw.condT rfl ?_ | refine Aw.condF rfl ?_)
                    exact ⟨trivial, Less.tn ⟨rfl, ⟨rfl, rfl, trivial⟩, ⟨rfl, (by rw [hb63]; rfl), trivial⟩⟩⟩
                · skip
                  refine Aw.turn hj.2 ?_
                  repeat (first | refine AwOps.nil ?_ | refine AwSch.nil ?_ | refine Aw.seq ?_ | refine Aw.region ?_ | refine Aw.block ?_ | refine Aw.skip ?_ | refine Aw.exit ?_ | refine Aw.condT rfl ?_ | refine Aw.condF rfl ?_)
                  refine AwOps.v hT rfl ?_
                  refine AwOps.v hT rfl ?_
                  refine AwOps.cl (F23 s (cA self' i) hp (okNm_auth _).1 (by cases self' <;> exact (okNm_auth _).1) hoi (by cases self' <;> exact okNm_auth _)) [] rfl ⟨⟨rfl, rfl⟩, ⟨rfl, rfl⟩, trivial⟩ trivial rfl ?_   -- step.Leave
                  rintro _ _ rfl
                  iterate 3 refine AwOps.v hT rfl ?_
                  refine AwOps.eff hT rfl ?_
                  refine AwOps.eff hT rfl ?_
                  refine AwOps.v hT rfl ?_
                  repeat (first | refine AwOps.nil ?_ | refine AwSch.nil ?_ | refine Aw.seq ?_ | refine Aw.region ?_ | refine Aw.block ?_ | refine Aw.skip ?_ | refine Aw.exit ?_ | refine Aw.condT rfl ?_ | refine Aw.condF rfl ?_)
                  refine AwOps.v hT rfl ?_
                  refine AwOps.v hT rfl ?_
                  refine AwOps.cl (F24 s (cA self' i) hp (okNm_auth _).1 (by cases self' <;> exact (okNm_auth _).1) hoi) [] rfl ⟨⟨rfl, rfl⟩, ⟨rfl, rfl⟩, trivial⟩ trivial rfl ?_   -- certpathref30.Leave
                  rintro _ _ rfl
                  iterate 3 refine AwOps.v hT rfl ?_
                  refine AwOps.eff hT rfl ?_
                  refine AwOps.eff hT rfl ?_
                  refine AwOps.v hT rfl ?_
                  repeat (first | refine AwOps.nil ?_ | refine AwSch.nil ?_ | refine Aw.seq ?_ | refine Aw.region ?_ | refine Aw.block ?_ | refine Aw.skip ?_ | refine Aw.exit ?_ | refine Aw.condT rfl ?_ | refine Aw.condF rfl ?_)
                  refine Aw.regionS [] [(true, 0), (true, 1), (true, 2), (true, 3), (true, 4), (true, 5), (false, 6), (true, 7), (true, 8), (true, 9), (true, 11), (false, 10), (false, 12), (true, 13), (true, 14), (true, 15), (true, 16), (true, 17), (true, 19), (true, 20), (false, 18), (false, 21), (true, 22), (true, 23), (true, 24), (false, 25), (true, 26), (true, 27)] (by kernel_rfl) (by kernel_rfl) ?_
                  iterate 3 refine AwSch.take (Yd.val hT rfl rfl) ?_
                  refine AwSch.say (t := 80) (B := sc (.bool true)) rfl (by simp) ?_
                  iterate 3 refine AwSch.take (Yd.val hT rfl rfl) ?_
                  refine AwSch.one ?_
                  refine Ed.cl (F12 _ (cons_le' hp)) [] rfl ⟨⟨rfl, rfl⟩, ⟨rfl, rfl⟩, trivial⟩ trivial rfl rfl ?_   -- certpathlaw30.sameProgress
                  rintro _ _ rfl
                  iterate 4 refine AwSch.take (Yd.val hT rfl rfl) ?_
                  refine AwSch.one ?_
                  refine Ed.cl (F30 (cA self' i)) [] rfl ⟨⟨rfl, rfl⟩, trivial⟩ trivial rfl rfl ?_   -- step.Critical
                  rintro _ _ rfl
                  refine AwSch.one ?_
                  refine Ed.cl (F31 (cA self' i)) [] rfl ⟨⟨rfl, rfl⟩, trivial⟩ trivial rfl rfl ?_   -- certpathref30.Critical
                  rintro _ _ rfl
                  refine AwSch.take (Yd.val hT rfl rfl) ?_
                  refine AwSch.say (t := 91) (B := sc (.bool true)) rfl (by simp) ?_
                  iterate 6 refine AwSch.take (Yd.val hT rfl rfl) ?_
                  refine AwSch.one ?_
                  refine Ed.cl (F26 s (cA self' i)) [] rfl ⟨⟨rfl, rfl⟩, ⟨rfl, rfl⟩, trivial⟩ trivial rfl rfl ?_   -- step.Final
                  rintro _ _ rfl
                  refine AwSch.one ?_
                  refine Ed.cl (F32 s (cA self' i)) [] rfl ⟨⟨rfl, rfl⟩, ⟨rfl, rfl⟩, trivial⟩ trivial rfl rfl ?_   -- certpathref30.Final
                  rintro _ _ rfl
                  refine AwSch.take (Yd.val hT rfl rfl) ?_
                  refine AwSch.say (t := 100) (B := sc (.bool true)) rfl (by simp) ?_
                  refine AwSch.take (Yd.val hT rfl rfl) ?_
                  refine AwSch.take (Yd.val hT rfl rfl) ?_
                  refine AwSch.one ?_
                  refine Ed.cl (F22) [] rfl trivial trivial rfl rfl ?_   -- certpathlaw30.awake
                  rintro _ _ rfl
                  refine AwSch.take (Yd.val hT rfl rfl) ?_
                  refine AwSch.take (Yd.val hT rfl rfl) ?_
                  repeat (first | refine AwOps.nil ?_ | refine AwSch.nil ?_ | refine Aw.seq ?_ | refine Aw.region ?_ | refine Aw.block ?_ | refine Aw.skip ?_ | refine Aw.exit ?_ | refine Aw.condT rfl ?_ | refine Aw.condF rfl ?_)
                  refine Aw.ret ?_
                  refine ⟨_, [], rfl, trivial, ?_⟩
                  exact rfl
              · skip
                refine Ed.eff hT rfl (fun b hb => by cases hb) ?_
                refine AwAny.one (i := 1) (by kernel_rfl) ?_
                refine Ed.cl (F25 _ (by first | omega | (simp only [w64] at *; omega) | (simp [w64] at *; omega))) [] rfl ⟨⟨rfl, rfl⟩, trivial⟩ trivial rfl rfl ?_   -- certpathmade.Authority
                rintro _ _ rfl
                refine AwAny.tk (i := 3) (Yd.build hT rfl) (by kernel_rfl) ?_
                refine AwAny.say (t := 62) (B := .agg [.v (.string ⟨#[]⟩), .v (.string ⟨#[]⟩), .v (.int .i64 0), _, _, .v (.int .i64 0), .v (.int .i64 0), .v (.int .i64 0), .v (.string ⟨#[]⟩), .v (.string ⟨#[]⟩), _, _, _, _, _, _, _, _, _, _, _, _, _, _, _, _, _, _, _, .v (.string ⟨#[]⟩)]) rfl rfl ?_
                refine AwAny.one (i := 5) (by kernel_rfl) ?_
                refine Ed.eff hT rfl (fun b hb => by injection hb with hb; subst hb; decide) ?_
                refine AwAny.done (by kernel_rfl) ?_
                repeat (first | refine AwOps.nil ?_ | refine AwSch.nil ?_ | refine Aw.seq ?_ | refine Aw.region ?_ | refine Aw.block ?_ | refine Aw.skip ?_ | refine Aw.exit ?_ | refine Aw.condT rfl ?_ | refine Aw.condF rfl ?_)
                refine AwOps.v hT rfl ?_
                repeat (first | refine AwOps.nil ?_ | refine AwSch.nil ?_ | refine Aw.seq ?_ | refine Aw.region ?_ | refine Aw.block ?_ | refine Aw.skip ?_ | refine Aw.exit ?_ | refine Aw.condT rfl ?_ | refine Aw.condF rfl ?_)
                refine Aw.joinQ (fun σ' => (True) ∧ Tn σ' ⟨105, [(3, .one (.ptr 3 0)), (8, .one (.ptr 8 0))], [(3, .box ⟨45, ePr s, []⟩), (8, .box ⟨58, eCert (cA self' i), []⟩)]⟩) ?_ (fun _ hj => ?_)
                · skip
                  repeat (first | refine AwOps.nil ?_ | refine AwSch.nil ?_ | refine Aw.seq ?_ | refine Aw.region ?_ | refine Aw.block ?_ | refine Aw.skip ?_ | refine Aw.exit ?_ | refine Aw.condT rfl ?_ | refine Aw.condF rfl ?_)
                  refine Aw.tst rfl (fun hb63 => ?_) (fun hb63 => ?_)
                  · skip
                    repeat (first | refine AwOps.nil ?_ | refine AwSch.nil ?_ | refine Aw.seq ?_ | refine Aw.region ?_ | refine Aw.block ?_ | refine Aw.skip ?_ | refine Aw.exit ?_ | refine Aw.condT rfl ?_ | refine Aw.condF rfl ?_)
                    refine AwOps.cl (F25 _ (by first | omega | (simp only [w64] at *; omega) | (simp [w64] at *; omega))) [] rfl ⟨⟨rfl, rfl⟩, trivial⟩ trivial rfl ?_   -- certpathmade.Authority
                    rintro _ _ rfl
                    refine AwOps.v hT rfl ?_
                    refine AwOps.eff hT rfl ?_
                    repeat (first | refine AwOps.nil ?_ | refine AwSch.nil ?_ | refine Aw.seq ?_ | refine Aw.region ?_ | refine Aw.block ?_ | refine Aw.skip ?_ | refine Aw.exit ?_ | refine Aw.condT rfl ?_ | refine Aw.condF rfl ?_)
                    exact ⟨trivial, Less.tn ⟨rfl, ⟨rfl, rfl, trivial⟩, ⟨rfl, (by rw [hb63]; rfl), trivial⟩⟩⟩
                  · skip
                    repeat (first | refine AwOps.nil ?_ | refine AwSch.nil ?_ | refine Aw.seq ?_ | refine Aw.region ?_ | refine Aw.block ?_ | refine Aw.skip ?_ | refine Aw.exit ?_ | refine Aw.condT rfl ?_ | refine Aw.condF rfl ?_)
                    exact ⟨trivial, Less.tn ⟨rfl, ⟨rfl, rfl, trivial⟩, ⟨rfl, (by rw [hb63]; rfl), trivial⟩⟩⟩
                · skip
                  refine Aw.turn hj.2 ?_
                  repeat (first | refine AwOps.nil ?_ | refine AwSch.nil ?_ | refine Aw.seq ?_ | refine Aw.region ?_ | refine Aw.block ?_ | refine Aw.skip ?_ | refine Aw.exit ?_ | refine Aw.condT rfl ?_ | refine Aw.condF rfl ?_)
                  refine AwOps.v hT rfl ?_
                  refine AwOps.v hT rfl ?_
                  refine AwOps.cl (F23 s (cA self' i) hp (okNm_auth _).1 (by cases self' <;> exact (okNm_auth _).1) hoi (by cases self' <;> exact okNm_auth _)) [] rfl ⟨⟨rfl, rfl⟩, ⟨rfl, rfl⟩, trivial⟩ trivial rfl ?_   -- step.Leave
                  rintro _ _ rfl
                  iterate 3 refine AwOps.v hT rfl ?_
                  refine AwOps.eff hT rfl ?_
                  refine AwOps.eff hT rfl ?_
                  refine AwOps.v hT rfl ?_
                  repeat (first | refine AwOps.nil ?_ | refine AwSch.nil ?_ | refine Aw.seq ?_ | refine Aw.region ?_ | refine Aw.block ?_ | refine Aw.skip ?_ | refine Aw.exit ?_ | refine Aw.condT rfl ?_ | refine Aw.condF rfl ?_)
                  refine AwOps.v hT rfl ?_
                  refine AwOps.v hT rfl ?_
                  refine AwOps.cl (F24 s (cA self' i) hp (okNm_auth _).1 (by cases self' <;> exact (okNm_auth _).1) hoi) [] rfl ⟨⟨rfl, rfl⟩, ⟨rfl, rfl⟩, trivial⟩ trivial rfl ?_   -- certpathref30.Leave
                  rintro _ _ rfl
                  iterate 3 refine AwOps.v hT rfl ?_
                  refine AwOps.eff hT rfl ?_
                  refine AwOps.eff hT rfl ?_
                  refine AwOps.v hT rfl ?_
                  repeat (first | refine AwOps.nil ?_ | refine AwSch.nil ?_ | refine Aw.seq ?_ | refine Aw.region ?_ | refine Aw.block ?_ | refine Aw.skip ?_ | refine Aw.exit ?_ | refine Aw.condT rfl ?_ | refine Aw.condF rfl ?_)
                  refine Aw.regionS [] [(true, 0), (true, 1), (true, 2), (true, 3), (true, 4), (true, 5), (false, 6), (true, 7), (true, 8), (true, 9), (true, 11), (false, 10), (false, 12), (true, 13), (true, 14), (true, 15), (true, 16), (true, 17), (true, 19), (true, 20), (false, 18), (false, 21), (true, 22), (true, 23), (true, 24), (false, 25), (true, 26), (true, 27)] (by kernel_rfl) (by kernel_rfl) ?_
                  iterate 3 refine AwSch.take (Yd.val hT rfl rfl) ?_
                  refine AwSch.say (t := 80) (B := sc (.bool true)) rfl (by simp) ?_
                  iterate 3 refine AwSch.take (Yd.val hT rfl rfl) ?_
                  refine AwSch.one ?_
                  refine Ed.cl (F12 _ (cons_le' hp)) [] rfl ⟨⟨rfl, rfl⟩, ⟨rfl, rfl⟩, trivial⟩ trivial rfl rfl ?_   -- certpathlaw30.sameProgress
                  rintro _ _ rfl
                  iterate 4 refine AwSch.take (Yd.val hT rfl rfl) ?_
                  refine AwSch.one ?_
                  refine Ed.cl (F30 (cA self' i)) [] rfl ⟨⟨rfl, rfl⟩, trivial⟩ trivial rfl rfl ?_   -- step.Critical
                  rintro _ _ rfl
                  refine AwSch.one ?_
                  refine Ed.cl (F31 (cA self' i)) [] rfl ⟨⟨rfl, rfl⟩, trivial⟩ trivial rfl rfl ?_   -- certpathref30.Critical
                  rintro _ _ rfl
                  refine AwSch.take (Yd.val hT rfl rfl) ?_
                  refine AwSch.say (t := 91) (B := sc (.bool true)) rfl (by simp) ?_
                  iterate 6 refine AwSch.take (Yd.val hT rfl rfl) ?_
                  refine AwSch.one ?_
                  refine Ed.cl (F26 s (cA self' i)) [] rfl ⟨⟨rfl, rfl⟩, ⟨rfl, rfl⟩, trivial⟩ trivial rfl rfl ?_   -- step.Final
                  rintro _ _ rfl
                  refine AwSch.one ?_
                  refine Ed.cl (F32 s (cA self' i)) [] rfl ⟨⟨rfl, rfl⟩, ⟨rfl, rfl⟩, trivial⟩ trivial rfl rfl ?_   -- certpathref30.Final
                  rintro _ _ rfl
                  refine AwSch.take (Yd.val hT rfl rfl) ?_
                  refine AwSch.say (t := 100) (B := sc (.bool true)) rfl (by simp) ?_
                  refine AwSch.take (Yd.val hT rfl rfl) ?_
                  refine AwSch.take (Yd.val hT rfl rfl) ?_
                  refine AwSch.one ?_
                  refine Ed.cl (F22) [] rfl trivial trivial rfl rfl ?_   -- certpathlaw30.awake
                  rintro _ _ rfl
                  refine AwSch.take (Yd.val hT rfl rfl) ?_
                  refine AwSch.take (Yd.val hT rfl rfl) ?_
                  repeat (first | refine AwOps.nil ?_ | refine AwSch.nil ?_ | refine Aw.seq ?_ | refine Aw.region ?_ | refine Aw.block ?_ | refine Aw.skip ?_ | refine Aw.exit ?_ | refine Aw.condT rfl ?_ | refine Aw.condF rfl ?_)
                  refine Aw.ret ?_
                  refine ⟨_, [], rfl, trivial, ?_⟩
                  exact rfl
            · skip
              refine Ed.eff hT rfl (fun b hb => by cases hb) ?_
              refine AwAny.one (i := 0) (by kernel_rfl) ?_
              refine Ed.cl (F25 _ (by first | omega | (simp only [w64] at *; omega) | (simp [w64] at *; omega))) [] rfl ⟨⟨rfl, rfl⟩, trivial⟩ trivial rfl rfl ?_   -- certpathmade.Authority
              rintro _ _ rfl
              refine AwAny.one (i := 1) (by kernel_rfl) ?_
              refine Ed.cl (F25 _ (by first | omega | (simp only [w64] at *; omega) | (simp [w64] at *; omega))) [] rfl ⟨⟨rfl, rfl⟩, trivial⟩ trivial rfl rfl ?_   -- certpathmade.Authority
              rintro _ _ rfl
              refine AwAny.tk (i := 3) (Yd.build hT rfl) (by kernel_rfl) ?_
              refine AwAny.say (t := 62) (B := .agg [.v (.string ⟨#[]⟩), .v (.string ⟨#[]⟩), .v (.int .i64 0), _, _, .v (.int .i64 0), .v (.int .i64 0), .v (.int .i64 0), .v (.string ⟨#[]⟩), .v (.string ⟨#[]⟩), _, _, _, _, _, _, _, _, _, _, _, _, _, _, _, _, _, _, _, .v (.string ⟨#[]⟩)]) rfl rfl ?_
              refine AwAny.one (i := 5) (by kernel_rfl) ?_
              refine Ed.eff hT rfl (fun b hb => by injection hb with hb; subst hb; decide) ?_
              refine AwAny.done (by kernel_rfl) ?_
              repeat (first | refine AwOps.nil ?_ | refine AwSch.nil ?_ | refine Aw.seq ?_ | refine Aw.region ?_ | refine Aw.block ?_ | refine Aw.skip ?_ | refine Aw.exit ?_ | refine Aw.condT rfl ?_ | refine Aw.condF rfl ?_)
              refine AwOps.v hT rfl ?_
              repeat (first | refine AwOps.nil ?_ | refine AwSch.nil ?_ | refine Aw.seq ?_ | refine Aw.region ?_ | refine Aw.block ?_ | refine Aw.skip ?_ | refine Aw.exit ?_ | refine Aw.condT rfl ?_ | refine Aw.condF rfl ?_)
              refine Aw.joinQ (fun σ' => (True) ∧ Tn σ' ⟨105, [(3, .one (.ptr 3 0)), (8, .one (.ptr 8 0))], [(3, .box ⟨45, ePr s, []⟩), (8, .box ⟨58, eCert (cA self' i), []⟩)]⟩) ?_ (fun _ hj => ?_)
              · skip
                repeat (first | refine AwOps.nil ?_ | refine AwSch.nil ?_ | refine Aw.seq ?_ | refine Aw.region ?_ | refine Aw.block ?_ | refine Aw.skip ?_ | refine Aw.exit ?_ | refine Aw.condT rfl ?_ | refine Aw.condF rfl ?_)
                refine Aw.tst rfl (fun hb63 => ?_) (fun hb63 => ?_)
                · skip
                  repeat (first | refine AwOps.nil ?_ | refine AwSch.nil ?_ | refine Aw.seq ?_ | refine Aw.region ?_ | refine Aw.block ?_ | refine Aw.skip ?_ | refine Aw.exit ?_ | refine Aw.condT rfl ?_ | refine Aw.condF rfl ?_)
                  refine AwOps.cl (F25 _ (by first | omega | (simp only [w64] at *; omega) | (simp [w64] at *; omega))) [] rfl ⟨⟨rfl, rfl⟩, trivial⟩ trivial rfl ?_   -- certpathmade.Authority
                  rintro _ _ rfl
                  refine AwOps.v hT rfl ?_
                  refine AwOps.eff hT rfl ?_
                  repeat (first | refine AwOps.nil ?_ | refine AwSch.nil ?_ | refine Aw.seq ?_ | refine Aw.region ?_ | refine Aw.block ?_ | refine Aw.skip ?_ | refine Aw.exit ?_ | refine Aw.condT rfl ?_ | refine Aw.condF rfl ?_)
                  exact ⟨trivial, Less.tn ⟨rfl, ⟨rfl, rfl, trivial⟩, ⟨rfl, (by rw [hb63]; rfl), trivial⟩⟩⟩
                · skip
                  repeat (first | refine AwOps.nil ?_ | refine AwSch.nil ?_ | refine Aw.seq ?_ | refine Aw.region ?_ | refine Aw.block ?_ | refine Aw.skip ?_ | refine Aw.exit ?_ | refine Aw.condT rfl ?_ | refine Aw.condF rfl ?_)
                  exact ⟨trivial, Less.tn ⟨rfl, ⟨rfl, rfl, trivial⟩, ⟨rfl, (by rw [hb63]; rfl), trivial⟩⟩⟩
              · skip
                refine Aw.turn hj.2 ?_
                repeat (first | refine AwOps.nil ?_ | refine AwSch.nil ?_ | refine Aw.seq ?_ | refine Aw.region ?_ | refine Aw.block ?_ | refine Aw.skip ?_ | refine Aw.exit ?_ | refine Aw.condT rfl ?_ | refine Aw.condF rfl ?_)
                refine AwOps.v hT rfl ?_
                refine AwOps.v hT rfl ?_
                refine AwOps.cl (F23 s (cA self' i) hp (okNm_auth _).1 (by cases self' <;> exact (okNm_auth _).1) hoi (by cases self' <;> exact okNm_auth _)) [] rfl ⟨⟨rfl, rfl⟩, ⟨rfl, rfl⟩, trivial⟩ trivial rfl ?_   -- step.Leave
                rintro _ _ rfl
                iterate 3 refine AwOps.v hT rfl ?_
                refine AwOps.eff hT rfl ?_
                refine AwOps.eff hT rfl ?_
                refine AwOps.v hT rfl ?_
                repeat (first | refine AwOps.nil ?_ | refine AwSch.nil ?_ | refine Aw.seq ?_ | refine Aw.region ?_ | refine Aw.block ?_ | refine Aw.skip ?_ | refine Aw.exit ?_ | refine Aw.condT rfl ?_ | refine Aw.condF rfl ?_)
                refine AwOps.v hT rfl ?_
                refine AwOps.v hT rfl ?_
                refine AwOps.cl (F24 s (cA self' i) hp (okNm_auth _).1 (by cases self' <;> exact (okNm_auth _).1) hoi) [] rfl ⟨⟨rfl, rfl⟩, ⟨rfl, rfl⟩, trivial⟩ trivial rfl ?_   -- certpathref30.Leave
                rintro _ _ rfl
                iterate 3 refine AwOps.v hT rfl ?_
                refine AwOps.eff hT rfl ?_
                refine AwOps.eff hT rfl ?_
                refine AwOps.v hT rfl ?_
                repeat (first | refine AwOps.nil ?_ | refine AwSch.nil ?_ | refine Aw.seq ?_ | refine Aw.region ?_ | refine Aw.block ?_ | refine Aw.skip ?_ | refine Aw.exit ?_ | refine Aw.condT rfl ?_ | refine Aw.condF rfl ?_)
                refine Aw.regionS [] [(true, 0), (true, 1), (true, 2), (true, 3), (true, 4), (true, 5), (false, 6), (true, 7), (true, 8), (true, 9), (true, 11), (false, 10), (false, 12), (true, 13), (true, 14), (true, 15), (true, 16), (true, 17), (true, 19), (true, 20), (false, 18), (false, 21), (true, 22), (true, 23), (true, 24), (false, 25), (true, 26), (true, 27)] (by kernel_rfl) (by kernel_rfl) ?_
                iterate 3 refine AwSch.take (Yd.val hT rfl rfl) ?_
                refine AwSch.say (t := 80) (B := sc (.bool true)) rfl (by simp) ?_
                iterate 3 refine AwSch.take (Yd.val hT rfl rfl) ?_
                refine AwSch.one ?_
                refine Ed.cl (F12 _ (cons_le' hp)) [] rfl ⟨⟨rfl, rfl⟩, ⟨rfl, rfl⟩, trivial⟩ trivial rfl rfl ?_   -- certpathlaw30.sameProgress
                rintro _ _ rfl
                iterate 4 refine AwSch.take (Yd.val hT rfl rfl) ?_
                refine AwSch.one ?_
                refine Ed.cl (F30 (cA self' i)) [] rfl ⟨⟨rfl, rfl⟩, trivial⟩ trivial rfl rfl ?_   -- step.Critical
                rintro _ _ rfl
                refine AwSch.one ?_
                refine Ed.cl (F31 (cA self' i)) [] rfl ⟨⟨rfl, rfl⟩, trivial⟩ trivial rfl rfl ?_   -- certpathref30.Critical
                rintro _ _ rfl
                refine AwSch.take (Yd.val hT rfl rfl) ?_
                refine AwSch.say (t := 91) (B := sc (.bool true)) rfl (by simp) ?_
                iterate 6 refine AwSch.take (Yd.val hT rfl rfl) ?_
                refine AwSch.one ?_
                refine Ed.cl (F26 s (cA self' i)) [] rfl ⟨⟨rfl, rfl⟩, ⟨rfl, rfl⟩, trivial⟩ trivial rfl rfl ?_   -- step.Final
                rintro _ _ rfl
                refine AwSch.one ?_
                refine Ed.cl (F32 s (cA self' i)) [] rfl ⟨⟨rfl, rfl⟩, ⟨rfl, rfl⟩, trivial⟩ trivial rfl rfl ?_   -- certpathref30.Final
                rintro _ _ rfl
                refine AwSch.take (Yd.val hT rfl rfl) ?_
                refine AwSch.say (t := 100) (B := sc (.bool true)) rfl (by simp) ?_
                refine AwSch.take (Yd.val hT rfl rfl) ?_
                refine AwSch.take (Yd.val hT rfl rfl) ?_
                refine AwSch.one ?_
                refine Ed.cl (F22) [] rfl trivial trivial rfl rfl ?_   -- certpathlaw30.awake
                rintro _ _ rfl
                refine AwSch.take (Yd.val hT rfl rfl) ?_
                refine AwSch.take (Yd.val hT rfl rfl) ?_
                repeat (first | refine AwOps.nil ?_ | refine AwSch.nil ?_ | refine Aw.seq ?_ | refine Aw.region ?_ | refine Aw.block ?_ | refine Aw.skip ?_ | refine Aw.exit ?_ | refine Aw.condT rfl ?_ | refine Aw.condF rfl ?_)
                refine Aw.ret ?_
                refine ⟨_, [], rfl, trivial, ?_⟩
                exact rfl
end Go.Proofs.Ythhjfcmkelmobaa.Aw
