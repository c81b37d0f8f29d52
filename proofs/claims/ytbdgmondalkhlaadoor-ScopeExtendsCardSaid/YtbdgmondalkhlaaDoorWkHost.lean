
/- The walks of the reference's functions over DNS names, mail addresses, addresses: exact.
   Conditions: none. -/
import Derived.Test.YtbdgmondalkhlaaDoorWkMade
import Derived.Laws.Strings
namespace Go.Proofs.YtbdgmondalkhlaaDoor.Aw
open Go
set_option maxRecDepth 100000
set_option maxHeartbeats 4000000
set_option linter.unusedSimpArgs false
set_option linter.unusedVariables false

def alnumI (c : Int) : Bool := (decide (c ≥ 65) && decide (c ≤ 90)) || ((decide (c ≥ 97) && decide (c ≤ 122)) || (decide (c ≥ 48) && decide (c ≤ 57)))
def amongB (c : Int) (l : ByteArray) : Bool := (List.range l.size).any fun i => bt l i == c
theorem rany_next {p : Nat → Bool} {i : Nat} (h : (List.range i).any p = false) (hx : p i = false) : (List.range (i + 1)).any p = false := by
  rw [List.range_succ, List.any_append, h]
  simp [hx]
theorem rany_hit {p : Nat → Bool} {i n : Nat} (h : i < n) (hx : p i = true) : (List.range n).any p = true := List.any_eq_true.2 ⟨i, List.mem_range.2 h, hx⟩
theorem ltn {i n : Nat} (h : decide ((i : Int) < (n : Int)) = true) : i < n := by have := of_decide_eq_true h; omega
theorem gen {i n : Nat} (h : decide ((i : Int) < (n : Int)) = false) : n ≤ i := by have := of_decide_eq_false h; omega
-- f149 certpath/certpathref01.Alnum
theorem F149 (c : Int) : Fn Tryd.prog 87 [.pv (sc (.int .u8 c))] [] (fun r _ => r = sc (.bool (alnumI c))) := by
  refine Fn.intro (rs := [.tmp 2]) hT Tryd.func87 (by kernel_rfl) rfl rfl rfl rfl fun C => ?_
  refine Aw.seq (Aw.region ?_)
  refine AwOps.v hT rfl ?_
  refine AwOps.nil (Aw.seq (Aw.region ?_))
  iterate 3 refine AwOps.v hT rfl ?_
  refine AwOps.split (t := 5) rfl (fun hb5 => ?_) (fun hb5 => ?_)
  · skip
    iterate 4 refine AwOps.v hT rfl ?_
    refine AwOps.split (t := 9) rfl (fun hb9 => ?_) (fun hb9 => ?_)
    · skip
      iterate 16 refine AwOps.v hT rfl ?_
      refine AwOps.nil ?_
      refine Aw.ret ?_
      refine ⟨_, [], rfl, trivial, ?_⟩
      exact scb (by simp only [alnumI, *, Bool.true_and, Bool.false_and, Bool.true_or, Bool.false_or, Bool.or_true, Bool.and_true, Bool.or_false, Bool.and_false])
    · skip
      iterate 3 refine AwOps.v hT rfl ?_
      refine AwOps.split (t := 12) rfl (fun hb12 => ?_) (fun hb12 => ?_)
      · skip
        iterate 5 refine AwOps.v hT rfl ?_
        refine AwOps.split (t := 17) rfl (fun hb17 => ?_) (fun hb17 => ?_)
        · skip
          iterate 8 refine AwOps.v hT rfl ?_
          refine AwOps.nil ?_
          refine Aw.ret ?_
          refine ⟨_, [], rfl, trivial, ?_⟩
          exact scb (by simp only [alnumI, *, Bool.true_and, Bool.false_and, Bool.true_or, Bool.false_or, Bool.or_true, Bool.and_true, Bool.or_false, Bool.and_false])
        · skip
          iterate 3 refine AwOps.v hT rfl ?_
          refine AwOps.split (t := 20) rfl (fun hb20 => ?_) (fun hb20 => ?_)
          · skip
            iterate 5 refine AwOps.v hT rfl ?_
            refine AwOps.nil ?_
            refine Aw.ret ?_
            refine ⟨_, [], rfl, trivial, ?_⟩
            exact scb (by simp only [alnumI, *, Bool.true_and, Bool.false_and, Bool.true_or, Bool.false_or, Bool.or_true, Bool.and_true, Bool.or_false, Bool.and_false])
          · skip
            iterate 5 refine AwOps.v hT rfl ?_
            refine AwOps.nil ?_
            refine Aw.ret ?_
            refine ⟨_, [], rfl, trivial, ?_⟩
            exact scb (by simp only [alnumI, *, Bool.true_and, Bool.false_and, Bool.true_or, Bool.false_or, Bool.or_true, Bool.and_true, Bool.or_false, Bool.and_false])
      · skip
        iterate 8 refine AwOps.v hT rfl ?_
        refine AwOps.split (t := 20) rfl (fun hb20 => ?_) (fun hb20 => ?_)
        · skip
          iterate 5 refine AwOps.v hT rfl ?_
          refine AwOps.nil ?_
          refine Aw.ret ?_
          refine ⟨_, [], rfl, trivial, ?_⟩
          exact scb (by simp only [alnumI, *, Bool.true_and, Bool.false_and, Bool.true_or, Bool.false_or, Bool.or_true, Bool.and_true, Bool.or_false, Bool.and_false])
        · skip
          iterate 5 refine AwOps.v hT rfl ?_
          refine AwOps.nil ?_
          refine Aw.ret ?_
          refine ⟨_, [], rfl, trivial, ?_⟩
          exact scb (by simp only [alnumI, *, Bool.true_and, Bool.false_and, Bool.true_or, Bool.false_or, Bool.or_true, Bool.and_true, Bool.or_false, Bool.and_false])
  · skip
    iterate 7 refine AwOps.v hT rfl ?_
    refine AwOps.split (t := 12) rfl (fun hb12 => ?_) (fun hb12 => ?_)
    · skip
      iterate 5 refine AwOps.v hT rfl ?_
      refine AwOps.split (t := 17) rfl (fun hb17 => ?_) (fun hb17 => ?_)
      · skip
        iterate 8 refine AwOps.v hT rfl ?_
        refine AwOps.nil ?_
        refine Aw.ret ?_
        refine ⟨_, [], rfl, trivial, ?_⟩
        exact scb (by simp only [alnumI, *, Bool.true_and, Bool.false_and, Bool.true_or, Bool.false_or, Bool.or_true, Bool.and_true, Bool.or_false, Bool.and_false])
      · skip
        iterate 3 refine AwOps.v hT rfl ?_
        refine AwOps.split (t := 20) rfl (fun hb20 => ?_) (fun hb20 => ?_)
        · skip
          iterate 5 refine AwOps.v hT rfl ?_
          refine AwOps.nil ?_
          refine Aw.ret ?_
          refine ⟨_, [], rfl, trivial, ?_⟩
          exact scb (by simp only [alnumI, *, Bool.true_and, Bool.false_and, Bool.true_or, Bool.false_or, Bool.or_true, Bool.and_true, Bool.or_false, Bool.and_false])
        · skip
          iterate 5 refine AwOps.v hT rfl ?_
          refine AwOps.nil ?_
          refine Aw.ret ?_
          refine ⟨_, [], rfl, trivial, ?_⟩
          exact scb (by simp only [alnumI, *, Bool.true_and, Bool.false_and, Bool.true_or, Bool.false_or, Bool.or_true, Bool.and_true, Bool.or_false, Bool.and_false])
    · skip
      iterate 8 refine AwOps.v hT rfl ?_
      refine AwOps.split (t := 20) rfl (fun hb20 => ?_) (fun hb20 => ?_)
      · skip
        iterate 5 refine AwOps.v hT rfl ?_
        refine AwOps.nil ?_
        refine Aw.ret ?_
        refine ⟨_, [], rfl, trivial, ?_⟩
        exact scb (by simp only [alnumI, *, Bool.true_and, Bool.false_and, Bool.true_or, Bool.false_or, Bool.or_true, Bool.and_true, Bool.or_false, Bool.and_false])
      · skip
        iterate 5 refine AwOps.v hT rfl ?_
        refine AwOps.nil ?_
        refine Aw.ret ?_
        refine ⟨_, [], rfl, trivial, ?_⟩
        exact scb (by simp only [alnumI, *, Bool.true_and, Bool.false_and, Bool.true_or, Bool.false_or, Bool.or_true, Bool.and_true, Bool.or_false, Bool.and_false])
-- f150 certpath/certpathref01.Among
theorem F150 (c : Int) (l : ByteArray) (hl : l.size ≤ 1073741824) : Fn Tryd.prog 88 [.pv (sc (.int .u8 c)), .pv (sc (.string l))] [] (fun r _ => r = sc (.bool (amongB c l))) := by
  refine Fn.intro (rs := [.tmp 4]) hT Tryd.func88 (by kernel_rfl) rfl rfl rfl rfl fun C => ?_
  refine Aw.seq (Aw.region ?_)
  refine AwOps.v hT rfl ?_
  refine AwOps.nil (Aw.seq (Aw.seq (Aw.region ?_)))
  refine AwOps.v hT rfl ?_
  refine AwOps.nil (Aw.block ?_)
  have hB1 : l.size ≤ maxLen := by unfold maxLen; omega
  refine Aw.lp (ι := Nat) (n := 17) [(0, _), (1, _)] [] (fun gq => [(5, sc (.int .i64 gq))]) (fun gq => []) (fun gq => gq ≤ l.size ∧ ((List.range gq).any (fun i => bt l i == c) = false)) (fun gq => l.size - gq) (0) ?ok1 (Less.tn ⟨rfl, ⟨rfl, rfl, rfl, trivial⟩, trivial⟩) ?bd1
  case ok1 =>
    try dsimp only
    exact ⟨Nat.zero_le _, rfl⟩
  case bd1 =>
    intro i1 hi1
    try dsimp only at hi1
    show Aw _ _ _ ⟨17, [(5, sc (.int .i64 i1))] ++ [(0, _), (1, _)], [] ++ []⟩ _
    refine Aw.seq (Aw.seq (Aw.region ?_))
    iterate 4 refine AwOps.v hT rfl ?_
    refine AwOps.nil ?_
    refine Aw.tst rfl (fun hb9 => ?_) (fun hb9 => ?_)
    · skip
      have hlt1 : i1 < l.size := by simpa using hb9
      refine Aw.skip (Aw.seq (Aw.block (Aw.seq (Aw.region ?_))))
      refine AwOps.v hT rfl ?_
      refine AwOps.v hT rfl ?_
      refine AwOps.byte hT rfl (by omega) (by simpa using hlt1) ?_
      refine AwOps.v hT rfl ?_
      refine AwOps.v hT rfl ?_
      refine AwOps.nil ?_
      refine Aw.tst rfl (fun hb16 => ?_) (fun hb16 => ?_)
      · skip
        refine Aw.seq (Aw.region ?_)
        refine AwOps.v hT rfl ?_
        refine AwOps.nil ?_
        refine Aw.ret ?_
        refine ⟨_, [], rfl, trivial, ?_⟩
        exact scb (rany_hit hlt1 (by simpa using hb16)).symm
      · skip
        refine Aw.skip (Aw.region ?_)
        iterate 3 refine AwOps.v hT rfl ?_
        refine AwOps.nil ?_
        refine ⟨(i1 + 1), ?nx1, ?mu1, Less.tn ⟨rfl, ⟨incS hlt1 hB1, rfl, rfl, trivial⟩, trivial⟩⟩
        case nx1 =>
          try dsimp only
          exact ⟨hlt1, rany_next hi1.2 (by simpa using hb16)⟩
        case mu1 =>
          try dsimp only
          first | omega | (simp only [w64] at *; omega) | (simp [w64] at *; omega)
    · skip
      refine Aw.exit (Aw.seq (Aw.region ?_))
      refine AwOps.v hT rfl ?_
      refine AwOps.nil ?_
      refine Aw.ret ?_
      refine ⟨_, [], rfl, trivial, ?_⟩
      exact scb (by have h := hi1.2; have hg := gen hb9; rw [show i1 = l.size by omega] at h; exact h.symm)
def splitSt (s : ByteArray) (c : Int) : Nat → List ByteArray × Nat
  | 0 => ([], 0)
  | i + 1 => if i == s.size || bt s i == c then ((splitSt s c i).1 ++ [s.extract (splitSt s c i).2 i], i + 1) else splitSt s c i
/-- The parts of a string between the bytes c. -/
def splitS (s : ByteArray) (c : Int) : List ByteArray := (splitSt s c (s.size + 1)).1
def splitI (s : ByteArray) (c k a : Int) (l : List ByteArray) : Prop := 0 ≤ k ∧ k ≤ s.size + 1 ∧ 0 ≤ a ∧ a ≤ k ∧ l = (splitSt s c k.toNat).1 ∧ a.toNat = (splitSt s c k.toNat).2 ∧ l.length ≤ k.toNat
theorem splitI_yes {s : ByteArray} {c k a : Int} {l : List ByteArray} (h : splitI s c k a l) (hk : k ≤ s.size) (hc : (k == (s.size : Int)) = true ∨ (bt s k.toNat == c) = true) : splitI s c (k + 1) (k + 1) (l ++ [s.extract a.toNat k.toNat]) := by
  obtain ⟨h1, h2, h3, h4, h5, h6, h7⟩ := h
  have e : (k + 1).toNat = k.toNat + 1 := by omega
  have hc' : (k.toNat == s.size || bt s k.toNat == c) = true := by
    rcases hc with hc | hc
    · have : k.toNat = s.size := by have := beq_iff_eq.1 hc; omega
      simp [this]
    · simp [hc]
  refine ⟨by omega, by omega, by omega, by omega, ?_, ?_, by simp; omega⟩
  · rw [e, splitSt, if_pos hc', ← h5, ← h6]
  · rw [e, splitSt, if_pos hc']
theorem splitI_no {s : ByteArray} {c k a : Int} {l : List ByteArray} (h : splitI s c k a l) (hk : k ≤ s.size) (hn : (k == (s.size : Int)) = false) (hc : (bt s k.toNat == c) = false) : splitI s c (k + 1) a l := by
  obtain ⟨h1, h2, h3, h4, h5, h6, h7⟩ := h
  have e : (k + 1).toNat = k.toNat + 1 := by omega
  have hc' : ¬ (k.toNat == s.size || bt s k.toNat == c) = true := by
    have : k.toNat ≠ s.size := by have := beq_eq_false_iff_ne.1 hn; omega
    simp [this, hc]
  exact ⟨by omega, by omega, by omega, by omega, by rw [e, splitSt, if_neg hc']; exact h5, by rw [e, splitSt, if_neg hc']; exact h6, by omega⟩
-- f151 certpath/certpathref07.Split
theorem F151 (s : ByteArray) (c : Int) (hs : s.size ≤ 1073741824) : Fn Tryd.prog 95 [.pv (sc (.string s)), .pv (sc (.int .u8 c))] [] (fun r _ => r = .one (.p (.sl ((splitS s c).map eStr)))) := by
  refine Fn.intro (rs := [.tmp 4]) hT Tryd.func95 (by kernel_rfl) rfl rfl rfl rfl fun C => ?_
  refine Aw.seq (Aw.region ?_)
  refine AwOps.v hT rfl ?_
  refine AwOps.nil (Aw.seq (Aw.region ?_))
  refine AwOps.v hT rfl ?_
  refine AwOps.nil (Aw.seq (Aw.region ?_))
  refine AwOps.v hT rfl ?_
  refine AwOps.nil (Aw.seq (Aw.seq (Aw.region ?_)))
  refine AwOps.v hT rfl ?_
  refine AwOps.nil (Aw.block ?_)
  refine Aw.turn (Tn.own 5 905 9 1 rfl (by decide) (by decide) rfl) ?_
  refine Aw.lp (ι := List (ByteArray) × Int × Int) (n := 35) [(0, _), (1, _)] [] (fun gq => [(5, .one (.own 905 gq.1.length)), (6, sc (.int .i64 gq.2.1)), (7, sc (.int .i64 gq.2.2))]) (fun gq => [(905, .row 9 1 true (List.map eStr gq.1))]) (fun gq => splitI s c gq.2.2 gq.2.1 gq.1) (fun gq => (s.size + 1 - gq.2.2).toNat) ([], _, _) ?ok1 (Less.tn ⟨rfl, ⟨rfl, rfl, rfl, rfl, rfl, trivial⟩, ⟨rfl, trivial⟩⟩) ?bd1
  case ok1 =>
    try dsimp only
    exact ⟨by omega, by omega, by omega, by omega, rfl, rfl, by simp⟩
  case bd1 =>
    rintro ⟨l5, k6, k7⟩ hi1
    try dsimp only at hi1
    show Aw _ _ _ ⟨35, [(5, .one (.own 905 l5.length)), (6, sc (.int .i64 k6)), (7, sc (.int .i64 k7))] ++ [(0, _), (1, _)], [(905, .row 9 1 true (List.map eStr l5))] ++ []⟩ _
    have hq1 := hi1.1
    have hq2 := hi1.2.1
    have hq3 := hi1.2.2.1
    have hq4 := hi1.2.2.2.1
    have hq7 := hi1.2.2.2.2.2.2
    refine Aw.seq (Aw.seq (Aw.region ?_))
    iterate 4 refine AwOps.v hT rfl ?_
    refine AwOps.nil ?_
    refine Aw.tst rfl (fun hb11 => ?_) (fun hb11 => ?_)
    · skip
      have hk : k7 ≤ s.size := by simpa using hb11
      refine Aw.skip (Aw.seq (Aw.block (Aw.seq (Aw.region ?_))))
      iterate 5 refine AwOps.v hT rfl ?_
      refine AwOps.split (t := 18) rfl (fun hb18 => ?_) (fun hb18 => ?_)
      · skip
        iterate 6 refine AwOps.v hT rfl ?_
        refine AwOps.nil (Aw.condT rfl (Aw.seq (Aw.region ?_)))
        iterate 4 refine AwOps.v hT rfl ?_
        refine AwOps.sls hT rfl (by simp only [loI]; first | omega | (simp only [w64] at *; omega) | (simp [w64] at *; omega)) (by simp only [loI, hiI]; first | omega | (simp only [w64] at *; omega) | (simp [w64] at *; omega)) (by simp only [hiI]; first | omega | (simp only [w64] at *; omega) | (simp [w64] at *; omega)) ?_
        refine AwOps.lit hT rfl ?_
        refine AwOps.turn (Tn.fz 30 rfl rfl (by first | rfl | (simp; done)) rfl) ?_
        refine AwOps.turn (Less.say (t := 30) (B := .one (.p (.sl (List.map eStr [_])))) rfl rfl) ?_
        refine AwOps.appm  hT rfl rfl rfl (by first | rfl | (simp; done)) (by first | rfl | (simp; done)) (fun _ => rfl) (by simp only [List.length_cons, List.length_nil]; omega) ?_
        refine AwOps.v hT rfl ?_
        refine AwOps.nil (Aw.region ?_)
        refine AwOps.v hT rfl ?_
        refine AwOps.v hT rfl ?_
        first | refine AwOps.nm 33 rfl (by omega) (by omega) ?_ | skip
        refine AwOps.v hT rfl ?_
        refine AwOps.nil (Aw.region ?_)
        refine AwOps.v hT rfl ?_
        refine AwOps.v hT rfl ?_
        first | refine AwOps.nm 13 rfl (by omega) (by omega) ?_ | skip
        refine AwOps.v hT rfl ?_
        refine AwOps.nil ?_
        refine ⟨(_, _, _), ?nx1, ?mu1, Tn.trans (Less.tn (τ := ⟨35, [(5, _), (6, _), (7, _), (0, _), (1, _)], [(31, _)]⟩) ⟨rfl, ⟨rfl, rfl, rfl, rfl, rfl, trivial⟩, ⟨rfl, trivial⟩⟩) (Tn.trans (Tn.ren 31 905 rfl rfl rfl) (Less.tn ⟨rfl, ⟨rfl, rfl, rfl, rfl, rfl, trivial⟩, ⟨rfl, trivial⟩⟩))⟩
        case nx1 =>
          try dsimp only
          first
            | exact splitI_yes hi1 hk (.inl hb18)
            | exact splitI_yes hi1 hk (.inr hb24)
            | exact splitI_no hi1 hk hb18 hb24
        case mu1 =>
          try dsimp only
          first | omega | (simp only [w64] at *; omega) | (simp [w64] at *; omega)
      · skip
        have hne : k7 < s.size := by have := beq_eq_false_iff_ne.1 hb18; omega
        refine AwOps.v hT rfl ?_
        refine AwOps.v hT rfl ?_
        refine AwOps.byte hT rfl (by first | omega | (simp only [w64] at *; omega) | (simp [w64] at *; omega)) (by first | omega | (simp only [w64] at *; omega) | (simp [w64] at *; omega)) ?_
        iterate 3 refine AwOps.v hT rfl ?_
        refine AwOps.nil ?_
        refine Aw.tst rfl (fun hb24 => ?_) (fun hb24 => ?_)
        · skip
          refine Aw.seq (Aw.region ?_)
          iterate 4 refine AwOps.v hT rfl ?_
          refine AwOps.sls hT rfl (by simp only [loI]; first | omega | (simp only [w64] at *; omega) | (simp [w64] at *; omega)) (by simp only [loI, hiI]; first | omega | (simp only [w64] at *; omega) | (simp [w64] at *; omega)) (by simp only [hiI]; first | omega | (simp only [w64] at *; omega) | (simp [w64] at *; omega)) ?_
          refine AwOps.lit hT rfl ?_
          refine AwOps.turn (Tn.fz 30 rfl rfl (by first | rfl | (simp; done)) rfl) ?_
          refine AwOps.turn (Less.say (t := 30) (B := .one (.p (.sl (List.map eStr [_])))) rfl rfl) ?_
          refine AwOps.appm  hT rfl rfl rfl (by first | rfl | (simp; done)) (by first | rfl | (simp; done)) (fun _ => rfl) (by simp only [List.length_cons, List.length_nil]; omega) ?_
          refine AwOps.v hT rfl ?_
          refine AwOps.nil (Aw.region ?_)
          refine AwOps.v hT rfl ?_
          refine AwOps.v hT rfl ?_
          first | refine AwOps.nm 33 rfl (by omega) (by omega) ?_ | skip
          refine AwOps.v hT rfl ?_
          refine AwOps.nil (Aw.region ?_)
          refine AwOps.v hT rfl ?_
          refine AwOps.v hT rfl ?_
          first | refine AwOps.nm 13 rfl (by omega) (by omega) ?_ | skip
          refine AwOps.v hT rfl ?_
          refine AwOps.nil ?_
          refine ⟨(_, _, _), ?nx1, ?mu1, Tn.trans (Less.tn (τ := ⟨35, [(5, _), (6, _), (7, _), (0, _), (1, _)], [(31, _)]⟩) ⟨rfl, ⟨rfl, rfl, rfl, rfl, rfl, trivial⟩, ⟨rfl, trivial⟩⟩) (Tn.trans (Tn.ren 31 905 rfl rfl rfl) (Less.tn ⟨rfl, ⟨rfl, rfl, rfl, rfl, rfl, trivial⟩, ⟨rfl, trivial⟩⟩))⟩
          case nx1 =>
            try dsimp only
            first
              | exact splitI_yes hi1 hk (.inl hb18)
              | exact splitI_yes hi1 hk (.inr hb24)
              | exact splitI_no hi1 hk hb18 hb24
          case mu1 =>
            try dsimp only
            first | omega | (simp only [w64] at *; omega) | (simp [w64] at *; omega)
        · skip
          refine Aw.skip (Aw.region ?_)
          refine AwOps.v hT rfl ?_
          refine AwOps.v hT rfl ?_
          first | refine AwOps.nm 13 rfl (by omega) (by omega) ?_ | skip
          refine AwOps.v hT rfl ?_
          refine AwOps.nil ?_
          refine ⟨(_, _, _), ?nx1, ?mu1, Less.tn ⟨rfl, ⟨rfl, rfl, rfl, rfl, rfl, trivial⟩, ⟨rfl, trivial⟩⟩⟩
          case nx1 =>
            try dsimp only
            first
              | exact splitI_yes hi1 hk (.inl hb18)
              | exact splitI_yes hi1 hk (.inr hb24)
              | exact splitI_no hi1 hk hb18 hb24
          case mu1 =>
            try dsimp only
            first | omega | (simp only [w64] at *; omega) | (simp [w64] at *; omega)
    · skip
      have hk : ¬ k7 ≤ s.size := by simpa using hb11
      refine Aw.exit (Aw.seq (Aw.region ?_))
      refine AwOps.v hT rfl ?_
      refine AwOps.v hT rfl ?_
      refine AwOps.nil ?_
      refine Aw.turn (Tn.fz 4 rfl rfl (by first | rfl | (simp; done)) rfl) ?_
      refine Aw.ret ?_
      refine ⟨_, [], rfl, trivial, ?_⟩
      refine congrArg (fun x => AV.one (.p (.sl (List.map eStr x)))) ?_
      rw [splitS, show s.size + 1 = k7.toNat by omega]
      exact hi1.2.2.2.2.1
/-- A label of a DNS name. -/
def labP (x : ByteArray) (i : Nat) : Bool := alnumI (bt x i) || bt x i == 45
def labB (x : ByteArray) : Bool := !(decide ((x.size : Int) < 1) || (decide ((x.size : Int) > 63) || (bt x 0 == 45 || bt x (x.size - 1) == 45))) && (List.range x.size).all (labP x)
def dnsB (s : ByteArray) : Bool := !decide ((s.size : Int) > 128) && (splitS s 46).all labB
theorem all_step {α : Type} {p : α → Bool} {l : List α} {i : Nat} (hi : i < l.length) (h : (l.take i).all p = true) (hx : p l[i] = true) : (l.take (i + 1)).all p = true := by
  rw [List.take_succ_eq_append_getElem hi, List.all_append, h]
  simp [hx]
theorem all_full {α : Type} {p : α → Bool} {l : List α} {i : Nat} (h : (l.take i).all p = true) (hi : decide ((i : Int) < (l.length : Nat)) = false) : l.all p = true := by
  have : l.length ≤ i := by have := of_decide_eq_false hi; omega
  rwa [List.take_of_length_le this] at h
theorem all_bad {α : Type} {p : α → Bool} {l : List α} {i : Nat} (hi : i < l.length) (hx : p l[i] = false) : l.all p = false := by
  rw [List.all_eq_false]
  exact ⟨_, List.getElem_mem hi, by simp [hx]⟩
theorem rall_full {p : Nat → Bool} {i n : Nat} (h : (List.range i).all p = true) (hi : decide ((i : Int) < (n : Int)) = false) (hn : i ≤ n) : (List.range n).all p = true := by
  have := gen hi
  rwa [show i = n by omega] at h
theorem labB_ok {x : ByteArray} (h1 : decide ((x.size : Int) < 1) = false) (h2 : decide ((x.size : Int) > 63) = false) (h3 : (bt x (Int.toNat 0) == 45) = false) (h4 : (bt x ((x.size : Int) - 1).toNat == 45) = false) (h5 : (List.range x.size).all (labP x) = true) : labB x = true := by
  rw [show ((x.size : Int) - 1).toNat = x.size - 1 by omega] at h4
  replace h3 : (bt x 0 == 45) = false := h3
  rw [labB, h1, h2, h3, h4, h5]
  rfl
theorem labB_no {x : ByteArray} (h : decide ((x.size : Int) < 1) = true ∨ decide ((x.size : Int) > 63) = true ∨ (bt x (Int.toNat 0) == 45) = true ∨ (bt x ((x.size : Int) - 1).toNat == 45) = true ∨ (List.range x.size).all (labP x) = false) : labB x = false := by
  rcases h with h | h | h | h | h
  · rw [labB, h]; rfl
  · rw [labB, h]; simp
  · replace h : (bt x 0 == 45) = true := h
    rw [labB, h]; simp
  · rw [show ((x.size : Int) - 1).toNat = x.size - 1 by omega] at h
    rw [labB, h]; simp
  · rw [labB, h]; simp
def lowB (a : ByteArray) : ByteArray := bS (a.data.toList.map low)
def alikeB (a b : ByteArray) : Bool := seq (lowB a) (lowB b)
def endsB (s t : ByteArray) : Bool := decide ((s.size : Int) ≥ (t.size : Int)) && alikeB (s.extract ((s.size : Int) - (t.size : Int)).toNat s.size) t
-- f148 certpath/certpathref07.DNS
theorem F148 (s : ByteArray) (hs : s.size ≤ 1073741824) : Fn Tryd.prog 86 [.pv (sc (.string s))] [] (fun r _ => r = sc (.bool (dnsB s))) := by
  refine Fn.intro (rs := [.tmp 2]) hT Tryd.func86 (by kernel_rfl) rfl rfl rfl rfl fun C => ?_
  refine Aw.seq (Aw.region ?_)
  refine AwOps.v hT rfl ?_
  refine AwOps.nil (Aw.seq (Aw.seq (Aw.region ?_)))
  iterate 3 refine AwOps.v hT rfl ?_
  refine AwOps.nil ?_
  refine Aw.tst rfl (fun hb8 => ?_) (fun hb8 => ?_)
  · skip
    refine Aw.seq (Aw.region ?_)
    refine AwOps.v hT rfl ?_
    refine AwOps.nil ?_
    refine Aw.ret ?_
    refine ⟨_, [], rfl, trivial, ?_⟩
    exact scb (by rw [dnsB, hb8]; rfl)
  · skip
    refine Aw.skip (Aw.seq (Aw.seq (Aw.region ?_)))
    refine AwOps.v hT rfl ?_
    refine AwOps.cl (F151 _ _ (by first | omega | (simp only [ByteArray.size_extract, ByteArray.size_append, loI, hiI]; omega))) [] rfl ⟨⟨rfl, rfl⟩, ⟨rfl, rfl⟩, trivial⟩ trivial rfl ?_   -- certpathref07.Split
    rintro _ _ rfl
    refine AwOps.v hT rfl ?_
    refine AwOps.v hT rfl ?_
    refine AwOps.nil (Aw.block ?_)
    refine Aw.bnd 10 rfl fun hB1 => ?_
    replace hB1 : (splitS s 46).length ≤ maxLen := by simpa using hB1
    refine Aw.lp (ι := Nat) (n := 55) [(10, _), (11, _)] [] (fun gq => [(12, sc (.int .i64 gq))]) (fun gq => []) (fun gq => gq ≤ (splitS s 46).length ∧ (((splitS s 46).take gq).all labB = true)) (fun gq => (splitS s 46).length - gq) (0) ?ok1 (Less.tn ⟨rfl, ⟨rfl, rfl, rfl, trivial⟩, trivial⟩) ?bd1
    case ok1 =>
      try dsimp only
      exact ⟨Nat.zero_le _, rfl⟩
    case bd1 =>
      intro i1 hi1
      try dsimp only at hi1
      show Aw _ _ _ ⟨55, [(12, sc (.int .i64 i1))] ++ [(10, _), (11, _)], [] ++ []⟩ _
      refine Aw.seq (Aw.region ?_)
      refine AwOps.v hT rfl ?_
      refine AwOps.nil (Aw.seq ?_)
      refine Aw.tst rfl (fun hb13 => ?_) (fun hb13 => ?_)
      · skip
        have hlt1 : i1 < (splitS s 46).length := by simpa using hb13
        refine Aw.skip (Aw.seq (Aw.block (Aw.seq (Aw.region ?_))))
        refine AwOps.im hT rfl hlt1 rfl ?_
        refine AwOps.v hT rfl ?_
        refine AwOps.v hT rfl ?_
        refine AwOps.nil (Aw.seq (Aw.seq (Aw.region ?_)))
        iterate 4 refine AwOps.v hT rfl ?_
        refine AwOps.split (t := 19) rfl (fun hb19 => ?_) (fun hb19 => ?_)
        · skip
          iterate 17 refine AwOps.v hT rfl ?_
          refine AwOps.nil (Aw.condT rfl (Aw.seq (Aw.region ?_)))
          refine AwOps.v hT rfl ?_
          refine AwOps.nil ?_
          refine Aw.ret ?_
          refine ⟨_, [], rfl, trivial, ?_⟩
          exact scb (by rw [dnsB, all_bad hlt1 (labB_no (.inl hb19))]; simp)
        · skip
          have hx0 := of_decide_eq_false hb19
          iterate 5 refine AwOps.v hT rfl ?_
          refine AwOps.split (t := 24) rfl (fun hb24 => ?_) (fun hb24 => ?_)
          · skip
            iterate 12 refine AwOps.v hT rfl ?_
            refine AwOps.nil (Aw.condT rfl (Aw.seq (Aw.region ?_)))
            refine AwOps.v hT rfl ?_
            refine AwOps.nil ?_
            refine Aw.ret ?_
            refine ⟨_, [], rfl, trivial, ?_⟩
            exact scb (by rw [dnsB, all_bad hlt1 (labB_no (.inr (.inl hb24)))]; simp)
          · skip
            have hx1 := of_decide_eq_false hb24
            refine AwOps.v hT rfl ?_
            refine AwOps.byte hT rfl (by omega) (by omega) ?_
            iterate 3 refine AwOps.v hT rfl ?_
            refine AwOps.split (t := 29) rfl (fun hb29 => ?_) (fun hb29 => ?_)
            · skip
              iterate 7 refine AwOps.v hT rfl ?_
              refine AwOps.nil (Aw.condT rfl (Aw.seq (Aw.region ?_)))
              refine AwOps.v hT rfl ?_
              refine AwOps.nil ?_
              refine Aw.ret ?_
              refine ⟨_, [], rfl, trivial, ?_⟩
              exact scb (by rw [dnsB, all_bad hlt1 (labB_no (.inr (.inr (.inl hb29))))]; simp)
            · skip
              iterate 4 refine AwOps.v hT rfl ?_
              first | refine AwOps.nm 33 rfl (by omega) (by omega) ?_ | skip
              refine AwOps.byte hT rfl (by omega) (by omega) ?_
              refine AwOps.v hT rfl ?_
              refine AwOps.v hT rfl ?_
              refine AwOps.nil ?_
              refine Aw.tst rfl (fun hb36 => ?_) (fun hb36 => ?_)
              · skip
                refine Aw.seq (Aw.region ?_)
                refine AwOps.v hT rfl ?_
                refine AwOps.nil ?_
                refine Aw.ret ?_
                refine ⟨_, [], rfl, trivial, ?_⟩
                exact scb (by rw [dnsB, all_bad hlt1 (labB_no (.inr (.inr (.inr (.inl hb36)))))]; simp)
              · skip
                refine Aw.skip (Aw.seq (Aw.region ?_))
                refine AwOps.v hT rfl ?_
                refine AwOps.nil (Aw.block ?_)
                have hB2 : (splitS s 46)[i1].size ≤ maxLen := by unfold maxLen; omega
                refine Aw.lp (ι := Nat) (n := 55) [(4, _), (10, _), (11, _), (12, _)] [] (fun gq => [(5, sc (.int .i64 gq))]) (fun gq => []) (fun gq => gq ≤ (splitS s 46)[i1].size ∧ ((List.range gq).all (labP (splitS s 46)[i1]) = true)) (fun gq => (splitS s 46)[i1].size - gq) (0) ?ok2 (Less.tn ⟨rfl, ⟨rfl, rfl, rfl, rfl, rfl, trivial⟩, trivial⟩) ?bd2
                case ok2 =>
                  try dsimp only
                  exact ⟨Nat.zero_le _, rfl⟩
                case bd2 =>
                  intro i2 hi2
                  try dsimp only at hi2
                  show Aw _ _ _ ⟨55, [(5, sc (.int .i64 i2))] ++ [(4, _), (10, _), (11, _), (12, _)], [] ++ []⟩ _
                  refine Aw.seq (Aw.seq (Aw.region ?_))
                  iterate 4 refine AwOps.v hT rfl ?_
                  refine AwOps.nil ?_
                  refine Aw.tst rfl (fun hb40 => ?_) (fun hb40 => ?_)
                  · skip
                    have hlt2 : i2 < (splitS s 46)[i1].size := by simpa using hb40
                    refine Aw.skip (Aw.seq (Aw.block (Aw.seq (Aw.region ?_))))
                    refine AwOps.v hT rfl ?_
                    refine AwOps.v hT rfl ?_
                    refine AwOps.byte hT rfl (by omega) (by simpa using hlt2) ?_
                    refine AwOps.cl (F149 _) [] rfl ⟨⟨rfl, rfl⟩, trivial⟩ trivial rfl ?_   -- certpathref01.Alnum
                    rintro _ _ rfl
                    refine AwOps.v hT rfl ?_
                    refine AwOps.v hT rfl ?_
                    refine AwOps.split (t := 48) rfl (fun hb48 => ?_) (fun hb48 => ?_)
                    · skip
                      refine AwOps.v hT rfl ?_
                      refine AwOps.v hT rfl ?_
                      refine AwOps.byte hT rfl (by omega) (by simpa using hlt2) ?_
                      refine AwOps.v hT rfl ?_
                      refine AwOps.v hT rfl ?_
                      refine AwOps.nil ?_
                      refine Aw.tst rfl (fun hb53 => ?_) (fun hb53 => ?_)
                      · skip
                        refine Aw.seq (Aw.region ?_)
                        refine AwOps.v hT rfl ?_
                        refine AwOps.nil ?_
                        refine Aw.ret ?_
                        refine ⟨_, [], rfl, trivial, ?_⟩
                        exact scb (by rw [dnsB, all_bad hlt1 (labB_no (.inr (.inr (.inr (.inr (all_miss hlt2 (by simp only [labP]; simp at hb48 hb53; simp [hb48, hb53])))))))]; simp)
                      · skip
                        refine Aw.skip (Aw.region ?_)
                        iterate 3 refine AwOps.v hT rfl ?_
                        refine AwOps.nil ?_
                        refine ⟨(i2 + 1), ?nx2, ?mu2, Less.tn ⟨rfl, ⟨incS hlt2 hB2, rfl, rfl, rfl, rfl, trivial⟩, trivial⟩⟩
                        case nx2 =>
                          try dsimp only
                          exact ⟨hlt2, all_next hi2.2 (by simp only [labP]; simp at *; simp_all)⟩
                        case mu2 =>
                          try dsimp only
                          first | omega | (simp only [w64] at *; omega) | (simp [w64] at *; omega)
                    · skip
                      iterate 5 refine AwOps.v hT rfl ?_
                      refine AwOps.nil (Aw.condF rfl (Aw.skip (Aw.region ?_)))
                      iterate 3 refine AwOps.v hT rfl ?_
                      refine AwOps.nil ?_
                      refine ⟨(i2 + 1), ?nx2, ?mu2, Less.tn ⟨rfl, ⟨incS hlt2 hB2, rfl, rfl, rfl, rfl, trivial⟩, trivial⟩⟩
                      case nx2 =>
                        try dsimp only
                        exact ⟨hlt2, all_next hi2.2 (by simp only [labP]; simp at *; simp_all)⟩
                      case mu2 =>
                        try dsimp only
                        first | omega | (simp only [w64] at *; omega) | (simp [w64] at *; omega)
                  · skip
                    refine Aw.exit (Aw.region ?_)
                    refine AwOps.v hT rfl ?_
                    refine AwOps.v hT rfl ?_
                    refine AwOps.nil ?_
                    refine ⟨(i1 + 1), ?nx1, ?mu1, Less.tn ⟨rfl, ⟨incS hlt1 hB1, rfl, rfl, trivial⟩, trivial⟩⟩
                    case nx1 =>
                      try dsimp only
                      exact ⟨hlt1, all_step hlt1 hi1.2 (labB_ok hb19 hb24 hb29 hb36 (rall_full hi2.2 hb40 hi2.1))⟩
                    case mu1 =>
                      try dsimp only
                      first | omega | (simp only [w64] at *; omega) | (simp [w64] at *; omega)
      · skip
        refine Aw.exit (Aw.seq (Aw.region ?_))
        refine AwOps.v hT rfl ?_
        refine AwOps.nil ?_
        refine Aw.ret ?_
        refine ⟨_, [], rfl, trivial, ?_⟩
        exact scb (by rw [dnsB, hb8, all_full hi1.2 (by simpa using hb13)]; rfl)
-- f142 certpath/certpathref07.alike
theorem F142 (a b : ByteArray) (ha : a.size ≤ 1073741824) (hb : b.size ≤ 1073741824) : Fn Tryd.prog 62 [.pv (sc (.string a)), .pv (sc (.string b))] [] (fun r _ => r = sc (.bool (alikeB a b))) := by
  refine Fn.intro (rs := [.tmp 4]) hT Tryd.func62 (by kernel_rfl) rfl rfl rfl rfl fun C => ?_
  refine Aw.seq (Aw.region ?_)
  refine AwOps.v hT rfl ?_
  refine AwOps.nil (Aw.seq (Aw.region ?_))
  refine AwOps.v hT rfl ?_
  refine AwOps.cl (F112 _ (by first | omega | (simp only [ByteArray.size_extract, ByteArray.size_append, loI, hiI]; omega))) [] rfl ⟨⟨rfl, rfl⟩, trivial⟩ trivial rfl ?_   -- certpathref01.Lower
  rintro _ _ rfl
  refine AwOps.v hT rfl ?_
  refine AwOps.cl (F112 _ (by first | omega | (simp only [ByteArray.size_extract, ByteArray.size_append, loI, hiI]; omega))) [] rfl ⟨⟨rfl, rfl⟩, trivial⟩ trivial rfl ?_   -- certpathref01.Lower
  rintro _ _ rfl
  refine AwOps.v hT rfl ?_
  refine AwOps.v hT rfl ?_
  refine AwOps.nil ?_
  refine Aw.ret ?_
  refine ⟨_, [], rfl, trivial, ?_⟩
  exact rfl
def patternB (s : ByteArray) : Bool := dnsB s || (decide ((s.size : Int) ≤ 128) && (decide ((s.size : Int) > 2) && (seq (s.extract 0 2) ⟨#[42, 46]⟩ && (dnsB (s.extract 2 s.size) && decide (((splitS s 46).length : Int) > 2)))))
def baseB (s : ByteArray) : Bool := seq s ⟨#[]⟩ || dnsB s
def dnsWithinB (s b : ByteArray) : Bool := (seq s ⟨#[]⟩ || patternB s) && (baseB b && (seq b ⟨#[]⟩ || (alikeB s b || endsB s ((⟨#[46]⟩ : ByteArray) ++ b))))
theorem dnsB_size {s : ByteArray} (h : dnsB s = true) : s.size ≤ 128 := by
  rw [dnsB, Bool.and_eq_true] at h
  have := h.1
  simp at this
  omega
theorem baseB_size {s : ByteArray} (h : baseB s = true) : s.size ≤ 128 := by
  rw [baseB, Bool.or_eq_true] at h
  rcases h with h | h
  · have : s.toList = (⟨#[]⟩ : ByteArray).toList := by simpa [seq] using h
    have e : s.toList.length = s.size := by rw [ByteArray.toList_eq, Array.length_toList]; rfl
    rw [this] at e
    have e0 : (⟨#[]⟩ : ByteArray).toList.length = 0 := by rw [ByteArray.toList_eq]; rfl
    omega
  · exact dnsB_size h
theorem size46 : (⟨#[46]⟩ : ByteArray).size = 1 := rfl
/-- The place of the first @, or the end. -/
def atI (s : ByteArray) : Nat → Nat
  | 0 => 0
  | n + 1 => if atI s n == n && bt s n != 64 then n + 1 else atI s n
def atK (s : ByteArray) : Nat := atI s s.size
theorem atI_go {s : ByteArray} {k : Nat} (h : atI s k = k) (hb : (bt s k != 64) = true) : atI s (k + 1) = k + 1 := by
  rw [atI, if_pos (by simp [h]; simpa using hb)]
theorem atI_at {s : ByteArray} {k : Nat} (h : atI s k = k) (hb : (bt s k != 64) = false) : ∀ n, k ≤ n → atI s n = k
  | 0, hn => by rw [show k = 0 by omega, atI]
  | n + 1, hn => by
    by_cases e : k = n + 1
    · rw [← e]; exact h
    · have ih := atI_at h hb n (by omega)
      rw [atI, if_neg, ih]
      rw [ih]
      intro hc
      rw [Bool.and_eq_true] at hc
      have : k = n := by simpa using hc.1
      subst this
      rw [hb] at hc
      exact Bool.noConfusion hc.2
def mailC : ByteArray := ⟨#[33, 35, 36, 37, 38, 39, 42, 43, 45, 47, 61, 63, 94, 95, 96, 123, 124, 125, 126, 46]⟩
/-- A letter of the local part that is wrong. -/
def locX (s : ByteArray) (i : Nat) : Bool := (!alnumI (bt s i) && !amongB (bt s i) mailC) || (bt s i == 46 && bt s (i + 1) == 46)
def partsOk (s : ByteArray) : Bool := !decide ((s.size : Int) > 128) && (!(decide ((atK s : Int) < 1) || (decide ((atK s : Int) > 64) || ((atK s : Int) == (s.size : Int) || (!dnsB (s.extract (atK s + 1) s.size) || (bt s 0 == 46 || bt s (atK s - 1) == 46))))) &&
  (List.range (atK s)).all fun i => !locX s i)
def partL (s : ByteArray) : ByteArray := if partsOk s then s.extract 0 (atK s) else ⟨#[]⟩
def partD (s : ByteArray) : ByteArray := if partsOk s then s.extract (atK s + 1) s.size else ⟨#[]⟩
theorem parts_no {s : ByteArray} (h : partsOk s = false) : AV.tup [.one (.p (.v (.string ⟨#[]⟩))), .one (.p (.v (.string ⟨#[]⟩))), .one (.p (.v (.bool false)))] = AV.tup [.one (.p (.v (.string (partL s)))), .one (.p (.v (.string (partD s)))), .one (.p (.v (.bool (partsOk s))))] := by
  simp [partL, partD, h]
theorem parts_yes {s : ByteArray} (h : partsOk s = true) : AV.tup [.one (.p (.v (.string (s.extract 0 (atK s))))), .one (.p (.v (.string (s.extract (atK s + 1) s.size)))), .one (.p (.v (.bool true)))] = AV.tup [.one (.p (.v (.string (partL s)))), .one (.p (.v (.string (partD s)))), .one (.p (.v (.bool (partsOk s))))] := by
  simp [partL, partD, h]
theorem atI_le (s : ByteArray) : ∀ n, atI s n ≤ n
  | 0 => Nat.le_refl _
  | n + 1 => by
    have := atI_le s n
    rw [atI]
    split <;> omega
theorem atK_le (s : ByteArray) : atK s ≤ s.size := atI_le s _
-- f139 certpath/certpathref07.parts
theorem F139 (s : ByteArray) (hs : s.size ≤ 1073741824) : Fn Tryd.prog 73 [.pv (sc (.string s))] [] (fun r _ => r = .tup [.one (.p (.v (.string (partL s)))), .one (.p (.v (.string (partD s)))), .one (.p (.v (.bool (partsOk s))))]) := by
  refine Fn.intro (rs := [.tmp 2, .tmp 3, .tmp 4]) hT Tryd.func73 (by kernel_rfl) rfl rfl rfl rfl fun C => ?_
  refine Aw.seq (Aw.region ?_)
  iterate 3 refine AwOps.v hT rfl ?_
  refine AwOps.nil (Aw.seq (Aw.seq (Aw.region ?_)))
  iterate 3 refine AwOps.v hT rfl ?_
  refine AwOps.nil ?_
  refine Aw.tst rfl (fun hb9 => ?_) (fun hb9 => ?_)
  · skip
    refine Aw.seq (Aw.region ?_)
    iterate 3 refine AwOps.v hT rfl ?_
    refine AwOps.nil ?_
    refine Aw.ret ?_
    refine ⟨_, [], rfl, trivial, ?_⟩
    refine parts_no ?_
    rw [partsOk]; simp only [show (decide ((s.size : Int) > 128)) = true from hb9, Bool.true_and, Bool.false_and, Bool.true_or, Bool.false_or, Bool.or_true, Bool.and_true, Bool.or_false, Bool.and_false, Bool.not_true, Bool.not_false]
  · skip
    refine Aw.skip (Aw.seq (Aw.region ?_))
    refine AwOps.v hT rfl ?_
    refine AwOps.nil (Aw.seq (Aw.block ?_))
    refine Aw.lp (ι := Int) (n := 91) [(0, _)] [] (fun gq => [(5, sc (.int .i64 gq))]) (fun gq => []) (fun gq => 0 ≤ gq ∧ gq ≤ s.size ∧ atI s gq.toNat = gq.toNat) (fun gq => (s.size - gq).toNat) (_) ?ok1 (Less.tn ⟨rfl, ⟨rfl, rfl, trivial⟩, trivial⟩) ?bd1
    case ok1 =>
      try dsimp only
      exact ⟨by omega, by omega, rfl⟩
    case bd1 =>
      intro k5 hi1
      try dsimp only at hi1
      show Aw _ _ _ ⟨91, [(5, sc (.int .i64 k5))] ++ [(0, _)], [] ++ []⟩ _
      refine Aw.seq (Aw.seq (Aw.region ?_))
      iterate 5 refine AwOps.v hT rfl ?_
      refine AwOps.split (t := 14) rfl (fun hb14 => ?_) (fun hb14 => ?_)
      · skip
        have hk := of_decide_eq_true hb14
        refine AwOps.v hT rfl ?_
        refine AwOps.v hT rfl ?_
        refine AwOps.byte hT rfl (by omega) (by omega) ?_
        refine AwOps.v hT rfl ?_
        refine AwOps.v hT rfl ?_
        refine AwOps.nil ?_
        refine Aw.tst rfl (fun hb19 => ?_) (fun hb19 => ?_)
        · skip
          refine Aw.skip (Aw.block (Aw.region ?_))
          refine AwOps.v hT rfl ?_
          refine AwOps.v hT rfl ?_
          first | refine AwOps.nm 21 rfl (by omega) (by omega) ?_ | skip
          refine AwOps.v hT rfl ?_
          refine AwOps.nil ?_
          refine ⟨(_), ?nx1, ?mu1, Less.tn ⟨rfl, ⟨rfl, rfl, trivial⟩, trivial⟩⟩
          case nx1 =>
            try dsimp only
            exact ⟨by omega, by omega, by rw [show (k5 + 1).toNat = k5.toNat + 1 by omega]; exact atI_go hi1.2.2 hb19⟩
          case mu1 =>
            try dsimp only
            first | omega | (simp only [w64] at *; omega) | (simp [w64] at *; omega)
        · skip
          have hK : (atK s : Int) = k5 := by
            unfold atK
            rw [atI_at hi1.2.2 hb19 s.size (by omega)]
            omega
          subst hK
          have hKs := atK_le s
          refine Aw.exit (Aw.seq (Aw.seq (Aw.region ?_)))
          iterate 3 refine AwOps.v hT rfl ?_
          refine AwOps.split (t := 24) rfl (fun hb24 => ?_) (fun hb24 => ?_)
          · skip
            iterate 29 refine AwOps.v hT rfl ?_
            refine AwOps.nil (Aw.condT rfl (Aw.seq (Aw.region ?_)))
            iterate 3 refine AwOps.v hT rfl ?_
            refine AwOps.nil ?_
            refine Aw.ret ?_
            refine ⟨_, [], rfl, trivial, ?_⟩
            refine parts_no ?_
            rw [partsOk]; simp only [show (decide ((s.size : Int) > 128)) = false from hb9, show (decide ((atK s : Int) < 1)) = true from hb24, Bool.true_and, Bool.false_and, Bool.true_or, Bool.false_or, Bool.or_true, Bool.and_true, Bool.or_false, Bool.and_false, Bool.not_true, Bool.not_false]
          · skip
            have hx24 := of_decide_eq_false hb24
            iterate 4 refine AwOps.v hT rfl ?_
            refine AwOps.split (t := 28) rfl (fun hb28 => ?_) (fun hb28 => ?_)
            · skip
              iterate 25 refine AwOps.v hT rfl ?_
              refine AwOps.nil (Aw.condT rfl (Aw.seq (Aw.region ?_)))
              iterate 3 refine AwOps.v hT rfl ?_
              refine AwOps.nil ?_
              refine Aw.ret ?_
              refine ⟨_, [], rfl, trivial, ?_⟩
              refine parts_no ?_
              rw [partsOk]; simp only [show (decide ((s.size : Int) > 128)) = false from hb9, show (decide ((atK s : Int) < 1)) = false from hb24, show (decide ((atK s : Int) > 64)) = true from hb28, Bool.true_and, Bool.false_and, Bool.true_or, Bool.false_or, Bool.or_true, Bool.and_true, Bool.or_false, Bool.and_false, Bool.not_true, Bool.not_false]
            · skip
              have hx28 := of_decide_eq_false hb28
              iterate 6 refine AwOps.v hT rfl ?_
              refine AwOps.split (t := 34) rfl (fun hb34 => ?_) (fun hb34 => ?_)
              · skip
                iterate 19 refine AwOps.v hT rfl ?_
                refine AwOps.nil (Aw.condT rfl (Aw.seq (Aw.region ?_)))
                iterate 3 refine AwOps.v hT rfl ?_
                refine AwOps.nil ?_
                refine Aw.ret ?_
                refine ⟨_, [], rfl, trivial, ?_⟩
                refine parts_no ?_
                rw [partsOk]; simp only [show (decide ((s.size : Int) > 128)) = false from hb9, show (decide ((atK s : Int) < 1)) = false from hb24, show (decide ((atK s : Int) > 64)) = false from hb28, show ((atK s : Int) == (s.size : Int)) = true from hb34, Bool.true_and, Bool.false_and, Bool.true_or, Bool.false_or, Bool.or_true, Bool.and_true, Bool.or_false, Bool.and_false, Bool.not_true, Bool.not_false]
              · skip
                have hx34 := beq_eq_false_iff_ne.1 hb34
                iterate 3 refine AwOps.v hT rfl ?_
                first | refine AwOps.nm 37 rfl (by omega) (by omega) ?_ | skip
                refine AwOps.sls hT rfl (by simp only [loI]; omega) (by simp only [loI, hiI]; omega) (by simp only [hiI]; omega) ?_
                refine AwOps.cl (F148 _ (by first | omega | (simp only [ByteArray.size_extract, ByteArray.size_append, loI, hiI]; omega))) [] rfl ⟨⟨rfl, rfl⟩, trivial⟩ trivial rfl ?_   -- certpathref07.DNS
                rintro _ _ rfl
                iterate 3 refine AwOps.v hT rfl ?_
                refine AwOps.split (t := 42) rfl (fun hb42 => ?_) (fun hb42 => ?_)
                · skip
                  iterate 11 refine AwOps.v hT rfl ?_
                  refine AwOps.nil (Aw.condT rfl (Aw.seq (Aw.region ?_)))
                  iterate 3 refine AwOps.v hT rfl ?_
                  refine AwOps.nil ?_
                  refine Aw.ret ?_
                  refine ⟨_, [], rfl, trivial, ?_⟩
                  refine parts_no ?_
                  rw [partsOk]; simp only [show (decide ((s.size : Int) > 128)) = false from hb9, show (decide ((atK s : Int) < 1)) = false from hb24, show (decide ((atK s : Int) > 64)) = false from hb28, show ((atK s : Int) == (s.size : Int)) = false from hb34, show (!dnsB (s.extract (atK s + 1) s.size)) = true from hb42, Bool.true_and, Bool.false_and, Bool.true_or, Bool.false_or, Bool.or_true, Bool.and_true, Bool.or_false, Bool.and_false, Bool.not_true, Bool.not_false]
                · skip
                  refine AwOps.v hT rfl ?_
                  refine AwOps.byte hT rfl (by omega) (by omega) ?_
                  iterate 3 refine AwOps.v hT rfl ?_
                  refine AwOps.split (t := 47) rfl (fun hb47 => ?_) (fun hb47 => ?_)
                  · skip
                    iterate 6 refine AwOps.v hT rfl ?_
                    refine AwOps.nil (Aw.condT rfl (Aw.seq (Aw.region ?_)))
                    iterate 3 refine AwOps.v hT rfl ?_
                    refine AwOps.nil ?_
                    refine Aw.ret ?_
                    refine ⟨_, [], rfl, trivial, ?_⟩
                    refine parts_no ?_
                    rw [partsOk]; simp only [show (decide ((s.size : Int) > 128)) = false from hb9, show (decide ((atK s : Int) < 1)) = false from hb24, show (decide ((atK s : Int) > 64)) = false from hb28, show ((atK s : Int) == (s.size : Int)) = false from hb34, show (!dnsB (s.extract (atK s + 1) s.size)) = false from hb42, show (bt s 0 == 46) = true from hb47, Bool.true_and, Bool.false_and, Bool.true_or, Bool.false_or, Bool.or_true, Bool.and_true, Bool.or_false, Bool.and_false, Bool.not_true, Bool.not_false]
                  · skip
                    iterate 3 refine AwOps.v hT rfl ?_
                    first | refine AwOps.nm 50 rfl (by omega) (by omega) ?_ | skip
                    refine AwOps.byte hT rfl (by omega) (by omega) ?_
                    refine AwOps.v hT rfl ?_
                    refine AwOps.v hT rfl ?_
                    refine AwOps.nil ?_
                    refine Aw.tst rfl (fun hb53 => ?_) (fun hb53 => ?_)
                    · skip
                      replace hb53 : (bt s (atK s - 1) == 46) = true := by rwa [show ((atK s : Int) - 1).toNat = atK s - 1 by omega] at hb53
                      refine Aw.seq (Aw.region ?_)
                      iterate 3 refine AwOps.v hT rfl ?_
                      refine AwOps.nil ?_
                      refine Aw.ret ?_
                      refine ⟨_, [], rfl, trivial, ?_⟩
                      refine parts_no ?_
                      rw [partsOk]; simp only [show (decide ((s.size : Int) > 128)) = false from hb9, show (decide ((atK s : Int) < 1)) = false from hb24, show (decide ((atK s : Int) > 64)) = false from hb28, show ((atK s : Int) == (s.size : Int)) = false from hb34, show (!dnsB (s.extract (atK s + 1) s.size)) = false from hb42, show (bt s 0 == 46) = false from hb47, show (bt s (atK s - 1) == 46) = true from hb53, Bool.true_and, Bool.false_and, Bool.true_or, Bool.false_or, Bool.or_true, Bool.and_true, Bool.or_false, Bool.and_false, Bool.not_true, Bool.not_false]
                    · skip
                      replace hb53 : (bt s (atK s - 1) == 46) = false := by rwa [show ((atK s : Int) - 1).toNat = atK s - 1 by omega] at hb53
                      refine Aw.skip (Aw.seq (Aw.seq (Aw.region ?_)))
                      refine AwOps.v hT rfl ?_
                      refine AwOps.nil (Aw.block ?_)
                      have hB2 : atK s ≤ maxLen := by unfold maxLen; omega
                      refine Aw.lp (ι := Nat) (n := 91) [(0, _), (5, _)] [] (fun gq => [(6, sc (.int .i64 gq))]) (fun gq => []) (fun gq => gq ≤ atK s ∧ ((List.range gq).all (fun i => !locX s i) = true)) (fun gq => atK s - gq) (0) ?ok2 (Less.tn ⟨rfl, ⟨rfl, rfl, rfl, trivial⟩, trivial⟩) ?bd2
                      case ok2 =>
                        try dsimp only
                        exact ⟨Nat.zero_le _, rfl⟩
                      case bd2 =>
                        intro i2 hi2
                        try dsimp only at hi2
                        show Aw _ _ _ ⟨91, [(6, sc (.int .i64 i2))] ++ [(0, _), (5, _)], [] ++ []⟩ _
                        refine Aw.seq (Aw.seq (Aw.region ?_))
                        iterate 3 refine AwOps.v hT rfl ?_
                        refine AwOps.nil ?_
                        refine Aw.tst rfl (fun hb56 => ?_) (fun hb56 => ?_)
                        · skip
                          have hlt2 : i2 < atK s := by simpa using hb56
                          refine Aw.skip (Aw.seq (Aw.block (Aw.seq (Aw.region ?_))))
                          refine AwOps.v hT rfl ?_
                          refine AwOps.v hT rfl ?_
                          refine AwOps.byte hT rfl (by omega) (by have := hlt2; omega) ?_
                          refine AwOps.cl (F149 _) [] rfl ⟨⟨rfl, rfl⟩, trivial⟩ trivial rfl ?_   -- certpathref01.Alnum
                          rintro _ _ rfl
                          refine AwOps.v hT rfl ?_
                          refine AwOps.v hT rfl ?_
                          refine AwOps.split (t := 64) rfl (fun hb64 => ?_) (fun hb64 => ?_)
                          · skip
                            refine AwOps.v hT rfl ?_
                            refine AwOps.v hT rfl ?_
                            refine AwOps.byte hT rfl (by omega) (by have := hlt2; omega) ?_
                            refine AwOps.cl (F150 _ _ (by decide)) [] rfl ⟨⟨rfl, rfl⟩, ⟨rfl, rfl⟩, trivial⟩ trivial rfl ?_   -- certpathref01.Among
                            rintro _ _ rfl
                            iterate 3 refine AwOps.v hT rfl ?_
                            refine AwOps.split (t := 71) rfl (fun hb71 => ?_) (fun hb71 => ?_)
                            · skip
                              iterate 8 refine AwOps.v hT rfl ?_
                              first | refine AwOps.nm 79 rfl (by omega) (by omega) ?_ | skip
                              iterate 4 refine AwOps.v hT rfl ?_
                              refine AwOps.nil (Aw.condT rfl (Aw.seq (Aw.region ?_)))
                              iterate 3 refine AwOps.v hT rfl ?_
                              refine AwOps.nil ?_
                              refine Aw.ret ?_
                              refine ⟨_, [], rfl, trivial, ?_⟩
                              exact parts_no (by rw [partsOk, all_miss hlt2 (by rw [locX]; simp only [show (!alnumI (bt s i2)) = true from hb64, show (!amongB (bt s i2) mailC) = true from hb71, Bool.and_self, Bool.true_and, Bool.false_and, Bool.true_or, Bool.false_or, Bool.or_true, Bool.and_true, Bool.or_false, Bool.and_false, Bool.not_true, Bool.not_false])]; simp)
                            · skip
                              refine AwOps.v hT rfl ?_
                              refine AwOps.v hT rfl ?_
                              refine AwOps.byte hT rfl (by omega) (by have := hlt2; omega) ?_
                              refine AwOps.v hT rfl ?_
                              refine AwOps.v hT rfl ?_
                              refine AwOps.split (t := 76) rfl (fun hb76 => ?_) (fun hb76 => ?_)
                              · skip
                                iterate 3 refine AwOps.v hT rfl ?_
                                first | refine AwOps.nm 79 rfl (by omega) (by omega) ?_ | skip
                                refine AwOps.byte hT rfl (by omega) (by have := hlt2; omega) ?_
                                iterate 3 refine AwOps.v hT rfl ?_
                                refine AwOps.nil ?_
                                refine Aw.tst rfl (fun hb83 => ?_) (fun hb83 => ?_)
                                · skip
                                  refine Aw.seq (Aw.region ?_)
                                  iterate 3 refine AwOps.v hT rfl ?_
                                  refine AwOps.nil ?_
                                  refine Aw.ret ?_
                                  refine ⟨_, [], rfl, trivial, ?_⟩
                                  exact parts_no (by rw [partsOk, all_miss hlt2 (by rw [locX]; simp only [show (!alnumI (bt s i2)) = true from hb64, show (!amongB (bt s i2) mailC) = false from hb71, show (bt s i2 == 46) = true from hb76, show (bt s (i2 + 1) == 46) = true from hb83, Bool.and_self, Bool.true_and, Bool.false_and, Bool.true_or, Bool.false_or, Bool.or_true, Bool.and_true, Bool.or_false, Bool.and_false, Bool.not_true, Bool.not_false])]; simp)
                                · skip
                                  refine Aw.skip (Aw.region ?_)
                                  iterate 3 refine AwOps.v hT rfl ?_
                                  refine AwOps.nil ?_
                                  refine ⟨(i2 + 1), ?nx2, ?mu2, Less.tn ⟨rfl, ⟨incS hlt2 hB2, rfl, rfl, trivial⟩, trivial⟩⟩
                                  case nx2 =>
                                    try dsimp only
                                    exact ⟨hlt2, all_next hi2.2 (by rw [locX]; simp only [show (!alnumI (bt s i2)) = true from hb64, show (!amongB (bt s i2) mailC) = false from hb71, show (bt s i2 == 46) = true from hb76, show (bt s (i2 + 1) == 46) = false from hb83, Bool.and_self, Bool.true_and, Bool.false_and, Bool.true_or, Bool.false_or, Bool.or_true, Bool.and_true, Bool.or_false, Bool.and_false, Bool.not_true, Bool.not_false])⟩
                                  case mu2 =>
                                    try dsimp only
                                    first | omega | (simp only [w64] at *; omega) | (simp [w64] at *; omega)
                              · skip
                                iterate 3 refine AwOps.v hT rfl ?_
                                first | refine AwOps.nm 79 rfl (by omega) (by omega) ?_ | skip
                                iterate 4 refine AwOps.v hT rfl ?_
                                refine AwOps.nil (Aw.condF rfl (Aw.skip (Aw.region ?_)))
                                iterate 3 refine AwOps.v hT rfl ?_
                                refine AwOps.nil ?_
                                refine ⟨(i2 + 1), ?nx2, ?mu2, Less.tn ⟨rfl, ⟨incS hlt2 hB2, rfl, rfl, trivial⟩, trivial⟩⟩
                                case nx2 =>
                                  try dsimp only
                                  exact ⟨hlt2, all_next hi2.2 (by rw [locX]; simp only [show (!alnumI (bt s i2)) = true from hb64, show (!amongB (bt s i2) mailC) = false from hb71, show (bt s i2 == 46) = false from hb76, Bool.and_self, Bool.true_and, Bool.false_and, Bool.true_or, Bool.false_or, Bool.or_true, Bool.and_true, Bool.or_false, Bool.and_false, Bool.not_true, Bool.not_false])⟩
                                case mu2 =>
                                  try dsimp only
                                  first | omega | (simp only [w64] at *; omega) | (simp [w64] at *; omega)
                          · skip
                            iterate 9 refine AwOps.v hT rfl ?_
                            refine AwOps.byte hT rfl (by omega) (by have := hlt2; omega) ?_
                            refine AwOps.v hT rfl ?_
                            refine AwOps.v hT rfl ?_
                            refine AwOps.split (t := 76) rfl (fun hb76 => ?_) (fun hb76 => ?_)
                            · skip
                              iterate 3 refine AwOps.v hT rfl ?_
                              first | refine AwOps.nm 79 rfl (by omega) (by omega) ?_ | skip
                              refine AwOps.byte hT rfl (by omega) (by have := hlt2; omega) ?_
                              iterate 3 refine AwOps.v hT rfl ?_
                              refine AwOps.nil ?_
                              refine Aw.tst rfl (fun hb83 => ?_) (fun hb83 => ?_)
                              · skip
                                refine Aw.seq (Aw.region ?_)
                                iterate 3 refine AwOps.v hT rfl ?_
                                refine AwOps.nil ?_
                                refine Aw.ret ?_
                                refine ⟨_, [], rfl, trivial, ?_⟩
                                exact parts_no (by rw [partsOk, all_miss hlt2 (by rw [locX]; simp only [show (!alnumI (bt s i2)) = false from hb64, show (bt s i2 == 46) = true from hb76, show (bt s (i2 + 1) == 46) = true from hb83, Bool.and_self, Bool.true_and, Bool.false_and, Bool.true_or, Bool.false_or, Bool.or_true, Bool.and_true, Bool.or_false, Bool.and_false, Bool.not_true, Bool.not_false])]; simp)
                              · skip
                                refine Aw.skip (Aw.region ?_)
                                iterate 3 refine AwOps.v hT rfl ?_
                                refine AwOps.nil ?_
                                refine ⟨(i2 + 1), ?nx2, ?mu2, Less.tn ⟨rfl, ⟨incS hlt2 hB2, rfl, rfl, trivial⟩, trivial⟩⟩
                                case nx2 =>
                                  try dsimp only
                                  exact ⟨hlt2, all_next hi2.2 (by rw [locX]; simp only [show (!alnumI (bt s i2)) = false from hb64, show (bt s i2 == 46) = true from hb76, show (bt s (i2 + 1) == 46) = false from hb83, Bool.and_self, Bool.true_and, Bool.false_and, Bool.true_or, Bool.false_or, Bool.or_true, Bool.and_true, Bool.or_false, Bool.and_false, Bool.not_true, Bool.not_false])⟩
                                case mu2 =>
                                  try dsimp only
                                  first | omega | (simp only [w64] at *; omega) | (simp [w64] at *; omega)
                            · skip
                              iterate 3 refine AwOps.v hT rfl ?_
                              first | refine AwOps.nm 79 rfl (by omega) (by omega) ?_ | skip
                              iterate 4 refine AwOps.v hT rfl ?_
                              refine AwOps.nil (Aw.condF rfl (Aw.skip (Aw.region ?_)))
                              iterate 3 refine AwOps.v hT rfl ?_
                              refine AwOps.nil ?_
                              refine ⟨(i2 + 1), ?nx2, ?mu2, Less.tn ⟨rfl, ⟨incS hlt2 hB2, rfl, rfl, trivial⟩, trivial⟩⟩
                              case nx2 =>
                                try dsimp only
                                exact ⟨hlt2, all_next hi2.2 (by rw [locX]; simp only [show (!alnumI (bt s i2)) = false from hb64, show (bt s i2 == 46) = false from hb76, Bool.and_self, Bool.true_and, Bool.false_and, Bool.true_or, Bool.false_or, Bool.or_true, Bool.and_true, Bool.or_false, Bool.and_false, Bool.not_true, Bool.not_false])⟩
                              case mu2 =>
                                try dsimp only
                                first | omega | (simp only [w64] at *; omega) | (simp [w64] at *; omega)
                        · skip
                          refine Aw.exit (Aw.seq ?_)
                          refine Aw.regionS [] [(true, 0), (true, 1), (true, 2), (true, 3), (true, 4), (true, 5), (true, 6), (true, 7), (true, 8), (true, 9)] (by kernel_rfl) (by kernel_rfl) ?_
                          refine AwSch.take (Yd.val hT rfl rfl) ?_
                          refine AwSch.take (Yd.val hT rfl rfl) ?_
                          refine AwSch.take (Yd.sls hT rfl (by simp only [loI]; omega) (by simp only [loI, hiI]; omega) (by simp only [hiI]; omega)) ?_
                          iterate 3 refine AwSch.take (Yd.val hT rfl rfl) ?_
                          first | refine AwSch.nm 89 rfl (by omega) (by omega) ?_ | skip
                          refine AwSch.take (Yd.sls hT rfl (by simp only [loI]; omega) (by simp only [loI, hiI]; omega) (by simp only [hiI]; omega)) ?_
                          iterate 3 refine AwSch.take (Yd.val hT rfl rfl) ?_
                          refine AwSch.nil ?_
                          refine Aw.ret ?_
                          refine ⟨_, [], rfl, trivial, ?_⟩
                          refine parts_yes ?_
                          rw [partsOk, rall_full hi2.2 (by simpa using hb56) hi2.1]
                          simp only [show (decide ((s.size : Int) > 128)) = false from hb9, show (decide ((atK s : Int) < 1)) = false from hb24, show (decide ((atK s : Int) > 64)) = false from hb28, show ((atK s : Int) == (s.size : Int)) = false from hb34, show (!dnsB (s.extract (atK s + 1) s.size)) = false from hb42, show (bt s 0 == 46) = false from hb47, show (bt s (atK s - 1) == 46) = false from hb53, Bool.true_and, Bool.false_and, Bool.true_or, Bool.false_or, Bool.or_true, Bool.and_true, Bool.or_false, Bool.and_false, Bool.not_true, Bool.not_false]
      · skip
        have hk := of_decide_eq_false hb14
        have hK : (atK s : Int) = k5 := by
          have h := hi1.2.2
          have e : k5.toNat = s.size := by omega
          rw [e] at h
          unfold atK
          rw [h]
          omega
        subst hK
        have hKs := atK_le s
        iterate 5 refine AwOps.v hT rfl ?_
        refine AwOps.nil (Aw.condF rfl (Aw.exit (Aw.seq (Aw.seq (Aw.region ?_)))))
        iterate 3 refine AwOps.v hT rfl ?_
        refine AwOps.split (t := 24) rfl (fun hb24 => ?_) (fun hb24 => ?_)
        · skip
          iterate 29 refine AwOps.v hT rfl ?_
          refine AwOps.nil (Aw.condT rfl (Aw.seq (Aw.region ?_)))
          iterate 3 refine AwOps.v hT rfl ?_
          refine AwOps.nil ?_
          refine Aw.ret ?_
          refine ⟨_, [], rfl, trivial, ?_⟩
          refine parts_no ?_
          rw [partsOk]; simp only [show (decide ((s.size : Int) > 128)) = false from hb9, show (decide ((atK s : Int) < 1)) = true from hb24, Bool.true_and, Bool.false_and, Bool.true_or, Bool.false_or, Bool.or_true, Bool.and_true, Bool.or_false, Bool.and_false, Bool.not_true, Bool.not_false]
        · skip
          have hx24 := of_decide_eq_false hb24
          iterate 4 refine AwOps.v hT rfl ?_
          refine AwOps.split (t := 28) rfl (fun hb28 => ?_) (fun hb28 => ?_)
          · skip
            iterate 25 refine AwOps.v hT rfl ?_
            refine AwOps.nil (Aw.condT rfl (Aw.seq (Aw.region ?_)))
            iterate 3 refine AwOps.v hT rfl ?_
            refine AwOps.nil ?_
            refine Aw.ret ?_
            refine ⟨_, [], rfl, trivial, ?_⟩
            refine parts_no ?_
            rw [partsOk]; simp only [show (decide ((s.size : Int) > 128)) = false from hb9, show (decide ((atK s : Int) < 1)) = false from hb24, show (decide ((atK s : Int) > 64)) = true from hb28, Bool.true_and, Bool.false_and, Bool.true_or, Bool.false_or, Bool.or_true, Bool.and_true, Bool.or_false, Bool.and_false, Bool.not_true, Bool.not_false]
          · skip
            have hx28 := of_decide_eq_false hb28
            iterate 6 refine AwOps.v hT rfl ?_
            refine AwOps.split (t := 34) rfl (fun hb34 => ?_) (fun hb34 => ?_)
            · skip
              iterate 19 refine AwOps.v hT rfl ?_
              refine AwOps.nil (Aw.condT rfl (Aw.seq (Aw.region ?_)))
              iterate 3 refine AwOps.v hT rfl ?_
              refine AwOps.nil ?_
              refine Aw.ret ?_
              refine ⟨_, [], rfl, trivial, ?_⟩
              refine parts_no ?_
              rw [partsOk]; simp only [show (decide ((s.size : Int) > 128)) = false from hb9, show (decide ((atK s : Int) < 1)) = false from hb24, show (decide ((atK s : Int) > 64)) = false from hb28, show ((atK s : Int) == (s.size : Int)) = true from hb34, Bool.true_and, Bool.false_and, Bool.true_or, Bool.false_or, Bool.or_true, Bool.and_true, Bool.or_false, Bool.and_false, Bool.not_true, Bool.not_false]
            · skip
              have hx34 := beq_eq_false_iff_ne.1 hb34
              iterate 3 refine AwOps.v hT rfl ?_
              first | refine AwOps.nm 37 rfl (by omega) (by omega) ?_ | skip
              refine AwOps.sls hT rfl (by simp only [loI]; omega) (by simp only [loI, hiI]; omega) (by simp only [hiI]; omega) ?_
              refine AwOps.cl (F148 _ (by first | omega | (simp only [ByteArray.size_extract, ByteArray.size_append, loI, hiI]; omega))) [] rfl ⟨⟨rfl, rfl⟩, trivial⟩ trivial rfl ?_   -- certpathref07.DNS
              rintro _ _ rfl
              iterate 3 refine AwOps.v hT rfl ?_
              refine AwOps.split (t := 42) rfl (fun hb42 => ?_) (fun hb42 => ?_)
              · skip
                iterate 11 refine AwOps.v hT rfl ?_
                refine AwOps.nil (Aw.condT rfl (Aw.seq (Aw.region ?_)))
                iterate 3 refine AwOps.v hT rfl ?_
                refine AwOps.nil ?_
                refine Aw.ret ?_
                refine ⟨_, [], rfl, trivial, ?_⟩
                refine parts_no ?_
                rw [partsOk]; simp only [show (decide ((s.size : Int) > 128)) = false from hb9, show (decide ((atK s : Int) < 1)) = false from hb24, show (decide ((atK s : Int) > 64)) = false from hb28, show ((atK s : Int) == (s.size : Int)) = false from hb34, show (!dnsB (s.extract (atK s + 1) s.size)) = true from hb42, Bool.true_and, Bool.false_and, Bool.true_or, Bool.false_or, Bool.or_true, Bool.and_true, Bool.or_false, Bool.and_false, Bool.not_true, Bool.not_false]
              · skip
                refine AwOps.v hT rfl ?_
                refine AwOps.byte hT rfl (by omega) (by omega) ?_
                iterate 3 refine AwOps.v hT rfl ?_
                refine AwOps.split (t := 47) rfl (fun hb47 => ?_) (fun hb47 => ?_)
                · skip
                  iterate 6 refine AwOps.v hT rfl ?_
                  refine AwOps.nil (Aw.condT rfl (Aw.seq (Aw.region ?_)))
                  iterate 3 refine AwOps.v hT rfl ?_
                  refine AwOps.nil ?_
                  refine Aw.ret ?_
                  refine ⟨_, [], rfl, trivial, ?_⟩
                  refine parts_no ?_
                  rw [partsOk]; simp only [show (decide ((s.size : Int) > 128)) = false from hb9, show (decide ((atK s : Int) < 1)) = false from hb24, show (decide ((atK s : Int) > 64)) = false from hb28, show ((atK s : Int) == (s.size : Int)) = false from hb34, show (!dnsB (s.extract (atK s + 1) s.size)) = false from hb42, show (bt s 0 == 46) = true from hb47, Bool.true_and, Bool.false_and, Bool.true_or, Bool.false_or, Bool.or_true, Bool.and_true, Bool.or_false, Bool.and_false, Bool.not_true, Bool.not_false]
                · skip
                  iterate 3 refine AwOps.v hT rfl ?_
                  first | refine AwOps.nm 50 rfl (by omega) (by omega) ?_ | skip
                  refine AwOps.byte hT rfl (by omega) (by omega) ?_
                  refine AwOps.v hT rfl ?_
                  refine AwOps.v hT rfl ?_
                  refine AwOps.nil ?_
                  refine Aw.tst rfl (fun hb53 => ?_) (fun hb53 => ?_)
                  · skip
                    replace hb53 : (bt s (atK s - 1) == 46) = true := by rwa [show ((atK s : Int) - 1).toNat = atK s - 1 by omega] at hb53
                    refine Aw.seq (Aw.region ?_)
                    iterate 3 refine AwOps.v hT rfl ?_
                    refine AwOps.nil ?_
                    refine Aw.ret ?_
                    refine ⟨_, [], rfl, trivial, ?_⟩
                    refine parts_no ?_
                    rw [partsOk]; simp only [show (decide ((s.size : Int) > 128)) = false from hb9, show (decide ((atK s : Int) < 1)) = false from hb24, show (decide ((atK s : Int) > 64)) = false from hb28, show ((atK s : Int) == (s.size : Int)) = false from hb34, show (!dnsB (s.extract (atK s + 1) s.size)) = false from hb42, show (bt s 0 == 46) = false from hb47, show (bt s (atK s - 1) == 46) = true from hb53, Bool.true_and, Bool.false_and, Bool.true_or, Bool.false_or, Bool.or_true, Bool.and_true, Bool.or_false, Bool.and_false, Bool.not_true, Bool.not_false]
                  · skip
                    replace hb53 : (bt s (atK s - 1) == 46) = false := by rwa [show ((atK s : Int) - 1).toNat = atK s - 1 by omega] at hb53
                    refine Aw.skip (Aw.seq (Aw.seq (Aw.region ?_)))
                    refine AwOps.v hT rfl ?_
                    refine AwOps.nil (Aw.block ?_)
                    have hB2 : atK s ≤ maxLen := by unfold maxLen; omega
                    refine Aw.lp (ι := Nat) (n := 91) [(0, _), (5, _)] [] (fun gq => [(6, sc (.int .i64 gq))]) (fun gq => []) (fun gq => gq ≤ atK s ∧ ((List.range gq).all (fun i => !locX s i) = true)) (fun gq => atK s - gq) (0) ?ok2 (Less.tn ⟨rfl, ⟨rfl, rfl, rfl, trivial⟩, trivial⟩) ?bd2
                    case ok2 =>
                      try dsimp only
                      exact ⟨Nat.zero_le _, rfl⟩
                    case bd2 =>
                      intro i2 hi2
                      try dsimp only at hi2
                      show Aw _ _ _ ⟨91, [(6, sc (.int .i64 i2))] ++ [(0, _), (5, _)], [] ++ []⟩ _
                      refine Aw.seq (Aw.seq (Aw.region ?_))
                      iterate 3 refine AwOps.v hT rfl ?_
                      refine AwOps.nil ?_
                      refine Aw.tst rfl (fun hb56 => ?_) (fun hb56 => ?_)
                      · skip
                        have hlt2 : i2 < atK s := by simpa using hb56
                        refine Aw.skip (Aw.seq (Aw.block (Aw.seq (Aw.region ?_))))
                        refine AwOps.v hT rfl ?_
                        refine AwOps.v hT rfl ?_
                        refine AwOps.byte hT rfl (by omega) (by have := hlt2; omega) ?_
                        refine AwOps.cl (F149 _) [] rfl ⟨⟨rfl, rfl⟩, trivial⟩ trivial rfl ?_   -- certpathref01.Alnum
                        rintro _ _ rfl
                        refine AwOps.v hT rfl ?_
                        refine AwOps.v hT rfl ?_
                        refine AwOps.split (t := 64) rfl (fun hb64 => ?_) (fun hb64 => ?_)
                        · skip
                          refine AwOps.v hT rfl ?_
                          refine AwOps.v hT rfl ?_
                          refine AwOps.byte hT rfl (by omega) (by have := hlt2; omega) ?_
                          refine AwOps.cl (F150 _ _ (by decide)) [] rfl ⟨⟨rfl, rfl⟩, ⟨rfl, rfl⟩, trivial⟩ trivial rfl ?_   -- certpathref01.Among
                          rintro _ _ rfl
                          iterate 3 refine AwOps.v hT rfl ?_
                          refine AwOps.split (t := 71) rfl (fun hb71 => ?_) (fun hb71 => ?_)
                          · skip
                            iterate 8 refine AwOps.v hT rfl ?_
                            first | refine AwOps.nm 79 rfl (by omega) (by omega) ?_ | skip
                            iterate 4 refine AwOps.v hT rfl ?_
                            refine AwOps.nil (Aw.condT rfl (Aw.seq (Aw.region ?_)))
                            iterate 3 refine AwOps.v hT rfl ?_
                            refine AwOps.nil ?_
                            refine Aw.ret ?_
                            refine ⟨_, [], rfl, trivial, ?_⟩
                            exact parts_no (by rw [partsOk, all_miss hlt2 (by rw [locX]; simp only [show (!alnumI (bt s i2)) = true from hb64, show (!amongB (bt s i2) mailC) = true from hb71, Bool.and_self, Bool.true_and, Bool.false_and, Bool.true_or, Bool.false_or, Bool.or_true, Bool.and_true, Bool.or_false, Bool.and_false, Bool.not_true, Bool.not_false])]; simp)
                          · skip
                            refine AwOps.v hT rfl ?_
                            refine AwOps.v hT rfl ?_
                            refine AwOps.byte hT rfl (by omega) (by have := hlt2; omega) ?_
                            refine AwOps.v hT rfl ?_
                            refine AwOps.v hT rfl ?_
                            refine AwOps.split (t := 76) rfl (fun hb76 => ?_) (fun hb76 => ?_)
                            · skip
                              iterate 3 refine AwOps.v hT rfl ?_
                              first | refine AwOps.nm 79 rfl (by omega) (by omega) ?_ | skip
                              refine AwOps.byte hT rfl (by omega) (by have := hlt2; omega) ?_
                              iterate 3 refine AwOps.v hT rfl ?_
                              refine AwOps.nil ?_
                              refine Aw.tst rfl (fun hb83 => ?_) (fun hb83 => ?_)
                              · skip
                                refine Aw.seq (Aw.region ?_)
                                iterate 3 refine AwOps.v hT rfl ?_
                                refine AwOps.nil ?_
                                refine Aw.ret ?_
                                refine ⟨_, [], rfl, trivial, ?_⟩
                                exact parts_no (by rw [partsOk, all_miss hlt2 (by rw [locX]; simp only [show (!alnumI (bt s i2)) = true from hb64, show (!amongB (bt s i2) mailC) = false from hb71, show (bt s i2 == 46) = true from hb76, show (bt s (i2 + 1) == 46) = true from hb83, Bool.and_self, Bool.true_and, Bool.false_and, Bool.true_or, Bool.false_or, Bool.or_true, Bool.and_true, Bool.or_false, Bool.and_false, Bool.not_true, Bool.not_false])]; simp)
                              · skip
                                refine Aw.skip (Aw.region ?_)
                                iterate 3 refine AwOps.v hT rfl ?_
                                refine AwOps.nil ?_
                                refine ⟨(i2 + 1), ?nx2, ?mu2, Less.tn ⟨rfl, ⟨incS hlt2 hB2, rfl, rfl, trivial⟩, trivial⟩⟩
                                case nx2 =>
                                  try dsimp only
                                  exact ⟨hlt2, all_next hi2.2 (by rw [locX]; simp only [show (!alnumI (bt s i2)) = true from hb64, show (!amongB (bt s i2) mailC) = false from hb71, show (bt s i2 == 46) = true from hb76, show (bt s (i2 + 1) == 46) = false from hb83, Bool.and_self, Bool.true_and, Bool.false_and, Bool.true_or, Bool.false_or, Bool.or_true, Bool.and_true, Bool.or_false, Bool.and_false, Bool.not_true, Bool.not_false])⟩
                                case mu2 =>
                                  try dsimp only
                                  first | omega | (simp only [w64] at *; omega) | (simp [w64] at *; omega)
                            · skip
                              iterate 3 refine AwOps.v hT rfl ?_
                              first | refine AwOps.nm 79 rfl (by omega) (by omega) ?_ | skip
                              iterate 4 refine AwOps.v hT rfl ?_
                              refine AwOps.nil (Aw.condF rfl (Aw.skip (Aw.region ?_)))
                              iterate 3 refine AwOps.v hT rfl ?_
                              refine AwOps.nil ?_
                              refine ⟨(i2 + 1), ?nx2, ?mu2, Less.tn ⟨rfl, ⟨incS hlt2 hB2, rfl, rfl, trivial⟩, trivial⟩⟩
                              case nx2 =>
                                try dsimp only
                                exact ⟨hlt2, all_next hi2.2 (by rw [locX]; simp only [show (!alnumI (bt s i2)) = true from hb64, show (!amongB (bt s i2) mailC) = false from hb71, show (bt s i2 == 46) = false from hb76, Bool.and_self, Bool.true_and, Bool.false_and, Bool.true_or, Bool.false_or, Bool.or_true, Bool.and_true, Bool.or_false, Bool.and_false, Bool.not_true, Bool.not_false])⟩
                              case mu2 =>
                                try dsimp only
                                first | omega | (simp only [w64] at *; omega) | (simp [w64] at *; omega)
                        · skip
                          iterate 9 refine AwOps.v hT rfl ?_
                          refine AwOps.byte hT rfl (by omega) (by have := hlt2; omega) ?_
                          refine AwOps.v hT rfl ?_
                          refine AwOps.v hT rfl ?_
                          refine AwOps.split (t := 76) rfl (fun hb76 => ?_) (fun hb76 => ?_)
                          · skip
                            iterate 3 refine AwOps.v hT rfl ?_
                            first | refine AwOps.nm 79 rfl (by omega) (by omega) ?_ | skip
                            refine AwOps.byte hT rfl (by omega) (by have := hlt2; omega) ?_
                            iterate 3 refine AwOps.v hT rfl ?_
                            refine AwOps.nil ?_
                            refine Aw.tst rfl (fun hb83 => ?_) (fun hb83 => ?_)
                            · skip
                              refine Aw.seq (Aw.region ?_)
                              iterate 3 refine AwOps.v hT rfl ?_
                              refine AwOps.nil ?_
                              refine Aw.ret ?_
                              refine ⟨_, [], rfl, trivial, ?_⟩
                              exact parts_no (by rw [partsOk, all_miss hlt2 (by rw [locX]; simp only [show (!alnumI (bt s i2)) = false from hb64, show (bt s i2 == 46) = true from hb76, show (bt s (i2 + 1) == 46) = true from hb83, Bool.and_self, Bool.true_and, Bool.false_and, Bool.true_or, Bool.false_or, Bool.or_true, Bool.and_true, Bool.or_false, Bool.and_false, Bool.not_true, Bool.not_false])]; simp)
                            · skip
                              refine Aw.skip (Aw.region ?_)
                              iterate 3 refine AwOps.v hT rfl ?_
                              refine AwOps.nil ?_
                              refine ⟨(i2 + 1), ?nx2, ?mu2, Less.tn ⟨rfl, ⟨incS hlt2 hB2, rfl, rfl, trivial⟩, trivial⟩⟩
                              case nx2 =>
                                try dsimp only
                                exact ⟨hlt2, all_next hi2.2 (by rw [locX]; simp only [show (!alnumI (bt s i2)) = false from hb64, show (bt s i2 == 46) = true from hb76, show (bt s (i2 + 1) == 46) = false from hb83, Bool.and_self, Bool.true_and, Bool.false_and, Bool.true_or, Bool.false_or, Bool.or_true, Bool.and_true, Bool.or_false, Bool.and_false, Bool.not_true, Bool.not_false])⟩
                              case mu2 =>
                                try dsimp only
                                first | omega | (simp only [w64] at *; omega) | (simp [w64] at *; omega)
                          · skip
                            iterate 3 refine AwOps.v hT rfl ?_
                            first | refine AwOps.nm 79 rfl (by omega) (by omega) ?_ | skip
                            iterate 4 refine AwOps.v hT rfl ?_
                            refine AwOps.nil (Aw.condF rfl (Aw.skip (Aw.region ?_)))
                            iterate 3 refine AwOps.v hT rfl ?_
                            refine AwOps.nil ?_
                            refine ⟨(i2 + 1), ?nx2, ?mu2, Less.tn ⟨rfl, ⟨incS hlt2 hB2, rfl, rfl, trivial⟩, trivial⟩⟩
                            case nx2 =>
                              try dsimp only
                              exact ⟨hlt2, all_next hi2.2 (by rw [locX]; simp only [show (!alnumI (bt s i2)) = false from hb64, show (bt s i2 == 46) = false from hb76, Bool.and_self, Bool.true_and, Bool.false_and, Bool.true_or, Bool.false_or, Bool.or_true, Bool.and_true, Bool.or_false, Bool.and_false, Bool.not_true, Bool.not_false])⟩
                            case mu2 =>
                              try dsimp only
                              first | omega | (simp only [w64] at *; omega) | (simp [w64] at *; omega)
                      · skip
                        refine Aw.exit (Aw.seq ?_)
                        refine Aw.regionS [] [(true, 0), (true, 1), (true, 2), (true, 3), (true, 4), (true, 5), (true, 6), (true, 7), (true, 8), (true, 9)] (by kernel_rfl) (by kernel_rfl) ?_
                        refine AwSch.take (Yd.val hT rfl rfl) ?_
                        refine AwSch.take (Yd.val hT rfl rfl) ?_
                        refine AwSch.take (Yd.sls hT rfl (by simp only [loI]; omega) (by simp only [loI, hiI]; omega) (by simp only [hiI]; omega)) ?_
                        iterate 3 refine AwSch.take (Yd.val hT rfl rfl) ?_
                        first | refine AwSch.nm 89 rfl (by omega) (by omega) ?_ | skip
                        refine AwSch.take (Yd.sls hT rfl (by simp only [loI]; omega) (by simp only [loI, hiI]; omega) (by simp only [hiI]; omega)) ?_
                        iterate 3 refine AwSch.take (Yd.val hT rfl rfl) ?_
                        refine AwSch.nil ?_
                        refine Aw.ret ?_
                        refine ⟨_, [], rfl, trivial, ?_⟩
                        refine parts_yes ?_
                        rw [partsOk, rall_full hi2.2 (by simpa using hb56) hi2.1]
                        simp only [show (decide ((s.size : Int) > 128)) = false from hb9, show (decide ((atK s : Int) < 1)) = false from hb24, show (decide ((atK s : Int) > 64)) = false from hb28, show ((atK s : Int) == (s.size : Int)) = false from hb34, show (!dnsB (s.extract (atK s + 1) s.size)) = false from hb42, show (bt s 0 == 46) = false from hb47, show (bt s (atK s - 1) == 46) = false from hb53, Bool.true_and, Bool.false_and, Bool.true_or, Bool.false_or, Bool.or_true, Bool.and_true, Bool.or_false, Bool.and_false, Bool.not_true, Bool.not_false]
end Go.Proofs.YtbdgmondalkhlaaDoor.Aw
