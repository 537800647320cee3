/- The law's contract, first part. -/
import Derived.Test.YtaoommhpediaeaaPa
set_option linter.unusedVariables false
set_option linter.unusedSimpArgs false
set_option linter.defProp false

namespace Go.R

structure Rnd where
  crash : List Int
  restart : List Int
  reach : List (List Bool)
  time : Int
  timeout : Int
def j1 (n : Int) : List D := [di n]
abbrev dJ (l : List Int) : D := .slice 0 1 (l.map j1)
def rd5 (x : Rnd) : List D := [dJ x.crash, dJ x.restart, dR x.reach, di x.time, di x.timeout]
attribute [go_sem] j1 rd5


def mEnts (m : List (Int × Nat)) : List (D × V) := m.map fun p => (di p.1, .d (di p.2))

theorem gcOb_m (S : Store) (q : Nat) (m : List (Int × Nat)) : gcOb S q (.map (mEnts m)) = .map (mEnts m) := by
  simp only [gcOb, mEnts, List.map_map]
  congr 1
attribute [go_sem ↓] gcOb_m

theorem crash_both {l : List Ctl} {m : List (Int × Nat)} {g d : Int} (h : Inv l m g d) (j : Int) : ∃ a e, RUN CF 6 [dC l, di j] = some (.tup [.d (dC a), .d (di e)], []) ∧ RUN CF 7 [dC l, di j] = some (.tup [.d (dC a), .d (di e)], []) ∧ a.length ≤ 5 ∧ (e = 0 → Inv a m g d ∧ a.length = l.length) := by
  have h5 := h.len5
  by_cases hj : j < 0 ∨ l.length ≤ j
  · exact ⟨[], 10, F6_out l j hj, F7_out l j hj, by simp, fun h => absurd h (by decide)⟩
  · obtain ⟨i, rfl⟩ : ∃ i : Nat, j = i := ⟨j.toNat, by omega⟩
    have hi : i < l.length := by omega
    have h6 := F6_in l i (by omega) hi
    have h7 := F7_in l i (by omega) hi
    cases hu : up l i with
    | true =>
      rw [hu] at h6 h7
      exact ⟨_, 0, h6, h7, by simpa using h5, fun _ => ⟨h.set hi (by decide), by simp⟩⟩
    | false =>
      rw [hu] at h6 h7
      exact ⟨[], 11, h6, h7, by simp, fun h => absurd h (by decide)⟩
theorem restart_both {l : List Ctl} {m : List (Int × Nat)} {g d : Int} (h : Inv l m g d) (j t : Int) : ∃ a e, RUN CF 9 [dC l, di j, di t] = some (.tup [.d (dC a), .d (di e)], []) ∧ RUN CF 10 [dC l, di j, di t] = some (.tup [.d (dC a), .d (di e)], []) ∧ a.length ≤ 5 ∧ (e = 0 → Inv a m g d ∧ a.length = l.length) := by
  have h5 := h.len5
  by_cases hj : j < 0 ∨ l.length ≤ j
  · exact ⟨[], 10, F9_out l j t hj, F10_out l j t hj, by simp, fun h => absurd h (by decide)⟩
  · obtain ⟨i, rfl⟩ : ∃ i : Nat, j = i := ⟨j.toNat, by omega⟩
    have hi : i < l.length := by omega
    have h6 := F9_in l i t (by omega) hi
    have h7 := F10_in l i t (by omega) hi
    cases hu : up l i with
    | true =>
      rw [hu] at h6 h7
      exact ⟨[], 11, h6, h7, by simp, fun h => absurd h (by decide)⟩
    | false =>
      rw [hu] at h6 h7
      cases hd : decide (t < (cx l i).hd ∨ 2147483648 < t) with
      | true =>
        rw [hd] at h6 h7
        exact ⟨[], 1, h6, h7, by simp, fun h => absurd h (by decide)⟩
      | false =>
        rw [hd] at h6 h7
        exact ⟨_, 0, h6, h7, by simpa using h5, fun _ => ⟨h.set hi (by decide), by simp⟩⟩

section
variable {n : Nat} {xs : List Rnd} {x : Rnd} {i : Nat} {m : List (Int × Nat)} {g d : Int}

theorem L3_1_eq (hcl : x.crash.length ≤ 9223372036854775807) : ∀ (rest : List Int) (p : Nat) (j : Int) (l : List Ctl), j = p → x.crash.drop p = rest → Inv l m g d → ∃ l', Inv l' m g d ∧ l'.length = l.length ∧ ∀ k : List Kt,
    go CF (.code L3_1 :: .lp [0, 5, 7, 8, 9, 11, 61, 62, 63, 68, 69, 70] L3_1 5 :: k) (some (.normal, stA [(0, .d (di n)), (5, .d (dC l)), (7, .mp 0), (8, .d (di g)), (9, .d (di d)), (11, .loc 4 1 0 0), (61, .d (.slice 0 5 (xs.map rd5))), (62, .d (.int .i64 xs.length)), (63, .d (.int .i64 i)), (68, .d (dJ x.crash)), (69, .d (.int .i64 x.crash.length)), (70, .d (.int .i64 j))] nos
      [(0, .map (mEnts m)), (1, .grow true 3 1 []), (2, .grow true 3 1 []), (3, .grow true 71 1 []), (4, .row true 32 5 [[.d (dJ x.crash), .d (dJ x.restart), .d (dR x.reach), .d (di x.time), .d (di x.timeout)]])] 5)) =
    go CF k (some (.exit 2, stA [(0, .d (di n)), (5, .d (dC l')), (7, .mp 0), (8, .d (di g)), (9, .d (di d)), (11, .loc 4 1 0 0), (61, .d (.slice 0 5 (xs.map rd5))), (62, .d (.int .i64 xs.length)), (63, .d (.int .i64 i))] nos
      [(0, .map (mEnts m)), (1, .grow true 3 1 []), (2, .grow true 3 1 []), (3, .grow true 71 1 []), (4, .row true 32 5 [[.d (dJ x.crash), .d (dJ x.restart), .d (dR x.reach), .d (di x.time), .d (di x.timeout)]])] 5)) := by
  intro rest
  induction rest with
  | nil =>
    rintro p j l rfl hp hI
    have hp := drop_nil hp
    refine ⟨l, hI, rfl, fun k => ?_⟩
    rw [L3_1g]
    simp only [go_sem, ↓reduceIte, Nat.reduceEqDiff, Nat.reduceAdd, Nat.reduceBEq, Nat.reduceLeDiff, Nat.reduceSub, Nat.reduceLT, Nat.reduceMul, reduceCtorEq, hp]
  | cons y rest ih =>
    rintro p j l rfl hp hI
    obtain ⟨h1, h2, h3⟩ := drop_cons hp
    obtain ⟨a, e, g6, g7, ga, he⟩ := crash_both hI y
    have g8 := F8_eq a a (by omega)
    by_cases he0 : e = 0
    · obtain ⟨hIa, hal⟩ := he he0
      obtain ⟨l', q1, q2, q3⟩ := ih (p + 1) _ a (wrap_succ (by omega)) h3 hIa
      refine ⟨l', q1, by omega, fun k => ?_⟩
      subst he0
      rw [L3_1g]
      simp only [go_sem, ↓reduceIte, Nat.reduceEqDiff, Nat.reduceAdd, Nat.reduceBEq, Nat.reduceLeDiff, Nat.reduceSub, Nat.reduceLT, Nat.reduceMul, reduceCtorEq, h1, h2, g6, g7, g8, bne_self_eq_false, decide_true]
      exact q3 k
    · obtain ⟨l', q1, q2, q3⟩ := ih (p + 1) _ l (wrap_succ (by omega)) h3 hI
      refine ⟨l', q1, by omega, fun k => ?_⟩
      have he1 : (e == 0) = false := by simpa using he0
      rw [L3_1g]
      simp only [go_sem, ↓reduceIte, Nat.reduceEqDiff, Nat.reduceAdd, Nat.reduceBEq, Nat.reduceLeDiff, Nat.reduceSub, Nat.reduceLT, Nat.reduceMul, reduceCtorEq, h1, h2, g6, g7, g8, bne_self_eq_false, decide_true, he1]
      exact q3 k
theorem L3_2_eq (hcl : x.restart.length ≤ 9223372036854775807) : ∀ (rest : List Int) (p : Nat) (j : Int) (l : List Ctl), j = p → x.restart.drop p = rest → Inv l m g d → ∃ l', Inv l' m g d ∧ l'.length = l.length ∧ ∀ k : List Kt,
    go CF (.code L3_2 :: .lp [0, 5, 7, 8, 9, 11, 61, 62, 63, 100, 101, 102] L3_2 5 :: k) (some (.normal, stA [(0, .d (di n)), (5, .d (dC l)), (7, .mp 0), (8, .d (di g)), (9, .d (di d)), (11, .loc 4 1 0 0), (61, .d (.slice 0 5 (xs.map rd5))), (62, .d (.int .i64 xs.length)), (63, .d (.int .i64 i)), (100, .d (dJ x.restart)), (101, .d (.int .i64 x.restart.length)), (102, .d (.int .i64 j))] nos
      [(0, .map (mEnts m)), (1, .grow true 3 1 []), (2, .grow true 3 1 []), (3, .grow true 71 1 []), (4, .row true 32 5 [[.d (dJ x.crash), .d (dJ x.restart), .d (dR x.reach), .d (di x.time), .d (di x.timeout)]])] 5)) =
    go CF k (some (.exit 4, stA [(0, .d (di n)), (5, .d (dC l')), (7, .mp 0), (8, .d (di g)), (9, .d (di d)), (11, .loc 4 1 0 0), (61, .d (.slice 0 5 (xs.map rd5))), (62, .d (.int .i64 xs.length)), (63, .d (.int .i64 i))] nos
      [(0, .map (mEnts m)), (1, .grow true 3 1 []), (2, .grow true 3 1 []), (3, .grow true 71 1 []), (4, .row true 32 5 [[.d (dJ x.crash), .d (dJ x.restart), .d (dR x.reach), .d (di x.time), .d (di x.timeout)]])] 5)) := by
  intro rest
  induction rest with
  | nil =>
    rintro p j l rfl hp hI
    have hp := drop_nil hp
    refine ⟨l, hI, rfl, fun k => ?_⟩
    rw [L3_2g]
    simp only [go_sem, ↓reduceIte, Nat.reduceEqDiff, Nat.reduceAdd, Nat.reduceBEq, Nat.reduceLeDiff, Nat.reduceSub, Nat.reduceLT, Nat.reduceMul, reduceCtorEq, hp]
  | cons y rest ih =>
    rintro p j l rfl hp hI
    obtain ⟨h1, h2, h3⟩ := drop_cons hp
    obtain ⟨a, e, g6, g7, ga, he⟩ := restart_both hI y x.time
    have g8 := F8_eq a a (by omega)
    by_cases he0 : e = 0
    · obtain ⟨hIa, hal⟩ := he he0
      obtain ⟨l', q1, q2, q3⟩ := ih (p + 1) _ a (wrap_succ (by omega)) h3 hIa
      refine ⟨l', q1, by omega, fun k => ?_⟩
      subst he0
      rw [L3_2g]
      simp only [go_sem, ↓reduceIte, Nat.reduceEqDiff, Nat.reduceAdd, Nat.reduceBEq, Nat.reduceLeDiff, Nat.reduceSub, Nat.reduceLT, Nat.reduceMul, reduceCtorEq, h1, h2, g6, g7, g8, bne_self_eq_false, decide_true]
      exact q3 k
    · obtain ⟨l', q1, q2, q3⟩ := ih (p + 1) _ l (wrap_succ (by omega)) h3 hI
      refine ⟨l', q1, by omega, fun k => ?_⟩
      have he1 : (e == 0) = false := by simpa using he0
      rw [L3_2g]
      simp only [go_sem, ↓reduceIte, Nat.reduceEqDiff, Nat.reduceAdd, Nat.reduceBEq, Nat.reduceLeDiff, Nat.reduceSub, Nat.reduceLT, Nat.reduceMul, reduceCtorEq, h1, h2, g6, g7, g8, bne_self_eq_false, decide_true, he1]
      exact q3 k
end
end Go.R
