/- The law's contract: it returns true. -/
import Derived.Test.YtaoommhpediaeaaCf
set_option linter.unusedVariables false
set_option linter.unusedSimpArgs false
set_option linter.defProp false

namespace Go.R

section
variable {xs : List Rnd} {x : Rnd} {i : Nat} {l a : List Ctl} {m : List (Int × Nat)} {g d : Int}

theorem L3_3_eq {n : Nat} (hn : n = l.length) (hI : Inv l m g d) {r : List (List Bool)} {t : Int} (hr : r = x.reach) (hT : TickSpec l r t a) (hs : sqB r l.length = true) : ∃ m' g' d' h', Inv a m' g' d' ∧ (h' = 0 ∨ h' = 1) ∧ ∀ k : List Kt,
    go CF (.code L3_3 :: .lp [0, 5, 7, 8, 9, 11, 24, 28, 29, 61, 62, 63, 169, 170, 171] L3_3 5 :: k) (some (.normal, stA [(0, .d (di n)), (5, .d (dC l)), (7, .mp 0), (8, .d (di g)), (9, .d (di d)), (11, .loc 4 1 0 0), (24, .d (dC a)), (28, .d (di 0)), (29, .d (di g)), (61, .d (.slice 0 5 (xs.map rd5))), (62, .d (.int .i64 xs.length)), (63, .d (.int .i64 i)), (169, .d (dC a)), (170, .d (.int .i64 l.length)), (171, .d (.int .i64 0))] nos (lawSl m x) 5)) =
    go CF k (some (.exit 6, stA [(0, .d (di n)), (7, .mp 0), (9, .d (di d')), (24, .d (dC a)), (28, .d (di h')), (29, .d (di g')), (61, .d (.slice 0 5 (xs.map rd5))), (62, .d (.int .i64 xs.length)), (63, .d (.int .i64 i))] nos (lawSl m' x) 5)) := by
  subst hr
  have hal := hT.len
  have h5 := hI.len5
  have fin : ∀ (k : List Kt) (m : List (Int × Nat)) (d h w : Int), go CF (.code L3_3 :: .lp [0, 5, 7, 8, 9, 11, 24, 28, 29, 61, 62, 63, 169, 170, 171] L3_3 5 :: k) (some (.normal, stA [(0, .d (di n)), (5, .d (dC l)), (7, .mp 0), (8, .d (di g)), (9, .d (di d)), (11, .loc 4 1 0 0), (24, .d (dC a)), (28, .d (di h)), (29, .d (di w)), (61, .d (.slice 0 5 (xs.map rd5))), (62, .d (.int .i64 xs.length)), (63, .d (.int .i64 i)), (169, .d (dC a)), (170, .d (.int .i64 l.length)), (171, .d (.int .i64 (l.length : Nat)))] nos (lawSl m x) 5)) =
      go CF k (some (.exit 6, stA [(0, .d (di n)), (7, .mp 0), (9, .d (di d)), (24, .d (dC a)), (28, .d (di h)), (29, .d (di w)), (61, .d (.slice 0 5 (xs.map rd5))), (62, .d (.int .i64 xs.length)), (63, .d (.int .i64 i))] nos (lawSl m x) 5)) := by
    intro k m d h w
    have hlt : ¬ l.length < l.length := by omega
    rw [L3_3g]
    simp only [go_sem, ↓reduceIte, Nat.reduceEqDiff, Nat.reduceAdd, Nat.reduceBEq, Nat.reduceLeDiff, Nat.reduceSub, Nat.reduceLT, Nat.reduceMul, reduceCtorEq, hlt]
  by_cases hex : ∃ q, q < l.length ∧ act a q = true
  · obtain ⟨q, hq, ha⟩ := hex
    obtain ⟨k1, k2, k3, k4⟩ := act_ok hI hT hq ha
    have hoth : ∀ p, p < l.length → p ≠ q → act a p = false := by
      intro p hp hne
      cases h : act a p with
      | false => rfl
      | true => exact absurd (act_one hI hT hp hq h ha) hne
    have hfd : 0 ≤ fdev d (cx a q).ep ∧ fdev d (cx a q).ep ≤ 2147483648 := by
      have := hI.d0
      have := hI.d1
      unfold fdev; split <;> omega
    refine ⟨_, _, _, hcnt a x.reach n q 0, inv_some hI hT hq ha hfd.1 hfd.2, by unfold hcnt; split <;> simp, fun k => ?_⟩
    have s1 := L3_3_skip (xs := xs) (x := x) (i := i) (l := l) (a := a) (m := m) (g := g) (d := d) (h := 0) (w := g) (n := n) hal h5 (k := k) q 0 0 rfl (by omega) (fun p _ hp => hoth p (by omega) (by omega))
    rw [Nat.zero_add] at s1
    rw [s1, L3_3_step hal h5 hn hs hq ha k1 k2 k3 k4 hI.d0 hI.d1 (by omega)]
    have s2 := L3_3_skip (xs := xs) (x := x) (i := i) (l := l) (a := a) (m := mset (cx a q).ep q m) (g := g) (d := fdev d (cx a q).ep) (h := hcnt a x.reach n q 0) (w := max g (cx a q).ep) (n := n) hal h5 (k := k) (l.length - (q + 1)) (q + 1) _ rfl (by omega) (fun p h1 h2 => hoth p (by omega) (by omega))
    rw [s2, show q + 1 + (l.length - (q + 1)) = l.length by omega, fin]
  · have hno : ∀ p, p < l.length → act a p = false := by
      intro p hp
      cases h : act a p with
      | false => rfl
      | true => exact absurd ⟨p, hp, h⟩ hex
    refine ⟨m, g, d, 0, inv_none hI hT hno, .inl rfl, fun k => ?_⟩
    have s1 := L3_3_skip (xs := xs) (x := x) (i := i) (l := l) (a := a) (m := m) (g := g) (d := d) (h := 0) (w := g) (n := n) hal h5 (k := k) l.length 0 0 rfl (by omega) (fun p _ hp => hno p (by omega))
    rw [Nat.zero_add] at s1
    rw [s1, fin]

/-- The bounds that hold of every value. -/
def Rnd.ok (x : Rnd) : Prop := x.crash.length ≤ 9223372036854775807 ∧ x.restart.length ≤ 9223372036854775807 ∧ x.reach.length ≤ 9223372036854775807

theorem L3_0_eq {n : Nat} (hxl : xs.length ≤ 9223372036854775807) (hx : ∀ x ∈ xs, x.ok) {k : List Kt} : ∀ (rest : List Rnd) (p : Nat) (j : Int) (l : List Ctl) (m : List (Int × Nat)) (g d : Int), j = p → xs.drop p = rest → Inv l m g d → l.length = n →
    ∃ m', go CF (.code L3_0 :: .lp [0, 5, 7, 8, 9, 61, 62, 63] L3_0 1 :: k) (some (.normal, stA [(0, .d (di n)), (5, .d (dC l)), (7, .mp 0), (8, .d (di g)), (9, .d (di d)), (61, .d (.slice 0 5 (xs.map rd5))), (62, .d (.int .i64 xs.length)), (63, .d (.int .i64 j))] nos [(0, .map (mEnts m))] 1)) =
      go CF k (some (.exit 0, stA [] nos [(0, .map (mEnts m'))] 1)) := by
  intro rest
  induction rest with
  | nil =>
    rintro p j l m g d rfl hp hI hl
    have hp := drop_nil hp
    refine ⟨m, ?_⟩
    rw [L3_0g]
    simp only [go_sem, ↓reduceIte, Nat.reduceEqDiff, Nat.reduceAdd, Nat.reduceBEq, Nat.reduceLeDiff, Nat.reduceSub, Nat.reduceLT, Nat.reduceMul, reduceCtorEq, hp]
  | cons x rest ih =>
    rintro p j l m g d rfl hp hI hl
    obtain ⟨h1, h2, h3⟩ := drop_cons hp
    obtain ⟨x1, x2, x3⟩ := hx x (List.mem_of_getElem? h2)
    obtain ⟨la, ia, ea, ca⟩ := L3_1_eq (n := n) (xs := xs) (x := x) (i := p) (m := m) (g := g) (d := d) x1 x.crash 0 0 l rfl rfl hI
    obtain ⟨lb, ib, eb, cb⟩ := L3_2_eq (n := n) (xs := xs) (x := x) (i := p) (m := m) (g := g) (d := d) x2 x.restart 0 0 la rfl rfl ia
    have hlb5 := ib.len5
    have t1 := F11_eq lb x.reach x.time x.timeout (by omega) x3
    have t2 := F12_eq lb x.reach x.time x.timeout (by omega) x3
    rw [← tick_eq] at t2
    generalize hT : tickM lb x.reach x.time x.timeout = T at t1 t2
    obtain ⟨a, e⟩ := T
    have hal : a.length ≤ 5 ∧ (e = 0 → rchk lb x.reach x.time x.timeout = 0 ∧ TickSpec lb x.reach x.time a) := by
      by_cases he : e = 0
      · subst he
        obtain ⟨q1, q2⟩ := tick_spec hT
        exact ⟨by rw [q2.len]; exact hlb5, fun _ => ⟨q1, q2⟩⟩
      · refine ⟨?_, fun h => absurd h he⟩
        unfold tickM at hT
        split at hT
        · simp only [Prod.mk.injEq] at hT; rw [← hT.1]; simp
        · split at hT
          · simp only [Prod.mk.injEq] at hT; exact absurd hT.2.symm he
          · simp only [Prod.mk.injEq] at hT; rw [← hT.1]; simp
    have g8 := F8_eq a a (by omega)
    by_cases he : e = 0
    · obtain ⟨hr0, hts⟩ := hal.2 he
      have hsq := (okay_of hr0).sq
      obtain ⟨m', g', d', h', iI, hh, eq⟩ := L3_3_eq (xs := xs) (x := x) (i := p) (n := n) (by omega) ib rfl hts hsq
      obtain ⟨m2, q⟩ := ih (p + 1) _ a m' g' d' (wrap_succ (by omega)) h3 iI (by rw [hts.len]; omega)
      refine ⟨m2, ?_⟩
      subst he
      rw [L3_0g]
      simp only [go_sem, ↓reduceIte, Nat.reduceEqDiff, Nat.reduceAdd, Nat.reduceBEq, Nat.reduceLeDiff, Nat.reduceSub, Nat.reduceLT, Nat.reduceMul, reduceCtorEq, h1, h2]
      rw [ca]
      simp only [go_sem, ↓reduceIte, Nat.reduceEqDiff, Nat.reduceAdd, Nat.reduceBEq, Nat.reduceLeDiff, Nat.reduceSub, Nat.reduceLT, Nat.reduceMul, reduceCtorEq]
      rw [cb]
      simp only [go_sem, ↓reduceIte, Nat.reduceEqDiff, Nat.reduceAdd, Nat.reduceBEq, Nat.reduceLeDiff, Nat.reduceSub, Nat.reduceLT, Nat.reduceMul, reduceCtorEq, t1, t2, g8, bne_self_eq_false, decide_true, hts.len]
      rw [eq]
      have hh1 : decide (h' > 1) = false := by rcases hh with rfl | rfl <;> decide
      simp only [go_sem, ↓reduceIte, Nat.reduceEqDiff, Nat.reduceAdd, Nat.reduceBEq, Nat.reduceLeDiff, Nat.reduceSub, Nat.reduceLT, Nat.reduceMul, reduceCtorEq, hh1]
      exact q
    · obtain ⟨m', q⟩ := ih (p + 1) _ lb m g d (wrap_succ (by omega)) h3 ib (by omega)
      refine ⟨m', ?_⟩
      have he1 : (e == 0) = false := by simpa using he
      have he2 : (e != 0) = true := by simpa using he
      rw [L3_0g]
      simp only [go_sem, ↓reduceIte, Nat.reduceEqDiff, Nat.reduceAdd, Nat.reduceBEq, Nat.reduceLeDiff, Nat.reduceSub, Nat.reduceLT, Nat.reduceMul, reduceCtorEq, h1, h2]
      rw [ca]
      simp only [go_sem, ↓reduceIte, Nat.reduceEqDiff, Nat.reduceAdd, Nat.reduceBEq, Nat.reduceLeDiff, Nat.reduceSub, Nat.reduceLT, Nat.reduceMul, reduceCtorEq]
      rw [cb]
      simp only [go_sem, ↓reduceIte, Nat.reduceEqDiff, Nat.reduceAdd, Nat.reduceBEq, Nat.reduceLeDiff, Nat.reduceSub, Nat.reduceLT, Nat.reduceMul, reduceCtorEq, t1, t2, g8, bne_self_eq_false, decide_true, he1, he2]
      exact q
end

theorem F3_eq (n : Int) (xs : List Rnd) (hxl : xs.length ≤ 9223372036854775807) (hx : ∀ x ∈ xs, x.ok) : RUN CF 3 [di n, .slice 0 5 (xs.map rd5)] = some (.d (db true), []) := by
  by_cases hn : n < 1 ∨ 5 < n
  · have h4 := F4_no n hn
    have hcond : decide (n < 1) = true ∨ (decide (n < 1) = false ∧ decide (n > 5) = true) := by
      by_cases h : n < 1
      · exact .inl (by simpa using h)
      · exact .inr ⟨by simpa using h, by simp; omega⟩
    rw [F3_run rfl]
    rcases hcond with h1 | ⟨h1, h2⟩
    · simp only [go_sem, ↓reduceIte, Nat.reduceEqDiff, Nat.reduceAdd, Nat.reduceBEq, Nat.reduceLeDiff, Nat.reduceSub, Nat.reduceLT, Nat.reduceMul, reduceCtorEq, h4, h1, F5_eq]
    · simp only [go_sem, ↓reduceIte, Nat.reduceEqDiff, Nat.reduceAdd, Nat.reduceBEq, Nat.reduceLeDiff, Nat.reduceSub, Nat.reduceLT, Nat.reduceMul, reduceCtorEq, h4, h1, h2, F5_eq]
  · obtain ⟨k, rfl⟩ : ∃ k : Nat, n = k := ⟨n.toNat, by omega⟩
    have h1 : decide ((k : Int) < 1) = false := by simp; omega
    have h2 : decide ((k : Int) > 5) = false := by simp; omega
    have hcx : ∀ i, i < k → cx (List.replicate k (⟨0, 0, 0⟩ : Ctl)) i = ⟨0, 0, 0⟩ := fun i hi => cx_of (by simp [hi])
    have hI : Inv (List.replicate k (⟨0, 0, 0⟩ : Ctl)) [] (-1) 0 := by
      refine ⟨by simp; omega, by simp; omega, fun e i h => by simp [mget] at h, fun i hi h => ?_, .inl rfl, by omega, by omega⟩
      rw [List.length_replicate] at hi
      simp [act, hcx i hi] at h
    obtain ⟨m', q⟩ := L3_0_eq (n := k) hxl hx (k := [Kt.blk 0, Kt.code (AC.kl [] k3_165)]) xs 0 0 _ [] (-1) 0 rfl rfl hI (by simp)
    rw [F3_run rfl]
    simp only [go_sem, ↓reduceIte, Nat.reduceEqDiff, Nat.reduceAdd, Nat.reduceBEq, Nat.reduceLeDiff, Nat.reduceSub, Nat.reduceLT, Nat.reduceMul, reduceCtorEq, F4_ok k (by omega) (by omega), h1, h2, bne_self_eq_false]
    have hm : mEnts [] = [] := rfl
    rw [hm] at q
    rw [q]
    simp only [go_sem, ↓reduceIte, Nat.reduceEqDiff, Nat.reduceAdd, Nat.reduceBEq, Nat.reduceLeDiff, Nat.reduceSub, Nat.reduceLT, Nat.reduceMul, reduceCtorEq, F5_eq]
end Go.R
