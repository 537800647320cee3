/- The law's contract, second part. -/
import Derived.Test.YtaoommhpediaeaaCe
set_option linter.unusedVariables false
set_option linter.unusedSimpArgs false
set_option linter.defProp false

namespace Go.R

theorem look_m (e : Int) : ∀ m : List (Int × Nat), lookupE 1 (.int .i64 e) (mEnts m) = some ((mget m e).map fun i => .d (di i))
  | [] => rfl
  | p :: m => by
    have ih := look_m e m
    unfold mEnts at ih ⊢
    simp only [List.map_cons, lookupE, mget]
    have hk : eqK 1 (.int .i64 e) (di p.1) = some (e == p.1) := by simp [eqK]
    rw [hk]
    by_cases h : e = p.1
    · subst h; simp
    · have : (e == p.1) = false := by simpa using h
      rw [this, if_neg h]
      exact ih
theorem upd_m (e : Int) (i : Nat) : ∀ m : List (Int × Nat), updateE 1 (.int .i64 e) (.d (di i)) (mEnts m) = some (mEnts (mset e i m))
  | [] => rfl
  | p :: m => by
    have ih := upd_m e i m
    unfold mEnts at ih ⊢
    simp only [List.map_cons, updateE, mset]
    have hk : eqK 1 (.int .i64 e) (di p.1) = some (e == p.1) := by simp [eqK]
    rw [hk]
    by_cases h : e = p.1
    · subst h; simp
    · have : (e == p.1) = false := by simpa using h
      rw [this, if_neg h]
      simp only [ih, Option.map_some, List.map_cons]

section
variable {xs : List Rnd} {x : Rnd} {i : Nat} {l a : List Ctl} {m : List (Int × Nat)} {g d h w : Int}

/-- The loop's objects. -/
abbrev lawSl (m : List (Int × Nat)) (x : Rnd) : List (Nat × Ob) := [(0, .map (mEnts m)), (1, .grow true 3 1 []), (2, .grow true 3 1 []), (3, .grow true 71 1 []), (4, .row true 32 5 [[.d (dJ x.crash), .d (dJ x.restart), .d (dR x.reach), .d (di x.time), .d (di x.timeout)]])]

theorem L3_3_skip {n : Nat} (hal : a.length = l.length) (hl5 : l.length ≤ 5) {k : List Kt} : ∀ (s p : Nat) (j : Int), j = p → p + s ≤ l.length → (∀ q, p ≤ q → q < p + s → act a q = false) →
    go CF (.code L3_3 :: .lp [0, 5, 7, 8, 9, 11, 24, 28, 29, 61, 62, 63, 169, 170, 171] L3_3 5 :: k) (some (.normal, stA [(0, .d (di n)), (5, .d (dC l)), (7, .mp 0), (8, .d (di g)), (9, .d (di d)), (11, .loc 4 1 0 0), (24, .d (dC a)), (28, .d (di h)), (29, .d (di w)), (61, .d (.slice 0 5 (xs.map rd5))), (62, .d (.int .i64 xs.length)), (63, .d (.int .i64 i)), (169, .d (dC a)), (170, .d (.int .i64 l.length)), (171, .d (.int .i64 j))] nos (lawSl m x) 5)) =
    go CF (.code L3_3 :: .lp [0, 5, 7, 8, 9, 11, 24, 28, 29, 61, 62, 63, 169, 170, 171] L3_3 5 :: k) (some (.normal, stA [(0, .d (di n)), (5, .d (dC l)), (7, .mp 0), (8, .d (di g)), (9, .d (di d)), (11, .loc 4 1 0 0), (24, .d (dC a)), (28, .d (di h)), (29, .d (di w)), (61, .d (.slice 0 5 (xs.map rd5))), (62, .d (.int .i64 xs.length)), (63, .d (.int .i64 i)), (169, .d (dC a)), (170, .d (.int .i64 l.length)), (171, .d (.int .i64 ((p + s : Nat) : Int)))] nos (lawSl m x) 5)) := by
  intro s
  induction s with
  | zero => rintro p j rfl _ _; rfl
  | succ s ih =>
    rintro p j rfl hp ha
    have h1 : p < l.length := by omega
    have hc : a[p]? = some (cx a p) := c_at (by omega)
    have hst : ((cx a p).st != 1) = true := by
      have := ha p (Nat.le_refl _) (by omega)
      unfold act at this
      simp [bne, this]
    have nxt := ih (p + 1) _ (wrap_succ (by omega)) (by omega) (fun q h1 h2 => ha q (by omega) (by omega))
    rw [show p + 1 + s = p + (s + 1) by omega] at nxt
    rw [← nxt, L3_3g]
    simp only [go_sem, ↓reduceIte, Nat.reduceEqDiff, Nat.reduceAdd, Nat.reduceBEq, Nat.reduceLeDiff, Nat.reduceSub, Nat.reduceLT, Nat.reduceMul, reduceCtorEq, h1, hc, hst]

def hcnt (a : List Ctl) (r : List (List Bool)) (n q : Nat) (h : Int) : Int := if n < 2 * (hears a r q).length then h + 1 else h
def fdev (d e : Int) : Int := if e < d then d else e
set_option maxHeartbeats 4000000 in
theorem L3_3_step {n : Nat} (hal : a.length = l.length) (hl5 : l.length ≤ 5) (hn : n = l.length) (hs : sqB x.reach l.length = true) {q : Nat} (hq : q < l.length) (ha : act a q = true) (hlk : ∀ k, mget m (cx a q).ep = some k → k = q) (hgt : act l q = false → g < (cx a q).ep)
    (he0 : 0 ≤ (cx a q).ep) (he1 : (cx a q).ep ≤ 2147483648) (hd0 : 0 ≤ d) (hd1 : d ≤ 2147483648) (hh : 0 ≤ h ∧ h ≤ 100) {k : List Kt} :
    go CF (.code L3_3 :: .lp [0, 5, 7, 8, 9, 11, 24, 28, 29, 61, 62, 63, 169, 170, 171] L3_3 5 :: k) (some (.normal, stA [(0, .d (di n)), (5, .d (dC l)), (7, .mp 0), (8, .d (di g)), (9, .d (di d)), (11, .loc 4 1 0 0), (24, .d (dC a)), (28, .d (di h)), (29, .d (di w)), (61, .d (.slice 0 5 (xs.map rd5))), (62, .d (.int .i64 xs.length)), (63, .d (.int .i64 i)), (169, .d (dC a)), (170, .d (.int .i64 l.length)), (171, .d (.int .i64 q))] nos (lawSl m x) 5)) =
    go CF (.code L3_3 :: .lp [0, 5, 7, 8, 9, 11, 24, 28, 29, 61, 62, 63, 169, 170, 171] L3_3 5 :: k) (some (.normal, stA [(0, .d (di n)), (5, .d (dC l)), (7, .mp 0), (8, .d (di g)), (9, .d (di (fdev d (cx a q).ep))), (11, .loc 4 1 0 0), (24, .d (dC a)), (28, .d (di (hcnt a x.reach n q h))), (29, .d (di (max w (cx a q).ep))), (61, .d (.slice 0 5 (xs.map rd5))), (62, .d (.int .i64 xs.length)), (63, .d (.int .i64 i)), (169, .d (dC a)), (170, .d (.int .i64 l.length)), (171, .d (.int .i64 ((q + 1 : Nat) : Int)))] nos (lawSl (mset (cx a q).ep q m) x) 5)) := by
  have hc : a[q]? = some (cx a q) := c_at (by omega)
  have hcl : l[q]? = some (cx l q) := c_at hq
  have hst : ((cx a q).st != 1) = false := by
    unfold act at ha
    simp [bne, ha]
  have hw1 : IntKind.i64.wrap ((q : Int) + 1) = ((q + 1 : Nat) : Int) := wrap_succ (by omega)
  have h13 := F13_eq a x.reach q (by omega) (by omega) (by rw [hal]; exact hs)
  have hhl := hears_len a x.reach q
  have hw2 : IntKind.i64.wrap (2 * ((hears a x.reach q).length : Int)) = ((2 * (hears a x.reach q).length : Nat) : Int) := by rw [wrap_in (by omega) (by omega)]; omega
  have hw3 : IntKind.i64.wrap (h + 1) = h + 1 := wrap_in (by omega) (by omega)
  have h14 : RUN CF 14 [di d, di (cx a q).ep] = some (if (cx a q).ep < d then .tup [.d (di 0), .d (di 69)] else .tup [.d (di (cx a q).ep), .d (di 0)], []) := by
    rw [F14_eq, if_neg (by omega)]
  have hgl : ((cx l q).st != 1) = !act l q := rfl
  rw [L3_3g]
  have hmk : (mget m (cx a q).ep = none) ∨ mget m (cx a q).ep = some q := by
    cases hm : mget m (cx a q).ep with
    | none => exact .inl rfl
    | some k => exact .inr (by rw [hlk k hm])
  have hcnt' : hcnt a x.reach n q h = if decide (n < 2 * (hears a x.reach q).length) = true then h + 1 else h := by
    unfold hcnt
    by_cases hc : n < 2 * (hears a x.reach q).length
    · rw [if_pos hc, if_pos (by simpa using hc)]
    · rw [if_neg hc, if_neg (by simpa using hc)]
  have hle : act l q = false → decide ((cx a q).ep ≤ g) = false := fun h => by have := hgt h; simp; omega
  have h69 : ((69 : Int) == 0) = false := rfl
  rw [hcnt']
  unfold fdev
  rcases hmk with hm | hm <;> cases hl : act l q <;> cases hcn : decide (n < 2 * (hears a x.reach q).length) <;> by_cases hed : (cx a q).ep < d
  all_goals try have hle := hle hl
  all_goals have hge : decide (d ≤ (cx a q).ep) = !decide ((cx a q).ep < d) := by rw [Bool.eq_iff_iff]; simp
  all_goals have hge' : decide ((cx a q).ep ≥ d) = !decide ((cx a q).ep < d) := hge
  all_goals simp only [hed, if_true, if_false, decide_true, decide_false, Bool.not_true, Bool.not_false] at h14 hge hge'
  all_goals simp only [go_sem, ↓reduceIte, Nat.reduceEqDiff, Nat.reduceAdd, Nat.reduceBEq, Nat.reduceLeDiff, Nat.reduceSub, Nat.reduceLT, Nat.reduceMul, reduceCtorEq, hq, hc, hst, look_m, hm, bne_self_eq_false, hcl, hgl, hl, hle, upd_m, h13, hw1, hw2, hw3, hcn, h14, hed, hge, hge', h69]
end
end Go.R
