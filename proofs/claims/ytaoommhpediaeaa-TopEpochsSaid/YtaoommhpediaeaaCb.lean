/- Contracts of a round's parts. -/
import Derived.Test.YtaoommhpediaeaaCa
set_option linter.unusedVariables false
set_option linter.unusedSimpArgs false
set_option linter.defProp false

namespace Go.R

theorem set_c3 (l : List Ctl) (i : Nat) (a b c : Int) : (l.map c3).set i [D.int .i64 a, D.int .i64 b, D.int .i64 c] = (l.set i ⟨a, b, c⟩).map c3 := by
  rw [List.map_set]; rfl
attribute [go_sem] set_c3
theorem F15_dC (l : List Ctl) (hb : l.length ≤ 1000000) : RUN CF 15 [dC l] = some (.own 0 3 l.length, [.grow true 38 3 (l.map c3)]) := by
  have := F15_eq (l.map c3) (by simpa using hb)
  simpa using this


theorem F6_out (l : List Ctl) (i : Int) (h : i < 0 ∨ l.length ≤ i) : RUN CF 6 [dC l, di i] = some (.tup [.d (dC []), .d (di 10)], []) := by
  rw [F6_run rfl]
  simp only [go_sem, ↓reduceIte, Nat.reduceEqDiff, Nat.reduceAdd, Nat.reduceBEq, Nat.reduceLeDiff, Nat.reduceSub, Nat.reduceLT, Nat.reduceMul, reduceCtorEq]
  repeat' (first | refine sk_split ?_ ?_ | refine cd_split ?_ ?_) <;> intro h <;> simp only [go_sem, ↓reduceIte, Nat.reduceEqDiff, Nat.reduceAdd, Nat.reduceBEq, Nat.reduceLeDiff, Nat.reduceSub, Nat.reduceLT, Nat.reduceMul, reduceCtorEq, h]
  all_goals first | rfl | (exfalso; simp only [decide_eq_true_eq, decide_eq_false_iff_not] at *; omega)
theorem F6_in (l : List Ctl) (i : Nat) (hb : l.length ≤ 1000000) (hi : i < l.length) : RUN CF 6 [dC l, di i] = some (bif up l i then .tup [.d (dC (l.set i ⟨2, (cx l i).ep, (cx l i).hd⟩)), .d (di 0)] else .tup [.d (dC []), .d (di 11)], []) := by
  rw [F6_run rfl]
  have h1 : decide ((i : Int) < 0) = false := by simp
  have h2 : decide ((i : Int) ≥ (l.length : Int)) = false := by simp; omega
  have hn : ((l.length : Nat) * 24 ≤ 140737488355328) = True := by simp; omega
  simp only [go_sem, ↓reduceIte, Nat.reduceEqDiff, Nat.reduceAdd, Nat.reduceBEq, Nat.reduceLeDiff, Nat.reduceSub, Nat.reduceLT, Nat.reduceMul, reduceCtorEq, h1, h2, c_at hi, F15_dC l hb, hn]
  refine cd_split ?_ ?_ <;> intro h <;> simp only [go_sem, ↓reduceIte, Nat.reduceEqDiff, Nat.reduceAdd, Nat.reduceBEq, Nat.reduceLeDiff, Nat.reduceSub, Nat.reduceLT, Nat.reduceMul, reduceCtorEq, h, hi, c_at hi, F15_dC l hb, hn, up_st]
  rfl

theorem F7_out (l : List Ctl) (i : Int) (h : i < 0 ∨ l.length ≤ i) : RUN CF 7 [dC l, di i] = some (.tup [.d (dC []), .d (di 10)], []) := by
  rw [F7_run rfl]
  simp only [go_sem, ↓reduceIte, Nat.reduceEqDiff, Nat.reduceAdd, Nat.reduceBEq, Nat.reduceLeDiff, Nat.reduceSub, Nat.reduceLT, Nat.reduceMul, reduceCtorEq]
  repeat' (first | refine sk_split ?_ ?_ | refine cd_split ?_ ?_) <;> intro h <;> simp only [go_sem, ↓reduceIte, Nat.reduceEqDiff, Nat.reduceAdd, Nat.reduceBEq, Nat.reduceLeDiff, Nat.reduceSub, Nat.reduceLT, Nat.reduceMul, reduceCtorEq, h]
  all_goals first | rfl | (exfalso; simp only [decide_eq_true_eq, decide_eq_false_iff_not] at *; omega)
theorem F7_in (l : List Ctl) (i : Nat) (hb : l.length ≤ 1000000) (hi : i < l.length) : RUN CF 7 [dC l, di i] = some (bif up l i then .tup [.d (dC (l.set i ⟨2, (cx l i).ep, (cx l i).hd⟩)), .d (di 0)] else .tup [.d (dC []), .d (di 11)], []) := by
  rw [F7_run rfl]
  have h1 : decide ((i : Int) < 0) = false := by simp
  have h2 : decide ((i : Int) ≥ (l.length : Int)) = false := by simp; omega
  have hn : ((l.length : Nat) * 24 ≤ 140737488355328) = True := by simp; omega
  simp only [go_sem, ↓reduceIte, Nat.reduceEqDiff, Nat.reduceAdd, Nat.reduceBEq, Nat.reduceLeDiff, Nat.reduceSub, Nat.reduceLT, Nat.reduceMul, reduceCtorEq, h1, h2, c_at hi, F15_dC l hb, hn]
  refine cd_split ?_ ?_ <;> intro h <;> simp only [go_sem, ↓reduceIte, Nat.reduceEqDiff, Nat.reduceAdd, Nat.reduceBEq, Nat.reduceLeDiff, Nat.reduceSub, Nat.reduceLT, Nat.reduceMul, reduceCtorEq, h, hi, c_at hi, F15_dC l hb, hn, up_st]
  rfl

theorem F9_out (l : List Ctl) (i t : Int) (h : i < 0 ∨ l.length ≤ i) : RUN CF 9 [dC l, di i, di t] = some (.tup [.d (dC []), .d (di 10)], []) := by
  rw [F9_run rfl]
  simp only [go_sem, ↓reduceIte, Nat.reduceEqDiff, Nat.reduceAdd, Nat.reduceBEq, Nat.reduceLeDiff, Nat.reduceSub, Nat.reduceLT, Nat.reduceMul, reduceCtorEq]
  repeat' (first | refine sk_split ?_ ?_ | refine cd_split ?_ ?_) <;> intro h <;> simp only [go_sem, ↓reduceIte, Nat.reduceEqDiff, Nat.reduceAdd, Nat.reduceBEq, Nat.reduceLeDiff, Nat.reduceSub, Nat.reduceLT, Nat.reduceMul, reduceCtorEq, h]
  all_goals first | rfl | (exfalso; simp only [decide_eq_true_eq, decide_eq_false_iff_not] at *; omega)
theorem F9_in (l : List Ctl) (i : Nat) (t : Int) (hb : l.length ≤ 1000000) (hi : i < l.length) : RUN CF 9 [dC l, di i, di t] = some (bif up l i then .tup [.d (dC []), .d (di 11)] else bif decide (t < (cx l i).hd ∨ 2147483648 < t) then .tup [.d (dC []), .d (di 1)] else .tup [.d (dC (l.set i ⟨0, (cx l i).ep, t⟩)), .d (di 0)], []) := by
  rw [F9_run rfl]
  have h1 : decide ((i : Int) < 0) = false := by simp
  have h2 : decide ((i : Int) ≥ (l.length : Int)) = false := by simp; omega
  have hn : ((l.length : Nat) * 24 ≤ 140737488355328) = True := by simp; omega
  have hu : ((cx l i).st != 2) = up l i := rfl
  simp only [go_sem, ↓reduceIte, Nat.reduceEqDiff, Nat.reduceAdd, Nat.reduceBEq, Nat.reduceLeDiff, Nat.reduceSub, Nat.reduceLT, Nat.reduceMul, reduceCtorEq, h1, h2, c_at hi, F15_dC l hb, hn, hu]
  refine cd_split ?_ ?_ <;> intro h <;> simp only [go_sem, ↓reduceIte, Nat.reduceEqDiff, Nat.reduceAdd, Nat.reduceBEq, Nat.reduceLeDiff, Nat.reduceSub, Nat.reduceLT, Nat.reduceMul, reduceCtorEq, h, hi, c_at hi, F15_dC l hb, hn]
  · rfl
  refine sk_split ?_ ?_ <;> intro h2 <;> simp only [go_sem, ↓reduceIte, Nat.reduceEqDiff, Nat.reduceAdd, Nat.reduceBEq, Nat.reduceLeDiff, Nat.reduceSub, Nat.reduceLT, Nat.reduceMul, reduceCtorEq, h2, hi, c_at hi, F15_dC l hb, hn]
  · have h3 : decide (t < (cx l i).hd ∨ 2147483648 < t) = true := by simp at h2 ⊢; omega
    simp only [go_sem, ↓reduceIte, Nat.reduceEqDiff, Nat.reduceAdd, Nat.reduceBEq, Nat.reduceLeDiff, Nat.reduceSub, Nat.reduceLT, Nat.reduceMul, reduceCtorEq, h3]
    rfl
  · refine cd_split ?_ ?_ <;> intro h3 <;> simp only [go_sem, ↓reduceIte, Nat.reduceEqDiff, Nat.reduceAdd, Nat.reduceBEq, Nat.reduceLeDiff, Nat.reduceSub, Nat.reduceLT, Nat.reduceMul, reduceCtorEq, h3, hi, c_at hi, F15_dC l hb, hn]
    · have h4 : decide (t < (cx l i).hd ∨ 2147483648 < t) = true := by simp at h3 ⊢; omega
      simp only [go_sem, ↓reduceIte, Nat.reduceEqDiff, Nat.reduceAdd, Nat.reduceBEq, Nat.reduceLeDiff, Nat.reduceSub, Nat.reduceLT, Nat.reduceMul, reduceCtorEq, h4]
      rfl
    · have h4 : decide (t < (cx l i).hd ∨ 2147483648 < t) = false := by simp at h2 h3 ⊢; omega
      have hs : (l.map c3)[i]? = some (c3 (cx l i)) := by simp [c_at hi]
      simp only [go_sem, ↓reduceIte, Nat.reduceEqDiff, Nat.reduceAdd, Nat.reduceBEq, Nat.reduceLeDiff, Nat.reduceSub, Nat.reduceLT, Nat.reduceMul, reduceCtorEq, h4, hi, c_at hi, F15_dC l hb, hn, List.getElem?_set_self, List.length_set, List.length_map, List.set_set]
theorem F10_out (l : List Ctl) (i t : Int) (h : i < 0 ∨ l.length ≤ i) : RUN CF 10 [dC l, di i, di t] = some (.tup [.d (dC []), .d (di 10)], []) := by
  rw [F10_run rfl]
  simp only [go_sem, ↓reduceIte, Nat.reduceEqDiff, Nat.reduceAdd, Nat.reduceBEq, Nat.reduceLeDiff, Nat.reduceSub, Nat.reduceLT, Nat.reduceMul, reduceCtorEq]
  repeat' (first | refine sk_split ?_ ?_ | refine cd_split ?_ ?_) <;> intro h <;> simp only [go_sem, ↓reduceIte, Nat.reduceEqDiff, Nat.reduceAdd, Nat.reduceBEq, Nat.reduceLeDiff, Nat.reduceSub, Nat.reduceLT, Nat.reduceMul, reduceCtorEq, h]
  all_goals first | rfl | (exfalso; simp only [decide_eq_true_eq, decide_eq_false_iff_not] at *; omega)
theorem F10_in (l : List Ctl) (i : Nat) (t : Int) (hb : l.length ≤ 1000000) (hi : i < l.length) : RUN CF 10 [dC l, di i, di t] = some (bif up l i then .tup [.d (dC []), .d (di 11)] else bif decide (t < (cx l i).hd ∨ 2147483648 < t) then .tup [.d (dC []), .d (di 1)] else .tup [.d (dC (l.set i ⟨0, (cx l i).ep, t⟩)), .d (di 0)], []) := by
  rw [F10_run rfl]
  have h1 : decide ((i : Int) < 0) = false := by simp
  have h2 : decide ((i : Int) ≥ (l.length : Int)) = false := by simp; omega
  have hn : ((l.length : Nat) * 24 ≤ 140737488355328) = True := by simp; omega
  have hu : ((cx l i).st != 2) = up l i := rfl
  simp only [go_sem, ↓reduceIte, Nat.reduceEqDiff, Nat.reduceAdd, Nat.reduceBEq, Nat.reduceLeDiff, Nat.reduceSub, Nat.reduceLT, Nat.reduceMul, reduceCtorEq, h1, h2, c_at hi, F15_dC l hb, hn, hu]
  refine cd_split ?_ ?_ <;> intro h <;> simp only [go_sem, ↓reduceIte, Nat.reduceEqDiff, Nat.reduceAdd, Nat.reduceBEq, Nat.reduceLeDiff, Nat.reduceSub, Nat.reduceLT, Nat.reduceMul, reduceCtorEq, h, hi, c_at hi, F15_dC l hb, hn]
  · rfl
  refine sk_split ?_ ?_ <;> intro h2 <;> simp only [go_sem, ↓reduceIte, Nat.reduceEqDiff, Nat.reduceAdd, Nat.reduceBEq, Nat.reduceLeDiff, Nat.reduceSub, Nat.reduceLT, Nat.reduceMul, reduceCtorEq, h2, hi, c_at hi, F15_dC l hb, hn]
  · have h3 : decide (t < (cx l i).hd ∨ 2147483648 < t) = true := by simp at h2 ⊢; omega
    simp only [go_sem, ↓reduceIte, Nat.reduceEqDiff, Nat.reduceAdd, Nat.reduceBEq, Nat.reduceLeDiff, Nat.reduceSub, Nat.reduceLT, Nat.reduceMul, reduceCtorEq, h3]
    rfl
  · refine cd_split ?_ ?_ <;> intro h3 <;> simp only [go_sem, ↓reduceIte, Nat.reduceEqDiff, Nat.reduceAdd, Nat.reduceBEq, Nat.reduceLeDiff, Nat.reduceSub, Nat.reduceLT, Nat.reduceMul, reduceCtorEq, h3, hi, c_at hi, F15_dC l hb, hn]
    · have h4 : decide (t < (cx l i).hd ∨ 2147483648 < t) = true := by simp at h3 ⊢; omega
      simp only [go_sem, ↓reduceIte, Nat.reduceEqDiff, Nat.reduceAdd, Nat.reduceBEq, Nat.reduceLeDiff, Nat.reduceSub, Nat.reduceLT, Nat.reduceMul, reduceCtorEq, h4]
      rfl
    · have h4 : decide (t < (cx l i).hd ∨ 2147483648 < t) = false := by simp at h2 h3 ⊢; omega
      have hs : (l.map c3)[i]? = some (c3 (cx l i)) := by simp [c_at hi]
      simp only [go_sem, ↓reduceIte, Nat.reduceEqDiff, Nat.reduceAdd, Nat.reduceBEq, Nat.reduceLeDiff, Nat.reduceSub, Nat.reduceLT, Nat.reduceMul, reduceCtorEq, h4, hi, c_at hi, F15_dC l hb, hn, List.getElem?_set_self, List.length_set, List.length_map, List.set_set]
end Go.R

namespace Go.R

theorem L17_eq (l : List Ctl) (r : List (List Bool)) (g : Nat → Ctl → Ctl) (f : Nat) (fst caps : List D) (hb : l.length < 1000000)
    (hf : ∀ i, i < l.length → up l i = true → RUN CF f (fst ++ di i :: .agg [di (cx l i).st, di (cx l i).ep, di (cx l i).hd] :: caps) = some (.d (.agg (c3 (g i (cx l i)))), [])) {k : List Kt} :
    ∀ (m q : Nat) (j : Int), j = q → q + m = l.length →
    go CF (.code L17_0 :: .lp [1, 2, 4, 5, 15, 16, 17] L17_0 8 :: k) (some (.normal, stA [(1, .d (.func (.func f) fst caps)), (2, .loc 0 1 0 0), (4, .loc 3 1 0 0), (5, .loc 7 1 0 0), (15, .d (dC l)), (16, .d (.int .i64 l.length)), (17, .d (.int .i64 j))] nos
      [(0, .grow true 47 2 [[dC l, dR r]]), (1, .grow true 38 3 []), (2, .grow true 71 1 []), (3, .row true 47 2 [[.own 1 3 0, .own 2 1 0]]), (4, .grow true 38 3 ((pm l (eachF l g) q).map c3)), (5, .grow true 38 3 []), (6, .grow true 71 1 []), (7, .row true 47 2 [[.own 4 3 l.length, .d (dR r)]])] 8)) =
      go CF k (some (.exit 0, stA [(4, .loc 3 1 0 0), (5, .loc 7 1 0 0)] nos
        [(0, .grow true 47 2 [[dC l, dR r]]), (1, .grow true 38 3 []), (2, .grow true 71 1 []), (3, .row true 47 2 [[.own 1 3 0, .own 2 1 0]]), (4, .grow true 38 3 ((eachM l g).map c3)), (5, .grow true 38 3 []), (6, .grow true 71 1 []), (7, .row true 47 2 [[.own 4 3 l.length, .d (dR r)]])] 8)) := by
  intro m
  induction m with
  | zero =>
    rintro q j rfl hq
    have hn : ¬ q < l.length := by omega
    have he : q = l.length := by omega
    rw [L17_0g]
    simp only [go_sem, ↓reduceIte, Nat.reduceEqDiff, Nat.reduceAdd, Nat.reduceBEq, Nat.reduceLeDiff, Nat.reduceSub, Nat.reduceLT, Nat.reduceMul, reduceCtorEq, hn]
    subst he
    rw [pm_all]
    rfl
  | succ m ih =>
    rintro q j rfl hq
    have h1 : q < l.length := by omega
    have nxt := ih (q + 1) _ (wrap_succ (by omega)) (by omega)
    have hpl := pm_len l (eachF l g) q
    have hpm : (pm l (eachF l g) q)[q]? = some (cx (pm l (eachF l g) q) q) := c_at (by omega)
    rw [L17_0g]
    simp only [go_sem, ↓reduceIte, Nat.reduceEqDiff, Nat.reduceAdd, Nat.reduceBEq, Nat.reduceLeDiff, Nat.reduceSub, Nat.reduceLT, Nat.reduceMul, reduceCtorEq, h1, c_at h1, F31_eq l r q h1]
    refine cd_fork ?_ ?_ <;> intro h
    · simp only [go_sem, ↓reduceIte, Nat.reduceEqDiff, Nat.reduceAdd, Nat.reduceBEq, Nat.reduceLeDiff, Nat.reduceSub, Nat.reduceLT, Nat.reduceMul, reduceCtorEq, h, h1, c_at h1, hf q h1 h, hpl, hpm]
      rw [pm_set l (eachF l g) q _ (by simp [eachF, h])]
      exact nxt
    · simp only [go_sem, ↓reduceIte, Nat.reduceEqDiff, Nat.reduceAdd, Nat.reduceBEq, Nat.reduceLeDiff, Nat.reduceSub, Nat.reduceLT, Nat.reduceMul, reduceCtorEq, h]
      rw [← pm_same l (eachF l g) q (by simp [eachF, h])] at nxt
      exact nxt
theorem F17_eq (l : List Ctl) (r : List (List Bool)) (g : Nat → Ctl → Ctl) (f : Nat) (fst caps : List D) (hb : l.length < 1000000)
    (hf : ∀ i, i < l.length → up l i = true → RUN CF f (fst ++ di i :: .agg [di (cx l i).st, di (cx l i).ep, di (cx l i).hd] :: caps) = some (.d (.agg (c3 (g i (cx l i)))), [])) :
    RUN CF 17 [dP l r, .func (.func f) fst caps] = some (.d (dP (eachM l g) r), []) := by
  have hn : ((l.length : Nat) * 24 ≤ 140737488355328) = True := by simp; omega
  have hl : (eachM l g).length = l.length := by simp [eachM]
  rw [F17_run rfl]
  simp only [go_sem, ↓reduceIte, Nat.reduceEqDiff, Nat.reduceAdd, Nat.reduceBEq, Nat.reduceLeDiff, Nat.reduceSub, Nat.reduceLT, Nat.reduceMul, reduceCtorEq, F15_dC l (by omega), hn]
  have := fun k => L17_eq l r g f fst caps hb hf (k := k) l.length 0 0 rfl (by omega)
  simp only [pm_zero] at this
  rw [this]
  simp only [go_sem, ↓reduceIte, Nat.reduceEqDiff, Nat.reduceAdd, Nat.reduceBEq, Nat.reduceLeDiff, Nat.reduceSub, Nat.reduceLT, Nat.reduceMul, reduceCtorEq, hl]

theorem F18_eq (l : List Ctl) (r : List (List Bool)) (i : Nat) (c : Ctl) (hb : l.length < 1000000) (hi : i < l.length) (hs : sqB r l.length = true) : RUN CF 18 [dP l r, di i, .agg [di c.st, di c.ep, di c.hd]] = some (.d (.agg (c3 ⟨c.st, grt l (hears l r i), c.hd⟩)), []) := by
  have hl := hears_len l r i
  rw [F18_run rfl]
  simp only [go_sem, ↓reduceIte, Nat.reduceEqDiff, Nat.reduceAdd, Nat.reduceBEq, Nat.reduceLeDiff, Nat.reduceSub, Nat.reduceLT, Nat.reduceMul, reduceCtorEq, F29_eq l r i hb hi hs, F32_eq l r (hears l r i) (by omega) (fun x hx => hears_lt hx)]

def rival (l : List Ctl) (i : Nat) (e : Int) (k : Nat) : Bool := decide (k < i) && (act l k && (cx l k).ep == e)
theorem F34_eq (l : List Ctl) (r : List (List Bool)) (i : Nat) (c : Ctl) (k : Nat) (hk : k < l.length) : RUN CF 34 [di k, .cptr 0 [di i] 0, .cptr 0 [dC l, dR r] 0, .cptr 0 [di c.st, di c.ep, di c.hd] 0] = some (.d (db (rival l i c.ep k)), []) := by
  rw [F34_run rfl]
  simp only [go_sem, ↓reduceIte, Nat.reduceEqDiff, Nat.reduceAdd, Nat.reduceBEq, Nat.reduceLeDiff, Nat.reduceSub, Nat.reduceLT, Nat.reduceMul, reduceCtorEq]
  repeat' (first | refine sk_split ?_ ?_ | refine cd_split ?_ ?_) <;> intro h <;> simp only [go_sem, ↓reduceIte, Nat.reduceEqDiff, Nat.reduceAdd, Nat.reduceBEq, Nat.reduceLeDiff, Nat.reduceSub, Nat.reduceLT, Nat.reduceMul, reduceCtorEq, h, F35_eq l r k hk, c_at hk, rival]

def yieldC (l b : List Ctl) (r : List (List Bool)) (i : Nat) (e : Int) : Bool := act l i && (!maj l (hears l r i).length || (decide ((cx b i).ep < e) || (hears l r i).any (rival l i e)))
theorem F33_eq (l b : List Ctl) (r : List (List Bool)) (i : Nat) (c : Ctl) (hb : l.length < 1000000) (hi : i < l.length) (hbl : b.length = l.length) (hs : sqB r l.length = true) :
    RUN CF 33 [di i, .agg [di c.st, di c.ep, di c.hd], .cptr 0 [dC l, dR r] 0, .cptr 0 [dC b, dR r] 0] = some (.d (.agg (c3 (if yieldC l b r i c.ep = true then ⟨0, c.ep, c.hd⟩ else c))), []) := by
  have hl := hears_len l r i
  have h37 := F37_eq (fun n : Nat => di n) (rival l i c.ep) 34 [] [.cptr 0 [di i] 0, .cptr 0 [dC l, dR r] 0, .cptr 0 [di c.st, di c.ep, di c.hd] 0] (hears l r i) (by omega) (fun x hx => F34_eq l r i c x (hears_lt hx))
  have h37 : RUN CF 37 [dI (hears l r i), .func (.func 34) [] [.cptr 0 [di i] 0, .cptr 0 [dC l, dR r] 0, .cptr 0 [di c.st, di c.ep, di c.hd] 0]] = some (.d (db ((hears l r i).any (rival l i c.ep))), []) := h37
  rw [F33_run rfl]
  simp only [go_sem, ↓reduceIte, Nat.reduceEqDiff, Nat.reduceAdd, Nat.reduceBEq, Nat.reduceLeDiff, Nat.reduceSub, Nat.reduceLT, Nat.reduceMul, reduceCtorEq, F35_eq l r i hi]
  repeat' (first | refine sk_split ?_ ?_ | refine cd_split ?_ ?_) <;> intro h <;> simp only [go_sem, ↓reduceIte, Nat.reduceEqDiff, Nat.reduceAdd, Nat.reduceBEq, Nat.reduceLeDiff, Nat.reduceSub, Nat.reduceLT, Nat.reduceMul, reduceCtorEq, h, F29_eq l r i hb hi hs, F36_eq l r (hears l r i).length (by omega), c_at (show i < b.length by omega), h37]
  all_goals try simp only [gt_iff_lt] at *
  all_goals first
    | (have hY : yieldC l b r i c.ep = true := by simp only [yieldC, *, Bool.true_and, Bool.or_true, Bool.true_or]
       simp only [hY, if_true]; done)
    | (have hY : yieldC l b r i c.ep = false := by simp only [yieldC, *, Bool.false_and, Bool.or_false, Bool.and_false]
       simp only [hY, if_false, Bool.false_eq_true]; done)
theorem F19_eq (l b : List Ctl) (r : List (List Bool)) : RUN CF 19 [dP l r, dP b r] = some (.d (.func (.func 33) [] [.cptr 0 [dC l, dR r] 0, .cptr 0 [dC b, dR r] 0]), []) := by
  rw [F19_run rfl]
  simp only [go_sem, ↓reduceIte, Nat.reduceEqDiff, Nat.reduceAdd, Nat.reduceBEq, Nat.reduceLeDiff, Nat.reduceSub, Nat.reduceLT, Nat.reduceMul, reduceCtorEq]
theorem F20_eq (l : List Ctl) (r : List (List Bool)) (t : Int) : RUN CF 20 [dP l r, di t] = some (.d (.func (.func 38) [] [.cptr 0 [dC l, dR r] 0, .cptr 0 [di t] 0]), []) := by
  rw [F20_run rfl]
  simp only [go_sem, ↓reduceIte, Nat.reduceEqDiff, Nat.reduceAdd, Nat.reduceBEq, Nat.reduceLeDiff, Nat.reduceSub, Nat.reduceLT, Nat.reduceMul, reduceCtorEq]
theorem F38_eq (l : List Ctl) (r : List (List Bool)) (i : Nat) (c : Ctl) (t : Int) (hb : l.length < 1000000) (hi : i < l.length) (hs : sqB r l.length = true) :
    RUN CF 38 [di i, .agg [di c.st, di c.ep, di c.hd], .cptr 0 [dC l, dR r] 0, .cptr 0 [di t] 0] = some (.d (.agg (c3 (if leads l r i = true then ⟨c.st, c.ep, t⟩ else c))), []) := by
  rw [F38_run rfl]
  simp only [go_sem, ↓reduceIte, Nat.reduceEqDiff, Nat.reduceAdd, Nat.reduceBEq, Nat.reduceLeDiff, Nat.reduceSub, Nat.reduceLT, Nat.reduceMul, reduceCtorEq, F39_eq l r i hb hi hs]
  refine cd_split ?_ ?_ <;> intro h <;> simp only [go_sem, ↓reduceIte, Nat.reduceEqDiff, Nat.reduceAdd, Nat.reduceBEq, Nat.reduceLeDiff, Nat.reduceSub, Nat.reduceLT, Nat.reduceMul, reduceCtorEq, h]
end Go.R

namespace Go.R

theorem F42_eq (xs : List Nat) (v : Nat) (hb : xs.length ≤ 9223372036854775807) : RUN CF 42 [di v, .cptr 0 [dI xs] 0] = some (.d (db (xs.contains v)), []) := by
  rw [F42_run rfl]
  simp only [go_sem, ↓reduceIte, Nat.reduceEqDiff, Nat.reduceAdd, Nat.reduceBEq, Nat.reduceLeDiff, Nat.reduceSub, Nat.reduceLT, Nat.reduceMul, reduceCtorEq, F43_eq xs v hb]

theorem cid_ne (k p n : Nat) (h : n < 18446744073709551616) : (cid k p = n) = False := by
  have := cid_ge k p
  simp only [eq_iff_iff, iff_false]
  have : BB = 18446744073709551616 := rfl
  omega
theorem cid_ne' (k p n : Nat) (h : n < 18446744073709551616) : (n = cid k p) = False := by
  have := cid_ne k p n h
  simp only [eq_iff_iff, iff_false] at this ⊢
  exact fun e => this e.symm
theorem cid_lt (k p n : Nat) (h : n < 18446744073709551616) : (cid k p < n) = False := by
  have := cid_ge k p
  have : BB = 18446744073709551616 := rfl
  simp only [eq_iff_iff, iff_false]
  omega
theorem le_cid (k p n : Nat) (h : n < 18446744073709551616) : (n ≤ cid k p) = True := by
  have := cid_ge k p
  have : BB = 18446744073709551616 := rfl
  simp only [eq_iff_iff, iff_true]
  omega
theorem cid_inj (k p q : Nat) : (cid k p = cid k q) = (p = q) := by
  unfold cid
  simp
theorem cid_beq (k p n : Nat) (h : n < 18446744073709551616) : (cid k p == n) = false := by
  have := cid_ne k p n h
  simpa using this
theorem cid_beq' (k p n : Nat) (h : n < 18446744073709551616) : (n == cid k p) = false := by
  have := cid_ne' k p n h
  simpa using this
attribute [go_sem] cid_ne cid_ne' cid_lt le_cid cid_inj cid_beq cid_beq'

/-- A map of rows: the keys and the rows, in the order in which they came. -/
def entsFrom (k : Nat) : Nat → List (Nat × List Nat) → List (D × V)
  | _, [] => []
  | p, v :: r => (di v.1, .own (cid k p) 1 v.2.length) :: entsFrom k (p + 1) r
def mapS (k : Nat) (vs : List (Nat × List Nat)) : Store := fun q => if BB * (k + 1) ≤ q then (vs[q - BB * (k + 1)]?).map fun v => .grow true 3 1 (v.2.map i1) else none
def addV (c i : Nat) : List (Nat × List Nat) → List (Nat × List Nat)
  | [] => [(c, [i])]
  | v :: r => if v.1 = c then (v.1, v.2 ++ [i]) :: r else v :: addV c i r

section
variable {k c : Nat}
theorem eqK_nat (a b : Nat) : eqK 1 (di a) (di b) = some (a == b) := by
  simp only [eqK, and_self, if_true, int_beq]
theorem ents_app : ∀ (a b : List (Nat × List Nat)) (p : Nat), entsFrom k p (a ++ b) = entsFrom k p a ++ entsFrom k (p + a.length) b
  | [], b, p => rfl
  | v :: a, b, p => by
    simp only [List.cons_append, entsFrom, ents_app a b (p + 1), List.length_cons]
    rw [show p + 1 + a.length = p + (a.length + 1) by omega]
theorem ents_len : ∀ (a : List (Nat × List Nat)) (p : Nat), (entsFrom k p a).length = a.length
  | [], p => rfl
  | v :: a, p => by simp only [entsFrom, List.length_cons, ents_len a (p + 1)]
theorem look_skip {rest : List (D × V)} : ∀ {a : List (Nat × List Nat)} {p : Nat}, (∀ v ∈ a, v.1 ≠ c) → lookupE 1 (di c) (entsFrom k p a ++ rest) = lookupE 1 (di c) rest
  | [], p, _ => rfl
  | v :: a, p, h => by
    have hv : (c == v.1) = false := by
      have := h v (by simp)
      simp; exact fun e => this e.symm
    simp only [entsFrom, List.cons_append, lookupE, eqK_nat, hv]
    exact look_skip fun w hw => h w (by simp [hw])
theorem upd_skip {x : V} {rest : List (D × V)} : ∀ {a : List (Nat × List Nat)} {p : Nat}, (∀ v ∈ a, v.1 ≠ c) → updateE 1 (di c) x (entsFrom k p a ++ rest) = (updateE 1 (di c) x rest).map (entsFrom k p a ++ ·)
  | [], p, _ => by simp [entsFrom]
  | v :: a, p, h => by
    have hv : (c == v.1) = false := by
      have := h v (by simp)
      simp; exact fun e => this e.symm
    simp only [entsFrom, List.cons_append, updateE, eqK_nat, hv]
    rw [upd_skip fun w hw => h w (by simp [hw])]
    simp [Option.map_map, Function.comp_def]
theorem pos_skip {rest : List (D × V)} : ∀ {a : List (Nat × List Nat)} {p : Nat}, (∀ v ∈ a, v.1 ≠ c) → keyPos 1 (di c) (entsFrom k p a ++ rest) = a.length + keyPos 1 (di c) rest
  | [], p, _ => by simp [entsFrom]
  | v :: a, p, h => by
    have hv : (c == v.1) = false := by
      have := h v (by simp)
      simp; exact fun e => this e.symm
    simp only [entsFrom, List.cons_append, keyPos, eqK_nat, hv, Option.some.injEq, Bool.false_eq_true, if_false, List.length_cons]
    rw [pos_skip fun w hw => h w (by simp [hw])]
    omega
theorem eqK_self (c : Nat) : eqK 1 (di c) (di c) = some true := by simp [eqK_nat]

theorem look_in {a b : List (Nat × List Nat)} {ws : List Nat} (h : ∀ v ∈ a, v.1 ≠ c) : lookupE 1 (di c) (entsFrom k 0 (a ++ (c, ws) :: b)) = some (some (.own (cid k a.length) 1 ws.length)) := by
  rw [ents_app, look_skip h, entsFrom]
  simp only [lookupE, eqK_self, Nat.zero_add]
theorem look_out {a : List (Nat × List Nat)} (h : ∀ v ∈ a, v.1 ≠ c) : lookupE 1 (di c) (entsFrom k 0 a) = some none := by
  have := look_skip (k := k) (p := 0) (rest := []) h
  simpa [lookupE] using this
theorem upd_in {a b : List (Nat × List Nat)} {ws : List Nat} {i : Nat} (h : ∀ v ∈ a, v.1 ≠ c) : updateE 1 (di c) (.own (cid k a.length) 1 (ws.length + 1)) (entsFrom k 0 (a ++ (c, ws) :: b)) = some (entsFrom k 0 (a ++ (c, ws ++ [i]) :: b)) := by
  rw [ents_app, upd_skip h, entsFrom, ents_app, entsFrom]
  simp only [updateE, eqK_self, Nat.zero_add, Option.map_some, List.length_append, List.length_cons, List.length_nil]
theorem upd_out {a : List (Nat × List Nat)} {x : V} (h : ∀ v ∈ a, v.1 ≠ c) : updateE 1 (di c) x (entsFrom k 0 a) = some (entsFrom k 0 a ++ [(di c, x)]) := by
  have := upd_skip (k := k) (p := 0) (rest := []) (x := x) h
  simpa [updateE] using this
theorem addV_in {a b : List (Nat × List Nat)} {ws : List Nat} {i : Nat} : (∀ v ∈ a, v.1 ≠ c) → addV c i (a ++ (c, ws) :: b) = a ++ (c, ws ++ [i]) :: b := by
  induction a with
  | nil => intro _; simp [addV]
  | cons v a ih =>
    intro h
    simp only [List.cons_append, addV, if_neg (h v (by simp))]
    rw [ih fun w hw => h w (by simp [hw])]
theorem addV_out {a : List (Nat × List Nat)} {i : Nat} : (∀ v ∈ a, v.1 ≠ c) → addV c i a = a ++ [(c, [i])] := by
  induction a with
  | nil => intro _; rfl
  | cons v a ih =>
    intro h
    simp only [List.cons_append, addV, if_neg (h v (by simp))]
    rw [ih fun w hw => h w (by simp [hw])]
theorem split_key (vs : List (Nat × List Nat)) (c : Nat) : (∃ a ws b, vs = a ++ (c, ws) :: b ∧ ∀ v ∈ a, v.1 ≠ c) ∨ ∀ v ∈ vs, v.1 ≠ c := by
  induction vs with
  | nil => exact .inr (by simp)
  | cons v vs ih =>
    by_cases hv : v.1 = c
    · subst hv
      exact .inl ⟨[], v.2, vs, by simp, by simp⟩
    · rcases ih with ⟨a, ws, b, rfl, h⟩ | h
      · exact .inl ⟨v :: a, ws, b, rfl, by simp only [List.mem_cons, forall_eq_or_imp]; exact ⟨hv, h⟩⟩
      · exact .inr (by simp only [List.mem_cons, forall_eq_or_imp]; exact ⟨hv, h⟩)
theorem mapS_at (vs : List (Nat × List Nat)) (p : Nat) : mapS k vs (cid k p) = (vs[p]?).map fun v => .grow true 3 1 (v.2.map i1) := by
  have h : BB * (k + 1) ≤ cid k p := by unfold cid; omega
  have h2 : cid k p - BB * (k + 1) = p := by unfold cid; omega
  rw [mapS, if_pos h, h2]
theorem mapS_low (vs : List (Nat × List Nat)) {q : Nat} (h : q < BB * (k + 1)) : mapS k vs q = none := by
  rw [mapS, if_neg (by omega)]
end

theorem kp_cid {m p : Nat} (hm : 4 < m) (hp : p < BB) : kp m (cid 4 p) = true := by
  have hd := cid_div (k := 4) (p := p) hp
  have hg := cid_ge 4 p
  simp [kp, hg, hd, hm]
theorem gcB_mapS {vs : List (Nat × List Nat)} (hv : vs.length < BB) {m : Nat} (hm : 4 < m) (S : Store) : gcB S (mapS 4 vs) m = mapS 4 vs := by
  funext q
  simp only [gcB]
  by_cases hq : BB * 5 ≤ q
  · obtain ⟨p, rfl⟩ : ∃ p, q = cid 4 p := ⟨q - BB * 5, by unfold cid; omega⟩
    rw [mapS_at]
    cases h : vs[p]? with
    | none => simp
    | some v =>
      have := (List.getElem?_eq_some_iff.1 h).1
      rw [if_pos (kp_cid hm (by omega))]
      rfl
  · rw [mapS_low vs (by omega)]
    simp
theorem gcOb_ents {vs : List (Nat × List Nat)} (hv : vs.length < BB) {m : Nat} (hm : 4 < m) (S : Store) : gcOb S m (.map (entsFrom 4 0 vs)) = .map (entsFrom 4 0 vs) := by
  have hents : ∀ (l : List (Nat × List Nat)) (p : Nat), p + l.length ≤ vs.length → (entsFrom 4 p l).map (fun p => (p.1, gcC S m p.2)) = entsFrom 4 p l := by
    intro l
    induction l with
    | nil => intro p _; rfl
    | cons v l ih =>
      intro p hp
      simp only [List.length_cons] at hp
      simp only [entsFrom, List.map_cons]
      rw [ih (p + 1) (by omega)]
      simp [gcC, gcV, kp_cid hm (show p < BB by omega)]
  simp only [gcOb, hents vs 0 (by omega)]

/-- Behind a round: the map and its rows are as they should. -/
theorem fam_gc {vs : List (Nat × List Nat)} {o0 o1 o2 o3 : Ob} {S : Store} (hv : vs.length < BB)
    (h0 : S 0 = some o0) (h1 : S 1 = some o1) (h2 : S 2 = some o2) (h3 : S 3 = some o3) (h4 : S 4 = some (.map (entsFrom 4 0 vs)))
    (hf : ∀ p, p < BB → S (cid 4 p) = (vs[p]?).map fun v => .grow true 3 1 (v.2.map i1)) (hn : ∀ q, BB ≤ q → q / BB - 1 < 4 → S q = none)
    (g0 : gcOb S 5 o0 = o0) (g1 : gcOb S 5 o1 = o1) (g2 : gcOb S 5 o2 = o2) (g3 : gcOb S 5 o3 = o3) :
    (fun q => if kp 5 q = true then (S q).map (gcOb S 5) else none) = lookS (mapS 4 vs) [(0, o0), (1, o1), (2, o2), (3, o3), (4, .map (entsFrom 4 0 vs))] := by
  have hBB : BB = 18446744073709551616 := rfl
  have hents : ∀ (l : List (Nat × List Nat)) (p : Nat), p + l.length ≤ vs.length → (entsFrom 4 p l).map (fun p => (p.1, gcC S 5 p.2)) = entsFrom 4 p l := by
    intro l
    induction l with
    | nil => intro p _; rfl
    | cons v l ih =>
      intro p hp
      simp only [List.length_cons] at hp
      simp only [entsFrom, List.map_cons]
      rw [ih (p + 1) (by omega)]
      have hk : kp 5 (cid 4 p) = true := by
        have hd := cid_div (k := 4) (p := p) (by omega)
        have hg := cid_ge 4 p
        simp [kp, hg, hd]
      simp [gcC, gcV, hk]
  funext q
  have hlow : q < 5 → kp 5 q = true := fun h => by simp [kp, h]
  have hz : q = 0 ∨ q = 1 ∨ q = 2 ∨ q = 3 ∨ q = 4 ∨ 5 ≤ q := by omega
  rcases hz with rfl | rfl | rfl | rfl | rfl | hq
  · rw [if_pos (hlow (by omega)), h0]; simp [lookS, g0]
  · rw [if_pos (hlow (by omega)), h1]; simp [lookS, g1]
  · rw [if_pos (hlow (by omega)), h2]; simp [lookS, g2]
  · rw [if_pos (hlow (by omega)), h3]; simp [lookS, g3]
  · rw [if_pos (hlow (by omega)), h4]; simp [lookS, gcOb, hents vs 0 (by omega)]
  · have hl : lookS (mapS 4 vs) [(0, o0), (1, o1), (2, o2), (3, o3), (4, .map (entsFrom 4 0 vs))] q = mapS 4 vs q := by
      simp only [lookS]
      rw [if_neg (by omega), if_neg (by omega), if_neg (by omega), if_neg (by omega), if_neg (by omega)]
    rw [hl]
    have hd : q / BB = q / 18446744073709551616 := by rw [hBB]
    by_cases hk : kp 5 q = true
    · rw [if_pos hk]
      have hk' : BB ≤ q ∧ q / BB - 1 < 5 := by
        simp only [kp, Bool.or_eq_true, decide_eq_true_eq, Bool.and_eq_true] at hk
        omega
      by_cases h4' : q / BB - 1 < 4
      · rw [hn q hk'.1 h4', mapS_low vs (by omega)]
        rfl
      · have hp : q = cid 4 (q - BB * 5) := by unfold cid; omega
        rw [hp, hf _ (by omega), mapS_at]
        cases vs[q - BB * 5]? with
        | none => rfl
        | some v => simp [gcOb]
    · rw [if_neg hk]
      by_cases hq5 : BB * 5 ≤ q
      · have : q - BB * 5 ≥ vs.length := by
          have : ¬ (BB ≤ q ∧ q / BB - 1 < 5) := fun h => hk (by simp [kp, h.1, h.2])
          omega
        rw [mapS, if_pos (by omega)]
        rw [List.getElem?_eq_none (by omega)]
        rfl
      · rw [mapS_low vs (by omega)]
end Go.R

namespace Go.R

def voteStep (l : List Ctl) (r : List (List Bool)) (cs : List Nat) (vs : List (Nat × List Nat)) (i : Nat) : List (Nat × List Nat) :=
  if leads l r i = true then vs else match cs.findIdx? (fun c => (hears l r i).contains c) with
    | some x => match cs[x]? with
      | some c => addV c i vs
      | none => vs
    | none => vs
def vts (l : List Ctl) (r : List (List Bool)) (cs : List Nat) (q : Nat) : List (Nat × List Nat) := (List.range q).foldl (voteStep l r cs) []

theorem vts_succ (l : List Ctl) (r : List (List Bool)) (cs : List Nat) (q : Nat) : vts l r cs (q + 1) = voteStep l r cs (vts l r cs q) q := by
  simp [vts, List.range_succ]
theorem addV_len (c i : Nat) : ∀ vs : List (Nat × List Nat), (addV c i vs).length ≤ vs.length + 1
  | [] => by simp [addV]
  | v :: r => by
    have := addV_len c i r
    simp only [addV]
    split <;> simp <;> omega
theorem vts_len (l : List Ctl) (r : List (List Bool)) (cs : List Nat) : ∀ q, (vts l r cs q).length ≤ q
  | 0 => by simp [vts]
  | q + 1 => by
    have ih := vts_len l r cs q
    rw [vts_succ]
    unfold voteStep
    split
    · omega
    · split
      · split
        · rename_i c _
          have := addV_len c q (vts l r cs q)
          omega
        · omega
      · omega

theorem addV_ws (c i n : Nat) : ∀ vs : List (Nat × List Nat), (∀ v ∈ vs, v.2.length ≤ n) → ∀ v ∈ addV c i vs, v.2.length ≤ n + 1
  | [], _ => by simp [addV]
  | v :: r, h => by
    have ih := addV_ws c i n r fun w hw => h w (by simp [hw])
    have hv := h v (by simp)
    simp only [addV]
    split
    · intro w hw
      simp only [List.mem_cons] at hw
      rcases hw with rfl | hw
      · simpa using hv
      · have := h w (by simp [hw]); omega
    · intro w hw
      simp only [List.mem_cons] at hw
      rcases hw with rfl | hw
      · omega
      · exact ih w hw
theorem vts_ws (l : List Ctl) (r : List (List Bool)) (cs : List Nat) : ∀ q, ∀ v ∈ vts l r cs q, v.2.length ≤ q
  | 0 => by simp [vts]
  | q + 1 => by
    have ih := vts_ws l r cs q
    have ih1 : ∀ v ∈ vts l r cs q, v.2.length ≤ q + 1 := fun v hv => by have := ih v hv; omega
    rw [vts_succ]
    unfold voteStep
    split
    · exact ih1
    · split
      · split
        · exact addV_ws _ _ _ _ ih
        · exact ih1
      · exact ih1
theorem attach_new {S : Store} {k q c s N E : Nat} {b : Bool} {ds : List (List D)} {vs : List (Nat × List Nat)} (hS : S k = some (.map (entsFrom k 0 vs ++ [(di c, .own q s N)]))) (hc : ∀ v ∈ vs, v.1 ≠ c) (hq : S q = some (.grow b E s ds)) (hN : ds.length = N) (hqB : q < BB) (hqk : q ≠ k) (hk : k < BB) (hv : vs.length < BB) (hn : S (cid k vs.length) = none) :
    attach S (.mp k) 1 (.d (di c)) = upd (upd (upd S q none) (cid k vs.length) (some (.grow b E s ds))) k (some (.map (entsFrom k 0 vs ++ [(di c, .own (cid k vs.length) s N)]))) := by
  have hp : keyPos 1 (di c) (entsFrom k 0 vs ++ [(di c, .own q s N)]) = vs.length := by
    rw [pos_skip hc]; simp [keyPos, eqK_self]
  have he : (entsFrom k 0 vs ++ [(di c, V.own q s N)])[vs.length]? = some (di c, .own q s N) := by
    rw [List.getElem?_append_right (by rw [ents_len]; omega)]
    simp [ents_len]
  have hset : (entsFrom k 0 vs ++ [(di c, V.own q s N)]).set vs.length (di c, .own (cid k vs.length) s N) = entsFrom k 0 vs ++ [(di c, .own (cid k vs.length) s N)] := by
    rw [List.set_append_right _ _ (by rw [ents_len]; omega)]
    simp [ents_len]
  have hc' : q < BB ∧ q ≠ k ∧ k < BB ∧ vs.length < BB ∧ (ds.map (·.map V.d)).length = N ∧ True ∧ (S (cid k vs.length)).isNone = true := ⟨hqB, hqk, hk, hv, by simpa using hN, trivial, by rw [hn]; rfl⟩
  simp only [attach, hS, hp, attMap, he, hq, rowEs]
  rw [if_pos hc', hset]
theorem attach_junk (S : Store) (kk : Nat) (key : V) : attach S .junk kk key = S := rfl
attribute [go_sem] attach_junk

theorem all_i1 (l : List Nat) : (l.map i1).all scalDs = true := by simp [i1, scalDs, scalD]
theorem all_c3 (l : List Ctl) : (l.map c3).all scalDs = true := by simp [c3, scalDs, scalD]
attribute [go_sem] all_i1 all_c3
theorem lookS_nil (S : Store) : lookS S [] = S := rfl
/-- The objects of the election below the map. -/
theorem fam_back {l : List Ctl} {r : List (List Bool)} {vs : List (Nat × List Nat)} {SS : Store} (al : List (Nat × V)) (hv : vs.length < BB)
    (h0 : SS 0 = some (.grow true 47 2 [[dC l, dR r]])) (h1 : SS 1 = some (.grow true 38 3 [])) (h2 : SS 2 = some (.grow true 71 1 [])) (h3 : SS 3 = some (.row true 47 2 [[.own 1 3 0, .own 2 1 0]])) (h4 : SS 4 = some (.map (entsFrom 4 0 vs)))
    (hf : ∀ p, p < BB → SS (cid 4 p) = (vs[p]?).map fun v => .grow true 3 1 (v.2.map i1)) (hn : ∀ q, BB ≤ q → q / BB - 1 < 4 → SS q = none) :
    stA al (gcB SS SS 5) [] 5 = stA al (mapS 4 vs) [(0, .grow true 47 2 [[dC l, dR r]]), (1, .grow true 38 3 []), (2, .grow true 71 1 []), (3, .row true 47 2 [[.own 1 3 0, .own 2 1 0]]), (4, .map (entsFrom 4 0 vs))] 5 := by
  have := fam_gc (S := SS) hv h0 h1 h2 h3 h4 hf hn rfl rfl rfl rfl
  unfold stA
  congr 1
theorem attach_own {S : Store} {k kk : Nat} {y : D} {ents : List (D × V)} {x : D} {k' p s N : Nat} (hS : S k = some (.map ents)) (he : ents[keyPos kk y ents]? = some (x, .own (cid k' p) s N)) : attach S (.mp k) kk (.d y) = S := by
  have hg := cid_ge k' p
  simp only [attach, hS, attMap, he]
  split
  · split
    · rw [if_neg (by omega)]
    · rfl
  · rfl
theorem ents_at {k : Nat} : ∀ (vs : List (Nat × List Nat)) (p n : Nat), (entsFrom k n vs)[p]? = (vs[p]?).map fun v => (di v.1, .own (cid k (n + p)) 1 v.2.length)
  | [], p, n => by simp [entsFrom]
  | v :: r, 0, n => by simp [entsFrom]
  | v :: r, p + 1, n => by
    simp only [entsFrom, List.getElem?_cons_succ, ents_at r p (n + 1)]
    rw [show n + 1 + p = n + (p + 1) by omega]

theorem L21_eq (l : List Ctl) (r : List (List Bool)) (t u : Int) (cs : List Nat) (hb : l.length < 1000000) (hcs : cs.length ≤ l.length) (hs : sqB r l.length = true) {k : List Kt} :
    ∀ (m q : Nat) (j : Int), j = q → q + m = l.length →
    go CF (.code L21_0 :: .lp [1, 3, 6, 8, 9, 26, 27] L21_0 5 :: k) (some (.normal, stA [(1, .d (di t)), (3, .loc 0 1 0 0), (6, .loc 3 1 0 0), (8, .d (dI cs)), (9, .mp 4), (26, .d (.int .i64 l.length)), (27, .d (.int .i64 j))] (mapS 4 (vts l r cs q))
      [(0, .grow true 47 2 [[dC l, dR r]]), (1, .grow true 38 3 []), (2, .grow true 71 1 []), (3, .row true 47 2 [[.own 1 3 0, .own 2 1 0]]), (4, .map (entsFrom 4 0 (vts l r cs q)))] 5)) =
      go CF k (some (.exit 0, stA [(1, .d (di t)), (3, .loc 0 1 0 0), (6, .loc 3 1 0 0), (8, .d (dI cs)), (9, .mp 4)] (mapS 4 (vts l r cs l.length))
      [(0, .grow true 47 2 [[dC l, dR r]]), (1, .grow true 38 3 []), (2, .grow true 71 1 []), (3, .row true 47 2 [[.own 1 3 0, .own 2 1 0]]), (4, .map (entsFrom 4 0 (vts l r cs l.length)))] 5)) := by
  intro m
  induction m with
  | zero =>
    rintro q j rfl hq
    have hn : ¬ q < l.length := by omega
    have he : q = l.length := by omega
    rw [L21_0g]
    simp only [go_sem, ↓reduceIte, Nat.reduceEqDiff, Nat.reduceAdd, Nat.reduceBEq, Nat.reduceLeDiff, Nat.reduceSub, Nat.reduceLT, Nat.reduceMul, reduceCtorEq, hn]
    subst he
    rfl
  | succ m ih =>
    rintro q j rfl hq
    have h1 : q < l.length := by omega
    have nxt := ih (q + 1) _ (wrap_succ (by omega)) (by omega)
    have hvl := vts_len l r cs q
    have hl := hears_len l r q
    have h41 := F41_eq (fun n : Nat => di n) (fun c => (hears l r q).contains c) 42 [] [.cptr 0 [dI (hears l r q)] 0] cs (by omega) (fun x _ => F42_eq (hears l r q) x (by omega))
    have h41 : RUN CF 41 [dI cs, .func (.func 42) [] [.cptr 0 [dI (hears l r q)] 0]] = some (.d (di (place (cs.findIdx? fun c => (hears l r q).contains c))), []) := h41
    rw [vts_succ] at nxt
    have hws0 := vts_ws l r cs q
    generalize hvs : vts l r cs q = vs at *
    rw [L21_0g]
    simp only [go_sem, ↓reduceIte, Nat.reduceEqDiff, Nat.reduceAdd, Nat.reduceBEq, Nat.reduceLeDiff, Nat.reduceSub, Nat.reduceLT, Nat.reduceMul, reduceCtorEq, h1, F39_eq l r q hb h1 hs]
    have hBB : BB = 18446744073709551616 := rfl
    have c0 := fun p => cid_ne 4 p 0 (by omega)
    have c1 := fun p => cid_ne 4 p 1 (by omega)
    have c2 := fun p => cid_ne 4 p 2 (by omega)
    have c3 := fun p => cid_ne 4 p 3 (by omega)
    have c4 := fun p => cid_ne 4 p 4 (by omega)
    have c5 := fun p => cid_ne 4 p 5 (by omega)
    have c6 := fun p => cid_ne 4 p 6 (by omega)
    have c7 := fun p => cid_ne 4 p 7 (by omega)
    have c8 := fun p => cid_ne 4 p 8 (by omega)
    have hno : ∀ (vs' : List (Nat × List Nat)) (sl : List (Nat × Ob)), (∀ x ∈ sl, x.1 < BB ∨ BB * 5 ≤ x.1) → ∀ q, BB ≤ q → q / BB - 1 < 4 → lookS (mapS 4 vs') sl q = none := by
      intro vs' sl hsl q h5 h6
      have hd : q / BB = q / 18446744073709551616 := by rw [hBB]
      induction sl with
      | nil => exact mapS_low vs' (by omega)
      | cons x sl ih2 =>
        obtain ⟨x1, x2⟩ := x
        have hx1 := hsl (x1, x2) (by simp)
        simp only at hx1
        simp only [lookS]
        rw [if_neg (by omega)]
        exact ih2 fun y hy => hsl y (by simp [hy])
    have hcid : ∀ p, 92233720368547758080 ≤ cid 4 p := fun p => by unfold cid; omega
    have hws := hws0
    refine cd_fork ?_ ?_ <;> intro h
    · have hv : voteStep l r cs vs q = vs := by simp [voteStep, h]
      rw [hv] at nxt
      simp only [go_sem, ↓reduceIte, Nat.reduceEqDiff, Nat.reduceAdd, Nat.reduceBEq, Nat.reduceLeDiff, Nat.reduceSub, Nat.reduceLT, Nat.reduceMul, reduceCtorEq, h]
      rw [go_att]
      simp only [ev, look, ↓reduceIte, Nat.reduceEqDiff, attach_junk]
      generalize hSS : lookS (mapS 4 vs) _ = SS
      simp only [go_sem, ↓reduceIte, Nat.reduceEqDiff, Nat.reduceAdd, Nat.reduceBEq, Nat.reduceLeDiff, Nat.reduceSub, Nat.reduceLT, Nat.reduceMul, reduceCtorEq]
      rw [fam_back (SS := SS) (vs := vs) (l := l) (r := r) _ (by omega) (by rw [← hSS]; rfl) (by rw [← hSS]; rfl) (by rw [← hSS]; rfl) (by rw [← hSS]; rfl) (by rw [← hSS]; rfl)
        (fun p hp => by rw [← hSS]; simp only [lookS, c0, c1, c2, c3, c4, if_false, mapS_at]) (by rw [← hSS]; exact hno vs _ (by simp [hBB]))]
      exact nxt
    · simp only [go_sem, ↓reduceIte, Nat.reduceEqDiff, Nat.reduceAdd, Nat.reduceBEq, Nat.reduceLeDiff, Nat.reduceSub, Nat.reduceLT, Nat.reduceMul, reduceCtorEq, h, F29_eq l r q hb h1 hs, h41]
      cases hx : cs.findIdx? (fun c => (hears l r q).contains c) with
      | none =>
        have hv : voteStep l r cs vs q = vs := by simp only [voteStep, h, hx]; simp
        rw [hv] at nxt
        have h0 : decide (place none ≥ 0) = false := by simp [place]
        simp only [go_sem, ↓reduceIte, Nat.reduceEqDiff, Nat.reduceAdd, Nat.reduceBEq, Nat.reduceLeDiff, Nat.reduceSub, Nat.reduceLT, Nat.reduceMul, reduceCtorEq, h0]
        rw [go_att]
        simp only [ev, look, ↓reduceIte, Nat.reduceEqDiff, attach_junk]
        generalize hSS : lookS (mapS 4 vs) _ = SS
        simp only [go_sem, ↓reduceIte, Nat.reduceEqDiff, Nat.reduceAdd, Nat.reduceBEq, Nat.reduceLeDiff, Nat.reduceSub, Nat.reduceLT, Nat.reduceMul, reduceCtorEq]
        rw [fam_back (SS := SS) (vs := vs) (l := l) (r := r) _ (by omega) (by rw [← hSS]; rfl) (by rw [← hSS]; rfl) (by rw [← hSS]; rfl) (by rw [← hSS]; rfl) (by rw [← hSS]; rfl)
          (fun p hp => by rw [← hSS]; simp only [lookS, c0, c1, c2, c3, c4, c5, c6, if_false, mapS_at]) (by rw [← hSS]; exact hno vs _ (by simp [hBB]))]
        exact nxt
      | some x =>
        have h0 : ((x : Int) ≥ 0) = True := by simp
        obtain ⟨c, hc⟩ : ∃ c, cs[x]? = some c := by
          obtain ⟨hx1, _⟩ := List.findIdx?_eq_some_iff_getElem.1 hx
          exact ⟨_, List.getElem?_eq_getElem hx1⟩
        have hv : voteStep l r cs vs q = addV c q vs := by simp only [voteStep, h, hx, hc]; simp
        rw [hv] at nxt
        have hvl' := addV_len c q vs
        simp only [go_sem, ↓reduceIte, Nat.reduceEqDiff, Nat.reduceAdd, Nat.reduceBEq, Nat.reduceLeDiff, Nat.reduceSub, Nat.reduceLT, Nat.reduceMul, reduceCtorEq, place, h0, hc]
        rcases split_key vs c with ⟨a, ws, b, hvab, ha⟩ | ha
        · have hget : (a ++ (c, ws) :: b)[a.length]? = some (c, ws) := by simp
          have hroom : ((ws.length + 1) * 8 ≤ 140737488355328) = True := by
            have := hws (c, ws) (by rw [hvab]; simp)
            simp only at this
            simp; omega
          rw [hvab] at hvl' nxt ⊢
          rw [addV_in ha] at nxt hvl'
          simp only [go_sem, ↓reduceIte, Nat.reduceEqDiff, Nat.reduceAdd, Nat.reduceBEq, Nat.reduceLeDiff, Nat.reduceSub, Nat.reduceLT, Nat.reduceMul, reduceCtorEq, look_in ha, mapS_at, hget, hroom, upd_in (i := q) ha]
          rw [go_att]
          simp only [ev, look, ↓reduceIte, Nat.reduceEqDiff]
          generalize hSS : attach _ _ _ _ = SS
          rw [attach_own (x := di c) (k' := 4) (p := a.length) (s := 1) (N := (ws ++ [q]).length) rfl (by
            rw [ents_app, pos_skip ha, entsFrom]
            simp [keyPos, eqK_self, ents_len])] at hSS
          simp only [go_sem, ↓reduceIte, Nat.reduceEqDiff, Nat.reduceAdd, Nat.reduceBEq, Nat.reduceLeDiff, Nat.reduceSub, Nat.reduceLT, Nat.reduceMul, reduceCtorEq]
          rw [fam_back (SS := SS) (vs := a ++ (c, ws ++ [q]) :: b) (l := l) (r := r) _ (by have := congrArg List.length hvab; simp at this ⊢; omega) (by rw [← hSS]; rfl) (by rw [← hSS]; rfl) (by rw [← hSS]; rfl) (by rw [← hSS]; rfl) (by rw [← hSS]; rfl)
            (fun p hp => by
              rw [← hSS]; simp only [lookS, c0, c1, c2, c3, c4, c5, c6, c7, if_false, mapS_at]
              simp only [cid_inj]
              by_cases hpa : p = a.length
              · subst hpa
                rw [if_pos rfl]
                simp
              · rw [if_neg hpa]
                rcases Nat.lt_or_ge p a.length with hlt | hge
                · rw [List.getElem?_append_left hlt, List.getElem?_append_left hlt]
                · obtain ⟨z, rfl⟩ : ∃ z, p = a.length + 1 + z := ⟨p - a.length - 1, by omega⟩
                  rw [List.getElem?_append_right (by omega), List.getElem?_append_right (by omega), show a.length + 1 + z - a.length = z + 1 by omega]
                  rfl) (by rw [← hSS]; exact hno _ _ (by simp [hBB, hcid]))]
          exact nxt
        · rw [addV_out ha] at nxt hvl'
          simp only [go_sem, ↓reduceIte, Nat.reduceEqDiff, Nat.reduceAdd, Nat.reduceBEq, Nat.reduceLeDiff, Nat.reduceSub, Nat.reduceLT, Nat.reduceMul, reduceCtorEq, look_out ha, upd_out ha]
          rw [go_att]
          simp only [ev, look, ↓reduceIte, Nat.reduceEqDiff]
          have hB : vs.length < BB := by omega
          rw [attach_new (k := 4) (vs := vs) (ds := [[di q]]) (b := true) (E := 3) (N := 1) rfl ha rfl rfl (by omega) (by omega) (by omega) hB (by
            simp only [lookS, c0, c1, c2, c3, c4, c5, c6, c7, c8, if_false, mapS_at]
            simp)]
          generalize hSS : upd _ _ _ = SS
          simp only [go_sem, ↓reduceIte, Nat.reduceEqDiff, Nat.reduceAdd, Nat.reduceBEq, Nat.reduceLeDiff, Nat.reduceSub, Nat.reduceLT, Nat.reduceMul, reduceCtorEq]
          rw [fam_back (SS := SS) (vs := vs ++ [(c, [q])]) (l := l) (r := r) _ (by simp; omega) (by rw [← hSS]; simp [upd, lookS, cid_ne']) (by rw [← hSS]; simp [upd, lookS, cid_ne']) (by rw [← hSS]; simp [upd, lookS, cid_ne']) (by rw [← hSS]; simp [upd, lookS, cid_ne'])
            (by rw [← hSS, ents_app]; simp [upd, entsFrom])
            (fun p hp => by
              rw [← hSS]
              simp only [upd, lookS, c0, c1, c2, c3, c4, c5, c6, c7, c8, if_false, mapS_at, cid_inj]
              by_cases hpa : p = vs.length
              · subst hpa
                rw [if_pos rfl]
                simp
                rfl
              · rw [if_neg hpa]
                rcases Nat.lt_or_ge p vs.length with hlt | hge
                · rw [List.getElem?_append_left hlt]
                · rw [List.getElem?_eq_none hge, List.getElem?_eq_none (by simp; omega)])
            (fun p hp hp4 => by
              rw [← hSS]
              have hd : p / BB = p / 18446744073709551616 := by rw [hBB]
              have := hcid vs.length
              simp only [upd]
              rw [if_neg (by omega), if_neg (by omega), if_neg (by omega)]
              exact hno vs _ (by simp [hBB]) p hp hp4)]
          exact nxt
end Go.R
