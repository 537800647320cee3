/- Contracts of the small functions. -/
import Derived.Test.YtaoommhpediaeaaRg
set_option linter.unusedVariables false
set_option linter.unusedSimpArgs false
set_option linter.defProp false

namespace Go.R

structure Ctl where
  st : Int
  ep : Int
  hd : Int
deriving DecidableEq

def cx (l : List Ctl) (i : Nat) : Ctl := l.getD i ⟨0, 0, 0⟩
def up (l : List Ctl) (i : Nat) : Bool := (cx l i).st != 2
def act (l : List Ctl) (i : Nat) : Bool := (cx l i).st == 1
def rd (r : List (List Bool)) (i k : Nat) : Bool := (r.getD i []).getD k false
def hearP (l : List Ctl) (r : List (List Bool)) (i k : Nat) : Bool := up l i && (up l k && (i == k || rd r i k || rd r k i))
def hears (l : List Ctl) (r : List (List Bool)) (i : Nat) : List Nat := (List.range l.length).filter (hearP l r i)
def leads (l : List Ctl) (r : List (List Bool)) (i : Nat) : Bool := (hears l r i).any (act l)
def grt (l : List Ctl) (ks : List Nat) : Int := ks.foldl (fun m k => max m (cx l k).ep) 0
def maj (l : List Ctl) (n : Nat) : Bool := decide (l.length < 2 * n)
def candP (l : List Ctl) (r : List (List Bool)) (t u : Int) (i : Nat) : Bool := (cx l i).st == 0 && (maj l (hears l r i).length && (!leads l r i && decide (u ≤ t - (cx l i).hd)))
def cands (l : List Ctl) (r : List (List Bool)) (t u : Int) : List Nat := (List.range l.length).filter (candP l r t u)

/-- reach has a row with an element for each controller. -/
def sqB (xs : List (List Bool)) (n : Nat) : Bool := xs.length == n && xs.all fun row => row.length == n

def okC (t : Int) (c : Ctl) : Bool := decide (0 ≤ c.st) && (decide (c.st ≤ 2) && (decide (0 ≤ c.ep) && (decide (c.ep ≤ 2147483648) && (decide (0 ≤ c.hd) && decide (c.hd ≤ t)))))
/-- Check: the error's number. -/
def chk (l : List Ctl) (t : Int) : Int := if l.length < 1 ∨ 5 < l.length then 2 else if l.all (okC t) then 0 else 1

theorem getD_of {α : Type} {l : List α} {i : Nat} {x d : α} (h : l[i]? = some x) : l.getD i d = x := by simp [List.getD, h]
theorem cx_of {l : List Ctl} {i : Nat} {c : Ctl} (h : l[i]? = some c) : cx l i = c := getD_of h

theorem sq_row {r : List (List Bool)} {n i : Nat} (h : sqB r n = true) (hi : i < n) : ∃ row, r[i]? = some row ∧ row.length = n := by
  simp only [sqB, Bool.and_eq_true, beq_iff_eq, List.all_eq_true] at h
  refine ⟨r[i]'(by omega), List.getElem?_eq_getElem _, h.2 _ (List.getElem_mem _)⟩
theorem sq_at {r : List (List Bool)} {n i k : Nat} (h : sqB r n = true) (hi : i < n) (hk : k < n) : ∃ row, r[i]? = some row ∧ row[k]? = some (rd r i k) := by
  obtain ⟨row, h1, h2⟩ := sq_row h hi
  refine ⟨row, h1, ?_⟩
  rw [rd, getD_of h1]
  rw [List.getElem?_eq_getElem (by omega)]
  simp [List.getD, List.getElem?_eq_getElem (show k < row.length by omega)]
theorem c_at {l : List Ctl} {i : Nat} (hi : i < l.length) : l[i]? = some (cx l i) := by
  simp [cx, List.getD, List.getElem?_eq_getElem hi]

end Go.R
namespace Go.R
/-- Part of a round: each one that is not crashed is changed. -/
def eachF (l : List Ctl) (g : Nat → Ctl → Ctl) (i : Nat) : Ctl := if up l i = true then g i (cx l i) else cx l i
def eachM (l : List Ctl) (g : Nat → Ctl → Ctl) : List Ctl := (List.range l.length).map (eachF l g)
/-- The first q of them done. -/
def pm (l : List Ctl) (F : Nat → Ctl) (q : Nat) : List Ctl := (List.range l.length).map fun i => if i < q then F i else cx l i

theorem pm_len (l : List Ctl) (F : Nat → Ctl) (q : Nat) : (pm l F q).length = l.length := by simp [pm]
theorem pm_zero (l : List Ctl) (F : Nat → Ctl) : pm l F 0 = l := by
  apply List.ext_getElem
  · simp [pm]
  · intro i h1 h2
    simp [pm, cx, List.getD, h2]
theorem pm_all (l : List Ctl) (F : Nat → Ctl) : pm l F l.length = (List.range l.length).map F := by
  apply List.ext_getElem
  · simp [pm]
  · intro i h1 h2
    simp only [pm, List.length_map, List.length_range] at h1
    simp [pm, h1]
theorem pm_set (l : List Ctl) (F : Nat → Ctl) (q : Nat) (x : Ctl) (hx : F q = x) : (pm l F q).set q x = pm l F (q + 1) := by
  subst hx
  apply List.ext_getElem
  · simp [pm]
  · intro i h1 h2
    simp only [pm, List.length_map, List.length_range, List.length_set] at h1
    simp only [pm, List.getElem_set, List.getElem_map, List.getElem_range]
    by_cases hi : q = i
    · subst hi; simp
    · have : (i < q + 1) = (i < q) := by simp; omega
      simp [hi, this]
theorem pm_same (l : List Ctl) (F : Nat → Ctl) (q : Nat) (h : F q = cx l q) : pm l F q = pm l F (q + 1) := by
  apply List.ext_getElem
  · simp [pm]
  · intro i h1 h2
    simp only [pm, List.length_map, List.length_range] at h1
    simp only [pm, List.getElem_map, List.getElem_range]
    by_cases hi : i = q
    · subst hi; simp [h]
    · have : (i < q + 1) = (i < q) := by simp; omega
      simp [this]
end Go.R

namespace Go.R

theorem F15_eq (es : List (List D)) (hb : es.length ≤ 1000000) : RUN CF 15 [.slice 0 3 es] = some (.own 0 3 es.length, [.grow true 38 3 es]) := by
  rw [F15_run rfl]
  cases es with
  | nil => simp only [go_sem, ↓reduceIte, Nat.reduceEqDiff, Nat.reduceAdd, Nat.reduceBEq, Nat.reduceLeDiff, Nat.reduceSub, Nat.reduceLT, Nat.reduceMul, reduceCtorEq]
  | cons e r =>
    have h1 : ((r.length + 1) * 24 ≤ 140737488355328) = True := by simp at hb ⊢; omega
    simp only [go_sem, ↓reduceIte, Nat.reduceEqDiff, Nat.reduceAdd, Nat.reduceBEq, Nat.reduceLeDiff, Nat.reduceSub, Nat.reduceLT, Nat.reduceMul, reduceCtorEq, h1]
theorem F44_eq (es : List (List D)) (hb : es.length ≤ 1000000) : RUN CF 44 [.slice 0 1 es] = some (.own 0 1 es.length, [.grow true 3 1 es]) := by
  rw [F44_run rfl]
  cases es with
  | nil => simp only [go_sem, ↓reduceIte, Nat.reduceEqDiff, Nat.reduceAdd, Nat.reduceBEq, Nat.reduceLeDiff, Nat.reduceSub, Nat.reduceLT, Nat.reduceMul, reduceCtorEq]
  | cons e r =>
    have h1 : ((r.length + 1) * 8 ≤ 140737488355328) = True := by simp at hb ⊢; omega
    simp only [go_sem, ↓reduceIte, Nat.reduceEqDiff, Nat.reduceAdd, Nat.reduceBEq, Nat.reduceLeDiff, Nat.reduceSub, Nat.reduceLT, Nat.reduceMul, reduceCtorEq, h1]
end Go.R

namespace Go.R

abbrev di (n : Int) : D := .int .i64 n
abbrev db (b : Bool) : D := .bool b
def c3 (c : Ctl) : List D := [di c.st, di c.ep, di c.hd]
def i1 (n : Nat) : List D := [di n]
def b1 (b : Bool) : List D := [db b]
def r1 (r : List Bool) : List D := [.slice 0 1 (r.map b1)]
/-- A list of controllers, of numbers, of rows. -/
abbrev dC (l : List Ctl) : D := .slice 0 3 (l.map c3)
abbrev dI (l : List Nat) : D := .slice 0 1 (l.map i1)
abbrev dR (l : List (List Bool)) : D := .slice 0 1 (l.map r1)
abbrev dP (l : List Ctl) (r : List (List Bool)) : D := .agg [dC l, dR r]

theorem drop_cons {α : Type} {xs r : List α} {x : α} {i : Nat} (h : xs.drop i = x :: r) : i < xs.length ∧ xs[i]? = some x ∧ xs.drop (i + 1) = r := by
  have h1 : i < xs.length := by
    rcases Nat.lt_or_ge i xs.length with h1 | h1
    · exact h1
    · rw [List.drop_eq_nil_of_le h1] at h; cases h
  rw [List.drop_eq_getElem_cons h1] at h
  simp only [List.cons.injEq] at h
  exact ⟨h1, by rw [List.getElem?_eq_getElem h1, h.1], h.2⟩
theorem drop_nil {α : Type} {xs : List α} {i : Nat} (h : xs.drop i = []) : ¬ i < xs.length := by
  simpa using h

theorem int_lt (a b : Nat) : ((a : Int) < (b : Int)) = (a < b) := by simp
theorem int_ge (a b : Nat) : ((a : Int) ≥ (b : Int)) = (b ≤ a) := by simp
theorem int_gt (a b : Nat) : ((a : Int) > (b : Int)) = (b < a) := by simp
theorem int_beq (a b : Nat) : ((a : Int) == (b : Int)) = (a == b) := by rw [Bool.eq_iff_iff]; simp; omega
theorem int_bne (a b : Nat) : ((a : Int) != (b : Int)) = (a != b) := by simp only [bne, int_beq]

theorem snoc_i1 (l : List Nat) (n : Nat) : l.map i1 ++ [[D.int .i64 (n : Int)]] = (l ++ [n]).map i1 := by simp [i1]
attribute [go_sem] int_lt int_beq int_bne c3 i1 b1 r1 snoc_i1

def inB (x lo hi : Int) : Bool := decide (lo ≤ x) && decide (x ≤ hi)



theorem F47_eq (x lo hi : Int) : RUN CF 47 [di x, di lo, di hi] = some (.d (db (inB x lo hi)), []) := by
  rw [F47_run rfl]
  simp only [go_sem, ↓reduceIte, Nat.reduceEqDiff, Nat.reduceAdd, Nat.reduceBEq, Nat.reduceLeDiff, Nat.reduceSub, Nat.reduceLT, Nat.reduceMul, reduceCtorEq]
  refine sk_split (fun h => ?_) (fun h => ?_) <;> simp only [go_sem, ↓reduceIte, Nat.reduceEqDiff, Nat.reduceAdd, Nat.reduceBEq, Nat.reduceLeDiff, Nat.reduceSub, Nat.reduceLT, Nat.reduceMul, reduceCtorEq, h] <;> simp at h <;> simp [inB, h] <;> omega
theorem F24_eq (l : List Ctl) (n : Nat) (hn : n < 1000000) : RUN CF 24 [dC l, di n] = some (.d (db (maj l n)), []) := by
  rw [F24_run rfl]
  have : IntKind.i64.wrap (2 * (n : Int)) = ((2 * n : Nat) : Int) := by rw [wrap_in (by omega) (by omega)]; omega
  simp only [go_sem, ↓reduceIte, Nat.reduceEqDiff, Nat.reduceAdd, Nat.reduceBEq, Nat.reduceLeDiff, Nat.reduceSub, Nat.reduceLT, Nat.reduceMul, reduceCtorEq, this, int_gt, maj]
theorem F36_eq (l : List Ctl) (r : List (List Bool)) (n : Nat) (hn : n < 1000000) : RUN CF 36 [dP l r, di n] = some (.d (db (maj l n)), []) := by
  rw [F36_run rfl]
  have : IntKind.i64.wrap (2 * (n : Int)) = ((2 * n : Nat) : Int) := by rw [wrap_in (by omega) (by omega)]; omega
  simp only [go_sem, ↓reduceIte, Nat.reduceEqDiff, Nat.reduceAdd, Nat.reduceBEq, Nat.reduceLeDiff, Nat.reduceSub, Nat.reduceLT, Nat.reduceMul, reduceCtorEq, this, int_gt, maj]
theorem F31_eq (l : List Ctl) (r : List (List Bool)) (i : Nat) (hi : i < l.length) : RUN CF 31 [dP l r, di i] = some (.d (db (up l i)), []) := by
  rw [F31_run rfl]
  simp only [go_sem, ↓reduceIte, Nat.reduceEqDiff, Nat.reduceAdd, Nat.reduceBEq, Nat.reduceLeDiff, Nat.reduceSub, Nat.reduceLT, Nat.reduceMul, reduceCtorEq, c_at hi, up]
theorem F35_eq (l : List Ctl) (r : List (List Bool)) (i : Nat) (hi : i < l.length) : RUN CF 35 [dP l r, di i] = some (.d (db (act l i)), []) := by
  rw [F35_run rfl]
  simp only [go_sem, ↓reduceIte, Nat.reduceEqDiff, Nat.reduceAdd, Nat.reduceBEq, Nat.reduceLeDiff, Nat.reduceSub, Nat.reduceLT, Nat.reduceMul, reduceCtorEq, c_at hi, act]
theorem F49_eq (row : List Bool) (l : List Ctl) : RUN CF 49 [.slice 0 1 (row.map b1), .cptr 0 [dC l] 0] = some (.d (db (row.length != l.length)), []) := by
  rw [F49_run rfl]
  simp only [go_sem, ↓reduceIte, Nat.reduceEqDiff, Nat.reduceAdd, Nat.reduceBEq, Nat.reduceLeDiff, Nat.reduceSub, Nat.reduceLT, Nat.reduceMul, reduceCtorEq]
attribute [go_sem] F47_eq F24_eq F36_eq F31_eq F35_eq F49_eq
end Go.R

namespace Go.R

theorem lend_fc1 (k : Nat) (S : Store) (fst caps : List D) (x : D) : mapO (lendV k S) (fst.map V.d ++ V.d x :: caps.map V.d) = some (fst ++ x :: caps) := by
  rw [show fst.map V.d ++ V.d x :: caps.map V.d = (fst ++ x :: caps).map V.d by simp]; exact mapO_d _ _ _
theorem lend_fc2 (k : Nat) (S : Store) (fst caps : List D) (x y : D) : mapO (lendV k S) (fst.map V.d ++ V.d x :: V.d y :: caps.map V.d) = some (fst ++ x :: y :: caps) := by
  rw [show fst.map V.d ++ V.d x :: V.d y :: caps.map V.d = (fst ++ x :: y :: caps).map V.d by simp]; exact mapO_d _ _ _
attribute [go_sem] lend_fc1 lend_fc2 List.append_assoc List.flatMap_append

/-- The place of the first one, or -1. -/
def place : Option Nat → Int
  | some i => i
  | none => -1

theorem L41_eq {α : Type} (e : α → D) (p : α → Bool) (g : Nat) (fst caps : List D) (xs : List α) (hb : xs.length ≤ 9223372036854775807) (hf : ∀ x ∈ xs, RUN CF g (fst ++ e x :: caps) = some (.d (db (p x)), [])) {k : List Kt} :
    ∀ (r : List α) (i : Nat) (j : Int), j = i → xs.drop i = r →
    go CF (.code L41_0 :: .lp [0, 1, 7, 8] L41_0 0 :: k) (some (.normal, stA [(0, .d (.slice 0 1 (xs.map fun x => [e x]))), (1, .d (.func (.func g) fst caps)), (7, .d (.int .i64 xs.length)), (8, .d (.int .i64 j))] nos [] 0)) =
      go CF k (some (match r.findIdx? p with | some t => (.ret, stA [(4, .d (.int .i64 ((i + t : Nat) : Int)))] nos [] 0) | none => (.exit 0, stA [] nos [] 0))) := by
  intro r
  induction r with
  | nil =>
    rintro i j rfl hi
    have hi := drop_nil hi
    rw [L41_0g]
    simp only [go_sem, ↓reduceIte, Nat.reduceEqDiff, Nat.reduceAdd, Nat.reduceBEq, Nat.reduceLeDiff, Nat.reduceSub, Nat.reduceLT, Nat.reduceMul, reduceCtorEq, hi, List.findIdx?_nil]
  | cons x r ih =>
    rintro i j rfl hi
    obtain ⟨h1, h2, h3⟩ := drop_cons hi
    have hx := hf x (List.mem_of_getElem? h2)
    rw [L41_0g]
    simp only [go_sem, ↓reduceIte, Nat.reduceEqDiff, Nat.reduceAdd, Nat.reduceBEq, Nat.reduceLeDiff, Nat.reduceSub, Nat.reduceLT, Nat.reduceMul, reduceCtorEq, h1, h2, hx, List.findIdx?_cons]
    refine cd_fork ?_ ?_ <;> intro h <;> simp only [go_sem, ↓reduceIte, Nat.reduceEqDiff, Nat.reduceAdd, Nat.reduceBEq, Nat.reduceLeDiff, Nat.reduceSub, Nat.reduceLT, Nat.reduceMul, reduceCtorEq, h]
    rw [ih (i + 1) _ (wrap_succ (by omega)) h3]
    cases r.findIdx? p <;> simp [Nat.add_comm, Nat.add_assoc, Nat.add_left_comm]

theorem F41_eq {α : Type} (e : α → D) (p : α → Bool) (g : Nat) (fst caps : List D) (xs : List α) (hb : xs.length ≤ 9223372036854775807) (hf : ∀ x ∈ xs, RUN CF g (fst ++ e x :: caps) = some (.d (db (p x)), [])) :
    RUN CF 41 [.slice 0 1 (xs.map fun x => [e x]), .func (.func g) fst caps] = some (.d (di (place (xs.findIdx? p))), []) := by
  rw [F41_run rfl]
  simp only [go_sem, ↓reduceIte, Nat.reduceEqDiff, Nat.reduceAdd, Nat.reduceBEq, Nat.reduceLeDiff, Nat.reduceSub, Nat.reduceLT, Nat.reduceMul, reduceCtorEq]
  rw [L41_eq e p g fst caps xs hb hf xs 0 0 rfl rfl]
  cases xs.findIdx? p <;> simp only [go_sem, ↓reduceIte, Nat.reduceEqDiff, Nat.reduceAdd, Nat.reduceBEq, Nat.reduceLeDiff, Nat.reduceSub, Nat.reduceLT, Nat.reduceMul, reduceCtorEq, place]
theorem L51_eq {α : Type} (e : α → D) (p : α → Bool) (g : Nat) (fst caps : List D) (xs : List α) (hb : xs.length ≤ 9223372036854775807) (hf : ∀ x ∈ xs, RUN CF g (fst ++ e x :: caps) = some (.d (db (p x)), [])) {k : List Kt} :
    ∀ (r : List α) (i : Nat) (j : Int), j = i → xs.drop i = r →
    go CF (.code L51_0 :: .lp [0, 1, 7, 8] L51_0 0 :: k) (some (.normal, stA [(0, .d (.slice 0 1 (xs.map fun x => [e x]))), (1, .d (.func (.func g) fst caps)), (7, .d (.int .i64 xs.length)), (8, .d (.int .i64 j))] nos [] 0)) =
      go CF k (some (match r.findIdx? p with | some t => (.ret, stA [(4, .d (.int .i64 ((i + t : Nat) : Int)))] nos [] 0) | none => (.exit 0, stA [] nos [] 0))) := by
  intro r
  induction r with
  | nil =>
    rintro i j rfl hi
    have hi := drop_nil hi
    rw [L51_0g]
    simp only [go_sem, ↓reduceIte, Nat.reduceEqDiff, Nat.reduceAdd, Nat.reduceBEq, Nat.reduceLeDiff, Nat.reduceSub, Nat.reduceLT, Nat.reduceMul, reduceCtorEq, hi, List.findIdx?_nil]
  | cons x r ih =>
    rintro i j rfl hi
    obtain ⟨h1, h2, h3⟩ := drop_cons hi
    have hx := hf x (List.mem_of_getElem? h2)
    rw [L51_0g]
    simp only [go_sem, ↓reduceIte, Nat.reduceEqDiff, Nat.reduceAdd, Nat.reduceBEq, Nat.reduceLeDiff, Nat.reduceSub, Nat.reduceLT, Nat.reduceMul, reduceCtorEq, h1, h2, hx, List.findIdx?_cons]
    refine cd_fork ?_ ?_ <;> intro h <;> simp only [go_sem, ↓reduceIte, Nat.reduceEqDiff, Nat.reduceAdd, Nat.reduceBEq, Nat.reduceLeDiff, Nat.reduceSub, Nat.reduceLT, Nat.reduceMul, reduceCtorEq, h]
    rw [ih (i + 1) _ (wrap_succ (by omega)) h3]
    cases r.findIdx? p <;> simp [Nat.add_comm, Nat.add_assoc, Nat.add_left_comm]

theorem F51_eq {α : Type} (e : α → D) (p : α → Bool) (g : Nat) (fst caps : List D) (xs : List α) (hb : xs.length ≤ 9223372036854775807) (hf : ∀ x ∈ xs, RUN CF g (fst ++ e x :: caps) = some (.d (db (p x)), [])) :
    RUN CF 51 [.slice 0 1 (xs.map fun x => [e x]), .func (.func g) fst caps] = some (.d (di (place (xs.findIdx? p))), []) := by
  rw [F51_run rfl]
  simp only [go_sem, ↓reduceIte, Nat.reduceEqDiff, Nat.reduceAdd, Nat.reduceBEq, Nat.reduceLeDiff, Nat.reduceSub, Nat.reduceLT, Nat.reduceMul, reduceCtorEq]
  rw [L51_eq e p g fst caps xs hb hf xs 0 0 rfl rfl]
  cases xs.findIdx? p <;> simp only [go_sem, ↓reduceIte, Nat.reduceEqDiff, Nat.reduceAdd, Nat.reduceBEq, Nat.reduceLeDiff, Nat.reduceSub, Nat.reduceLT, Nat.reduceMul, reduceCtorEq, place]

theorem L50_eq (xs : List Nat) (v : Nat) (hb : xs.length ≤ 9223372036854775807) {k : List Kt} :
    ∀ (r : List Nat) (i : Nat) (j : Int), j = i → xs.drop i = r →
    go CF (.code L50_0 :: .lp [0, 1, 7, 8] L50_0 0 :: k) (some (.normal, stA [(0, .d (dI xs)), (1, .d (di v)), (7, .d (.int .i64 xs.length)), (8, .d (.int .i64 j))] nos [] 0)) =
      go CF k (some (match r.findIdx? (fun x => v == x) with | some t => (.ret, stA [(4, .d (.int .i64 ((i + t : Nat) : Int)))] nos [] 0) | none => (.exit 0, stA [] nos [] 0))) := by
  intro r
  induction r with
  | nil =>
    rintro i j rfl hi
    have hi := drop_nil hi
    rw [L50_0g]
    simp only [go_sem, ↓reduceIte, Nat.reduceEqDiff, Nat.reduceAdd, Nat.reduceBEq, Nat.reduceLeDiff, Nat.reduceSub, Nat.reduceLT, Nat.reduceMul, reduceCtorEq, hi, List.findIdx?_nil]
  | cons x r ih =>
    rintro i j rfl hi
    obtain ⟨h1, h2, h3⟩ := drop_cons hi
    rw [L50_0g]
    simp only [go_sem, ↓reduceIte, Nat.reduceEqDiff, Nat.reduceAdd, Nat.reduceBEq, Nat.reduceLeDiff, Nat.reduceSub, Nat.reduceLT, Nat.reduceMul, reduceCtorEq, h1, h2, List.findIdx?_cons]
    refine cd_fork ?_ ?_ <;> intro h <;> simp only [go_sem, ↓reduceIte, Nat.reduceEqDiff, Nat.reduceAdd, Nat.reduceBEq, Nat.reduceLeDiff, Nat.reduceSub, Nat.reduceLT, Nat.reduceMul, reduceCtorEq, h]
    rw [ih (i + 1) _ (wrap_succ (by omega)) h3]
    cases r.findIdx? (fun x => v == x) <;> simp [Nat.add_comm, Nat.add_assoc, Nat.add_left_comm]

theorem F50_eq (xs : List Nat) (v : Nat) (hb : xs.length ≤ 9223372036854775807) :
    RUN CF 50 [dI xs, di v] = some (.d (di (place (xs.findIdx? fun x => v == x))), []) := by
  rw [F50_run rfl]
  simp only [go_sem, ↓reduceIte, Nat.reduceEqDiff, Nat.reduceAdd, Nat.reduceBEq, Nat.reduceLeDiff, Nat.reduceSub, Nat.reduceLT, Nat.reduceMul, reduceCtorEq]
  rw [L50_eq xs v hb xs 0 0 rfl rfl]
  cases xs.findIdx? (fun x => v == x) <;> simp only [go_sem, ↓reduceIte, Nat.reduceEqDiff, Nat.reduceAdd, Nat.reduceBEq, Nat.reduceLeDiff, Nat.reduceSub, Nat.reduceLT, Nat.reduceMul, reduceCtorEq, place]

theorem place_ge (o : Option Nat) : decide (place o ≥ 0) = o.isSome := by
  cases o <;> simp [place]
theorem any_idx {α : Type} (p : α → Bool) (l : List α) : (l.findIdx? p).isSome = l.any p := by simp

theorem F37_eq {α : Type} (e : α → D) (p : α → Bool) (g : Nat) (fst caps : List D) (xs : List α) (hb : xs.length ≤ 9223372036854775807) (hf : ∀ x ∈ xs, RUN CF g (fst ++ e x :: caps) = some (.d (db (p x)), [])) :
    RUN CF 37 [.slice 0 1 (xs.map fun x => [e x]), .func (.func g) fst caps] = some (.d (db (xs.any p)), []) := by
  rw [F37_run rfl]
  simp only [go_sem, ↓reduceIte, Nat.reduceEqDiff, Nat.reduceAdd, Nat.reduceBEq, Nat.reduceLeDiff, Nat.reduceSub, Nat.reduceLT, Nat.reduceMul, reduceCtorEq, F41_eq e p g fst caps xs hb hf, place_ge, any_idx]
theorem F48_eq {α : Type} (e : α → D) (p : α → Bool) (g : Nat) (fst caps : List D) (xs : List α) (hb : xs.length ≤ 9223372036854775807) (hf : ∀ x ∈ xs, RUN CF g (fst ++ e x :: caps) = some (.d (db (p x)), [])) :
    RUN CF 48 [.slice 0 1 (xs.map fun x => [e x]), .func (.func g) fst caps] = some (.d (db (xs.any p)), []) := by
  rw [F48_run rfl]
  simp only [go_sem, ↓reduceIte, Nat.reduceEqDiff, Nat.reduceAdd, Nat.reduceBEq, Nat.reduceLeDiff, Nat.reduceSub, Nat.reduceLT, Nat.reduceMul, reduceCtorEq, F51_eq e p g fst caps xs hb hf, place_ge, any_idx]
theorem F43_eq (xs : List Nat) (v : Nat) (hb : xs.length ≤ 9223372036854775807) :
    RUN CF 43 [dI xs, di v] = some (.d (db (xs.contains v)), []) := by
  rw [F43_run rfl]
  simp only [go_sem, ↓reduceIte, Nat.reduceEqDiff, Nat.reduceAdd, Nat.reduceBEq, Nat.reduceLeDiff, Nat.reduceSub, Nat.reduceLT, Nat.reduceMul, reduceCtorEq, F50_eq xs v hb, place_ge, any_idx]
  rw [List.contains_eq_any_beq]

theorem L27_eq (xs : List Nat) (v : Nat) (hb : xs.length ≤ 9223372036854775807) {k : List Kt} :
    ∀ (r : List Nat) (i : Nat) (j : Int), j = i → xs.drop i = r →
    go CF (.code L27_0 :: .lp [1, 7, 8, 9] L27_0 0 :: k) (some (.normal, stA [(1, .d (di v)), (7, .d (dI xs)), (8, .d (.int .i64 xs.length)), (9, .d (.int .i64 j))] nos [] 0)) =
      go CF k (some (if r.contains v = true then (.ret, stA [(4, .d (db true))] nos [] 0) else (.exit 0, stA [] nos [] 0))) := by
  intro r
  induction r with
  | nil =>
    rintro i j rfl hi
    have hi := drop_nil hi
    rw [L27_0g]
    simp only [go_sem, ↓reduceIte, Nat.reduceEqDiff, Nat.reduceAdd, Nat.reduceBEq, Nat.reduceLeDiff, Nat.reduceSub, Nat.reduceLT, Nat.reduceMul, reduceCtorEq, hi, List.contains_nil]
  | cons x r ih =>
    rintro i j rfl hi
    obtain ⟨h1, h2, h3⟩ := drop_cons hi
    rw [L27_0g]
    simp only [go_sem, ↓reduceIte, Nat.reduceEqDiff, Nat.reduceAdd, Nat.reduceBEq, Nat.reduceLeDiff, Nat.reduceSub, Nat.reduceLT, Nat.reduceMul, reduceCtorEq, h1, h2]
    have he : (v == x) = (x == v) := by rw [Bool.eq_iff_iff]; simp only [beq_iff_eq]; exact eq_comm
    refine cd_fork ?_ ?_ <;> intro h <;> rw [h] at he <;> simp only [go_sem, ↓reduceIte, Nat.reduceEqDiff, Nat.reduceAdd, Nat.reduceBEq, Nat.reduceLeDiff, Nat.reduceSub, Nat.reduceLT, Nat.reduceMul, reduceCtorEq, he]
    rw [ih (i + 1) _ (wrap_succ (by omega)) h3]
theorem F27_eq (xs : List Nat) (v : Nat) (hb : xs.length ≤ 9223372036854775807) :
    RUN CF 27 [dI xs, di v] = some (.d (db (xs.contains v)), []) := by
  rw [F27_run rfl]
  simp only [go_sem, ↓reduceIte, Nat.reduceEqDiff, Nat.reduceAdd, Nat.reduceBEq, Nat.reduceLeDiff, Nat.reduceSub, Nat.reduceLT, Nat.reduceMul, reduceCtorEq]
  rw [L27_eq xs v hb xs 0 0 rfl rfl]
  cases xs.contains v <;> simp only [go_sem, ↓reduceIte, Nat.reduceEqDiff, Nat.reduceAdd, Nat.reduceBEq, Nat.reduceLeDiff, Nat.reduceSub, Nat.reduceLT, Nat.reduceMul, reduceCtorEq]

theorem L46_eq (xs : List (List Bool)) (n : Nat) (hb : xs.length ≤ 9223372036854775807) {k : List Kt} :
    ∀ (r : List (List Bool)) (i : Nat) (j : Int), j = i → xs.drop i = r →
    go CF (.code L46_0 :: .lp [1, 11, 12, 13] L46_0 0 :: k) (some (.normal, stA [(1, .d (di n)), (11, .d (dR xs)), (12, .d (.int .i64 xs.length)), (13, .d (.int .i64 j))] nos [] 0)) =
      go CF k (some (if r.all (fun row => row.length == n) = true then (.exit 0, stA [] nos [] 0) else (.ret, stA [(4, .d (db false))] nos [] 0))) := by
  intro r
  induction r with
  | nil =>
    rintro i j rfl hi
    have hi := drop_nil hi
    rw [L46_0g]
    simp only [go_sem, ↓reduceIte, Nat.reduceEqDiff, Nat.reduceAdd, Nat.reduceBEq, Nat.reduceLeDiff, Nat.reduceSub, Nat.reduceLT, Nat.reduceMul, reduceCtorEq, hi, List.all_nil]
  | cons x r ih =>
    rintro i j rfl hi
    obtain ⟨h1, h2, h3⟩ := drop_cons hi
    rw [L46_0g]
    simp only [go_sem, ↓reduceIte, Nat.reduceEqDiff, Nat.reduceAdd, Nat.reduceBEq, Nat.reduceLeDiff, Nat.reduceSub, Nat.reduceLT, Nat.reduceMul, reduceCtorEq, h1, h2]
    refine cd_fork ?_ ?_ <;> intro h <;> simp only [go_sem, ↓reduceIte, Nat.reduceEqDiff, Nat.reduceAdd, Nat.reduceBEq, Nat.reduceLeDiff, Nat.reduceSub, Nat.reduceLT, Nat.reduceMul, reduceCtorEq, h]
    · have : (x.length == n) = false := by simpa using h
      simp only [go_sem, ↓reduceIte, Nat.reduceEqDiff, Nat.reduceAdd, Nat.reduceBEq, Nat.reduceLeDiff, Nat.reduceSub, Nat.reduceLT, Nat.reduceMul, reduceCtorEq, this]
    · rw [ih (i + 1) _ (wrap_succ (by omega)) h3]
      have : (x.length == n) = true := by simpa using h
      simp only [go_sem, ↓reduceIte, Nat.reduceEqDiff, Nat.reduceAdd, Nat.reduceBEq, Nat.reduceLeDiff, Nat.reduceSub, Nat.reduceLT, Nat.reduceMul, reduceCtorEq, this]
theorem F46_eq (xs : List (List Bool)) (n : Nat) (hb : xs.length ≤ 9223372036854775807) :
    RUN CF 46 [dR xs, di n] = some (.d (db (sqB xs n)), []) := by
  rw [F46_run rfl]
  simp only [go_sem, ↓reduceIte, Nat.reduceEqDiff, Nat.reduceAdd, Nat.reduceBEq, Nat.reduceLeDiff, Nat.reduceSub, Nat.reduceLT, Nat.reduceMul, reduceCtorEq]
  refine cd_split ?_ ?_ <;> intro h <;> simp only [go_sem, ↓reduceIte, Nat.reduceEqDiff, Nat.reduceAdd, Nat.reduceBEq, Nat.reduceLeDiff, Nat.reduceSub, Nat.reduceLT, Nat.reduceMul, reduceCtorEq, h]
  · have : (xs.length == n) = false := by simpa using h
    simp only [go_sem, ↓reduceIte, Nat.reduceEqDiff, Nat.reduceAdd, Nat.reduceBEq, Nat.reduceLeDiff, Nat.reduceSub, Nat.reduceLT, Nat.reduceMul, reduceCtorEq, sqB, this]
  · rw [L46_eq xs n hb xs 0 0 rfl rfl]
    have : (xs.length == n) = true := by simpa using h
    simp only [sqB, this, Bool.true_and]
    cases xs.all fun row => row.length == n <;> simp only [go_sem, ↓reduceIte, Nat.reduceEqDiff, Nat.reduceAdd, Nat.reduceBEq, Nat.reduceLeDiff, Nat.reduceSub, Nat.reduceLT, Nat.reduceMul, reduceCtorEq]
theorem F28_eq (l : List Ctl) (xs : List (List Bool)) (hb : xs.length ≤ 9223372036854775807) : RUN CF 28 [dC l, dR xs] = some (.d (db (sqB xs l.length)), []) := by
  rw [F28_run rfl]
  simp only [go_sem, ↓reduceIte, Nat.reduceEqDiff, Nat.reduceAdd, Nat.reduceBEq, Nat.reduceLeDiff, Nat.reduceSub, Nat.reduceLT, Nat.reduceMul, reduceCtorEq]
  have hc : ∀ x ∈ xs, RUN CF 49 ([] ++ .slice 0 1 (x.map b1) :: [.cptr 0 [dC l] 0]) = some (.d (db (x.length != l.length)), []) := fun x _ => F49_eq x l
  have h48 : RUN CF 48 [dR xs, .func (.func 49) [] [.cptr 0 [dC l] 0]] = some (.d (db (xs.any fun row => row.length != l.length)), []) := F48_eq (fun row : List Bool => .slice 0 1 (row.map b1)) (fun row => row.length != l.length) 49 [] [.cptr 0 [dC l] 0] xs hb hc
  have hsq : (!xs.any fun row => row.length != l.length) = xs.all fun row => row.length == l.length := by simp [List.not_any_eq_all_not, bne]
  refine sk_split (fun h => ?_) (fun h => ?_) <;> simp only [go_sem, ↓reduceIte, Nat.reduceEqDiff, Nat.reduceAdd, Nat.reduceBEq, Nat.reduceLeDiff, Nat.reduceSub, Nat.reduceLT, Nat.reduceMul, reduceCtorEq, h, h48, hsq, sqB]
end Go.R

namespace Go.R

theorem filt_len (P : Nat → Bool) (i : Nat) : ((List.range i).filter P).length ≤ i := by
  have := List.length_filter_le P (List.range i)
  simpa using this
theorem filt_succ (P : Nat → Bool) (i : Nat) : (List.range (i + 1)).filter P = (List.range i).filter P ++ (if P i = true then [i] else []) := by
  rw [List.range_succ, List.filter_append]
  simp [List.filter_cons]

theorem L29_eq (l : List Ctl) (r : List (List Bool)) (i : Nat) (hb : l.length < 1000000) (hi : i < l.length) (hs : sqB r l.length = true) {k : List Kt} :
    ∀ (m q : Nat) (j : Int), j = q → q + m = l.length →
    go CF (.code L29_0 :: .lp [1, 2, 5, 9, 10] L29_0 3 :: k) (some (.normal, stA [(1, .d (di i)), (2, .loc 0 1 0 0), (5, .own 2 1 ((List.range q).filter (hearP l r i)).length), (9, .d (.int .i64 l.length)), (10, .d (.int .i64 j))] nos
      [(0, .grow true 47 2 [[dC l, dR r]]), (1, .grow true 3 1 []), (2, .grow true 3 1 (((List.range q).filter (hearP l r i)).map i1))] 3)) =
      go CF k (some (.exit 0, stA [(5, .own 2 1 (hears l r i).length)] nos [(0, .grow true 47 2 [[dC l, dR r]]), (1, .grow true 3 1 []), (2, .grow true 3 1 ((hears l r i).map i1))] 3)) := by
  intro m
  induction m with
  | zero =>
    rintro q j rfl hq
    have hn : ¬ q < l.length := by omega
    have he : q = l.length := by omega
    rw [L29_0g]
    simp only [go_sem, ↓reduceIte, Nat.reduceEqDiff, Nat.reduceAdd, Nat.reduceBEq, Nat.reduceLeDiff, Nat.reduceSub, Nat.reduceLT, Nat.reduceMul, reduceCtorEq, hn]
    subst he
    rfl
  | succ m ih =>
    rintro q j rfl hq
    have h1 : q < l.length := by omega
    have hl := filt_len (hearP l r i) q
    have hroom : ((((List.range q).filter (hearP l r i)).length + 1) * 8 ≤ 140737488355328) = True := by simp; omega
    obtain ⟨row, g1, g2⟩ := sq_at hs hi h1
    obtain ⟨rw2, g3, g4⟩ := sq_at hs h1 hi
    have nxt := ih (q + 1) _ (wrap_succ (by omega)) (by omega)
    rw [filt_succ] at nxt
    rw [L29_0g]
    simp only [go_sem, ↓reduceIte, Nat.reduceEqDiff, Nat.reduceAdd, Nat.reduceBEq, Nat.reduceLeDiff, Nat.reduceSub, Nat.reduceLT, Nat.reduceMul, reduceCtorEq, h1, F31_eq l r i hi, F31_eq l r q h1]
    repeat' (first | refine sk_fork ?_ ?_ | refine cd_fork ?_ ?_) <;> intro h <;> simp only [go_sem, ↓reduceIte, Nat.reduceEqDiff, Nat.reduceAdd, Nat.reduceBEq, Nat.reduceLeDiff, Nat.reduceSub, Nat.reduceLT, Nat.reduceMul, reduceCtorEq, h, F31_eq l r q h1, g1, g2, g3, g4, hroom]
    all_goals first
      | (have hP : hearP l r i q = true := by clear ih nxt; simp [hearP, *]
         rw [hP] at nxt
         simpa only [if_true, List.length_append, List.length_cons, List.length_nil] using nxt)
      | (have hP : hearP l r i q = false := by clear ih nxt; simp [hearP, *]
         rw [hP] at nxt
         simpa only [if_false, Bool.false_eq_true, List.append_nil] using nxt)
theorem F29_eq (l : List Ctl) (r : List (List Bool)) (i : Nat) (hb : l.length < 1000000) (hi : i < l.length) (hs : sqB r l.length = true) : RUN CF 29 [dP l r, di i] = some (.d (dI (hears l r i)), []) := by
  rw [F29_run rfl]
  simp only [go_sem, ↓reduceIte, Nat.reduceEqDiff, Nat.reduceAdd, Nat.reduceBEq, Nat.reduceLeDiff, Nat.reduceSub, Nat.reduceLT, Nat.reduceMul, reduceCtorEq]
  have h := L29_eq l r i hb hi hs (k := [Kt.blk 0, Kt.code (AC.kl [5] k29_20)]) l.length 0 0 rfl (by omega)
  simp only [List.range_zero, List.filter_nil, List.length_nil, List.map_nil] at h
  rw [h]
  simp only [go_sem, ↓reduceIte, Nat.reduceEqDiff, Nat.reduceAdd, Nat.reduceBEq, Nat.reduceLeDiff, Nat.reduceSub, Nat.reduceLT, Nat.reduceMul, reduceCtorEq]
theorem hears_lt {l : List Ctl} {r : List (List Bool)} {i k : Nat} (h : k ∈ hears l r i) : k < l.length := by
  simp only [hears, List.mem_filter, List.mem_range] at h
  exact h.1
theorem F39_eq (l : List Ctl) (r : List (List Bool)) (i : Nat) (hb : l.length < 1000000) (hi : i < l.length) (hs : sqB r l.length = true) : RUN CF 39 [dP l r, di i] = some (.d (db (leads l r i)), []) := by
  rw [F39_run rfl]
  have h := F37_eq (fun n : Nat => di n) (act l) 35 [dP l r] [] (hears l r i) (by have := filt_len (hearP l r i) l.length; unfold hears; omega) (fun x hx => F35_eq l r x (hears_lt hx))
  have h : RUN CF 37 [dI (hears l r i), .func (.func 35) [dP l r] []] = some (.d (db ((hears l r i).any (act l))), []) := h
  simp only [go_sem, ↓reduceIte, Nat.reduceEqDiff, Nat.reduceAdd, Nat.reduceBEq, Nat.reduceLeDiff, Nat.reduceSub, Nat.reduceLT, Nat.reduceMul, reduceCtorEq, F29_eq l r i hb hi hs, h]
  rfl
end Go.R

namespace Go.R

theorem L32_eq (l : List Ctl) (rr : List (List Bool)) (xs : List Nat) (hb : xs.length < 1000000) (hx : ∀ x ∈ xs, x < l.length) {k : List Kt} :
    ∀ (r : List Nat) (i : Nat) (j a : Int), j = i → xs.drop i = r →
    go CF (.code L32_0 :: .lp [2, 5, 8, 9, 10] L32_0 1 :: k) (some (.normal, stA [(2, .loc 0 1 0 0), (5, .d (.int .i64 a)), (8, .d (dI xs)), (9, .d (.int .i64 xs.length)), (10, .d (.int .i64 j))] nos [(0, .grow true 47 2 [[dC l, dR rr]])] 1)) =
      go CF k (some (.exit 0, stA [(5, .d (.int .i64 (r.foldl (fun m k => max m (cx l k).ep) a)))] nos [(0, .grow true 47 2 [[dC l, dR rr]])] 1)) := by
  intro r
  induction r with
  | nil =>
    rintro i j a rfl hi
    have hi := drop_nil hi
    rw [L32_0g]
    simp only [go_sem, ↓reduceIte, Nat.reduceEqDiff, Nat.reduceAdd, Nat.reduceBEq, Nat.reduceLeDiff, Nat.reduceSub, Nat.reduceLT, Nat.reduceMul, reduceCtorEq, hi, List.foldl_nil]
  | cons x r ih =>
    rintro i j a rfl hi
    obtain ⟨h1, h2, h3⟩ := drop_cons hi
    rw [L32_0g]
    simp only [go_sem, ↓reduceIte, Nat.reduceEqDiff, Nat.reduceAdd, Nat.reduceBEq, Nat.reduceLeDiff, Nat.reduceSub, Nat.reduceLT, Nat.reduceMul, reduceCtorEq, h1, h2, c_at (hx x (List.mem_of_getElem? h2)), List.foldl_cons]
    rw [ih (i + 1) _ _ (wrap_succ (by omega)) h3]
theorem F32_eq (l : List Ctl) (rr : List (List Bool)) (xs : List Nat) (hb : xs.length < 1000000) (hx : ∀ x ∈ xs, x < l.length) : RUN CF 32 [dP l rr, dI xs] = some (.d (di (grt l xs)), []) := by
  rw [F32_run rfl]
  simp only [go_sem, ↓reduceIte, Nat.reduceEqDiff, Nat.reduceAdd, Nat.reduceBEq, Nat.reduceLeDiff, Nat.reduceSub, Nat.reduceLT, Nat.reduceMul, reduceCtorEq]
  rw [L32_eq l rr xs hb hx xs 0 0 0 rfl rfl]
  simp only [go_sem, ↓reduceIte, Nat.reduceEqDiff, Nat.reduceAdd, Nat.reduceBEq, Nat.reduceLeDiff, Nat.reduceSub, Nat.reduceLT, Nat.reduceMul, reduceCtorEq, grt]

theorem L30_eq (xs : List Ctl) (t : Int) (hb : xs.length < 1000000) {k : List Kt} :
    ∀ (r : List Ctl) (i : Nat) (j : Int), j = i → xs.drop i = r →
    done false [.tmp 4] (go CF (.code L30_0 :: .lp [1, 15, 16, 17] L30_0 0 :: k) (some (.normal, stA [(1, .d (di t)), (15, .d (dC xs)), (16, .d (.int .i64 xs.length)), (17, .d (.int .i64 j))] nos [] 0))) =
      bif r.all (okC t) then done false [.tmp 4] (go CF k (some (.exit 0, stA [] nos [] 0))) else some (.d (di 1), []) := by
  intro r
  induction r with
  | nil =>
    rintro i j rfl hi
    have hi := drop_nil hi
    rw [L30_0g]
    simp only [go_sem, ↓reduceIte, Nat.reduceEqDiff, Nat.reduceAdd, Nat.reduceBEq, Nat.reduceLeDiff, Nat.reduceSub, Nat.reduceLT, Nat.reduceMul, reduceCtorEq, hi, List.all_nil]
  | cons x r ih =>
    rintro i j rfl hi
    obtain ⟨h1, h2, h3⟩ := drop_cons hi
    rw [L30_0g]
    simp only [go_sem, ↓reduceIte, Nat.reduceEqDiff, Nat.reduceAdd, Nat.reduceBEq, Nat.reduceLeDiff, Nat.reduceSub, Nat.reduceLT, Nat.reduceMul, reduceCtorEq, h1, h2]
    repeat' (first | refine sk_split ?_ ?_ | refine cd_split ?_ ?_) <;> intro h <;> simp only [go_sem, ↓reduceIte, Nat.reduceEqDiff, Nat.reduceAdd, Nat.reduceBEq, Nat.reduceLeDiff, Nat.reduceSub, Nat.reduceLT, Nat.reduceMul, reduceCtorEq, h]
    all_goals simp only [decide_eq_true_eq, decide_eq_false_iff_not] at *
    all_goals first
      | (have hP : okC t x = false := by clear ih; simp [okC]; omega
         simp only [go_sem, ↓reduceIte, Nat.reduceEqDiff, Nat.reduceAdd, Nat.reduceBEq, Nat.reduceLeDiff, Nat.reduceSub, Nat.reduceLT, Nat.reduceMul, reduceCtorEq, hP]; done)
      | (have hP : okC t x = true := by clear ih; simp [okC]; omega
         rw [ih (i + 1) _ (wrap_succ (by omega)) h3]
         simp only [go_sem, ↓reduceIte, Nat.reduceEqDiff, Nat.reduceAdd, Nat.reduceBEq, Nat.reduceLeDiff, Nat.reduceSub, Nat.reduceLT, Nat.reduceMul, reduceCtorEq, hP])
theorem F30_eq (l : List Ctl) (t : Int) (hb : l.length < 1000000) : RUN CF 30 [dC l, di t] = some (.d (di (chk l t)), []) := by
  rw [F30_run rfl]
  simp only [go_sem, ↓reduceIte, Nat.reduceEqDiff, Nat.reduceAdd, Nat.reduceBEq, Nat.reduceLeDiff, Nat.reduceSub, Nat.reduceLT, Nat.reduceMul, reduceCtorEq]
  repeat' (first | refine sk_split ?_ ?_ | refine cd_split ?_ ?_) <;> intro h <;> simp only [go_sem, ↓reduceIte, Nat.reduceEqDiff, Nat.reduceAdd, Nat.reduceBEq, Nat.reduceLeDiff, Nat.reduceSub, Nat.reduceLT, Nat.reduceMul, reduceCtorEq, h]
  all_goals simp only [decide_eq_true_eq, decide_eq_false_iff_not] at *
  · rw [chk, if_pos (by omega)]
  · rw [chk, if_pos (by omega)]
  · have hc : chk l t = if l.all (okC t) then 0 else 1 := by rw [chk, if_neg (by omega)]
    rw [L30_eq l t hb l 0 0 rfl rfl, hc]
    cases l.all (okC t) <;> simp only [go_sem, ↓reduceIte, Nat.reduceEqDiff, Nat.reduceAdd, Nat.reduceBEq, Nat.reduceLeDiff, Nat.reduceSub, Nat.reduceLT, Nat.reduceMul, reduceCtorEq]

theorem L45_eq (xs : List Ctl) (t : Int) (hb : xs.length < 1000000) {k : List Kt} :
    ∀ (r : List Ctl) (i : Nat) (j : Int), j = i → xs.drop i = r →
    done false [.tmp 4] (go CF (.code L45_0 :: .lp [1, 11, 12, 13] L45_0 0 :: k) (some (.normal, stA [(1, .d (di t)), (11, .d (dC xs)), (12, .d (.int .i64 xs.length)), (13, .d (.int .i64 j))] nos [] 0))) =
      bif r.all (okC t) then done false [.tmp 4] (go CF k (some (.exit 0, stA [] nos [] 0))) else some (.d (di 1), []) := by
  intro r
  induction r with
  | nil =>
    rintro i j rfl hi
    have hi := drop_nil hi
    rw [L45_0g]
    simp only [go_sem, ↓reduceIte, Nat.reduceEqDiff, Nat.reduceAdd, Nat.reduceBEq, Nat.reduceLeDiff, Nat.reduceSub, Nat.reduceLT, Nat.reduceMul, reduceCtorEq, hi, List.all_nil]
  | cons x r ih =>
    rintro i j rfl hi
    obtain ⟨h1, h2, h3⟩ := drop_cons hi
    rw [L45_0g]
    simp only [go_sem, ↓reduceIte, Nat.reduceEqDiff, Nat.reduceAdd, Nat.reduceBEq, Nat.reduceLeDiff, Nat.reduceSub, Nat.reduceLT, Nat.reduceMul, reduceCtorEq, h1, h2]
    repeat' (first | refine sk_split ?_ ?_ | refine cd_split ?_ ?_) <;> intro h <;> simp only [go_sem, ↓reduceIte, Nat.reduceEqDiff, Nat.reduceAdd, Nat.reduceBEq, Nat.reduceLeDiff, Nat.reduceSub, Nat.reduceLT, Nat.reduceMul, reduceCtorEq, h]
    all_goals simp only [Bool.not_eq_true', Bool.not_eq_false', inB, Bool.and_eq_true, Bool.and_eq_false_imp, decide_eq_true_eq, decide_eq_false_iff_not] at *
    all_goals first
      | (have hP : okC t x = false := by clear ih; simp [okC]; omega
         simp only [go_sem, ↓reduceIte, Nat.reduceEqDiff, Nat.reduceAdd, Nat.reduceBEq, Nat.reduceLeDiff, Nat.reduceSub, Nat.reduceLT, Nat.reduceMul, reduceCtorEq, hP]; done)
      | (have hP : okC t x = true := by clear ih; simp [okC]; omega
         rw [ih (i + 1) _ (wrap_succ (by omega)) h3]
         simp only [go_sem, ↓reduceIte, Nat.reduceEqDiff, Nat.reduceAdd, Nat.reduceBEq, Nat.reduceLeDiff, Nat.reduceSub, Nat.reduceLT, Nat.reduceMul, reduceCtorEq, hP])
theorem F45_eq (l : List Ctl) (t : Int) (hb : l.length < 1000000) : RUN CF 45 [dC l, di t] = some (.d (di (chk l t)), []) := by
  rw [F45_run rfl]
  simp only [go_sem, ↓reduceIte, Nat.reduceEqDiff, Nat.reduceAdd, Nat.reduceBEq, Nat.reduceLeDiff, Nat.reduceSub, Nat.reduceLT, Nat.reduceMul, reduceCtorEq]
  refine cd_split ?_ ?_ <;> intro h <;> simp only [go_sem, ↓reduceIte, Nat.reduceEqDiff, Nat.reduceAdd, Nat.reduceBEq, Nat.reduceLeDiff, Nat.reduceSub, Nat.reduceLT, Nat.reduceMul, reduceCtorEq, h]
  all_goals simp only [Bool.not_eq_true', Bool.not_eq_false', inB, Bool.and_eq_true, Bool.and_eq_false_imp, decide_eq_true_eq, decide_eq_false_iff_not] at *
  · rw [chk, if_pos (by omega)]
  · have hc : chk l t = if l.all (okC t) then 0 else 1 := by rw [chk, if_neg (by omega)]
    rw [L45_eq l t hb l 0 0 rfl rfl, hc]
    cases l.all (okC t) <;> simp only [go_sem, ↓reduceIte, Nat.reduceEqDiff, Nat.reduceAdd, Nat.reduceBEq, Nat.reduceLeDiff, Nat.reduceSub, Nat.reduceLT, Nat.reduceMul, reduceCtorEq]
end Go.R

namespace Go.R

theorem up_st {l : List Ctl} {i : Nat} : up l i = !((cx l i).st == 2) := rfl

def hearQ (l : List Ctl) (r : List (List Bool)) (i k : Nat) : Bool := up l k && (k == i || rd r i k || rd r k i)
theorem hearQ_eq (l : List Ctl) (r : List (List Bool)) (i : Nat) (h : up l i = true) : hearP l r i = hearQ l r i := by
  funext k
  have : (i == k) = (k == i) := by rw [Bool.eq_iff_iff]; simp only [beq_iff_eq]; exact eq_comm
  simp only [hearP, hearQ, h, Bool.true_and, this]

theorem L23_eq (l : List Ctl) (r : List (List Bool)) (i : Nat) (hb : l.length < 1000000) (hi : i < l.length) (hs : sqB r l.length = true) {k : List Kt} :
    ∀ (m q : Nat) (j : Int), j = q → q + m = l.length →
    go CF (.code L23_0 :: .lp [1, 2, 7, 33, 34, 35] L23_0 2 :: k) (some (.normal, stA [(1, .d (dR r)), (2, .d (di i)), (7, .own 1 1 ((List.range q).filter (hearQ l r i)).length), (33, .d (dC l)), (34, .d (.int .i64 l.length)), (35, .d (.int .i64 j))] nos
      [(0, .grow true 3 1 []), (1, .grow true 3 1 (((List.range q).filter (hearQ l r i)).map i1))] 2)) =
      go CF k (some (.exit 0, stA [(7, .own 1 1 ((List.range l.length).filter (hearQ l r i)).length)] nos [(0, .grow true 3 1 []), (1, .grow true 3 1 (((List.range l.length).filter (hearQ l r i)).map i1))] 2)) := by
  intro m
  induction m with
  | zero =>
    rintro q j rfl hq
    have hn : ¬ q < l.length := by omega
    have he : q = l.length := by omega
    rw [L23_0g]
    simp only [go_sem, ↓reduceIte, Nat.reduceEqDiff, Nat.reduceAdd, Nat.reduceBEq, Nat.reduceLeDiff, Nat.reduceSub, Nat.reduceLT, Nat.reduceMul, reduceCtorEq, hn]
    subst he
    rfl
  | succ m ih =>
    rintro q j rfl hq
    have h1 : q < l.length := by omega
    have hl := filt_len (hearQ l r i) q
    have hroom : ((((List.range q).filter (hearQ l r i)).length + 1) * 8 ≤ 140737488355328) = True := by simp; omega
    obtain ⟨row, g1, g2⟩ := sq_at hs hi h1
    obtain ⟨rw2, g3, g4⟩ := sq_at hs h1 hi
    have nxt := ih (q + 1) _ (wrap_succ (by omega)) (by omega)
    rw [filt_succ] at nxt
    have hu : ((cx l q).st != 2) = up l q := rfl
    rw [L23_0g]
    simp only [go_sem, ↓reduceIte, Nat.reduceEqDiff, Nat.reduceAdd, Nat.reduceBEq, Nat.reduceLeDiff, Nat.reduceSub, Nat.reduceLT, Nat.reduceMul, reduceCtorEq, h1, c_at h1, hu]
    repeat' (first | refine sk_fork ?_ ?_ | refine cd_fork ?_ ?_) <;> intro h <;> simp only [go_sem, ↓reduceIte, Nat.reduceEqDiff, Nat.reduceAdd, Nat.reduceBEq, Nat.reduceLeDiff, Nat.reduceSub, Nat.reduceLT, Nat.reduceMul, reduceCtorEq, h, g1, g2, g3, g4, hroom]
    all_goals first
      | (have hP : hearQ l r i q = true := by clear ih nxt; simp only [hearQ, *, Bool.true_and, Bool.or_true, Bool.true_or]
         rw [hP] at nxt
         simpa only [if_true, List.length_append, List.length_cons, List.length_nil] using nxt)
      | (have hP : hearQ l r i q = false := by clear ih nxt; simp only [hearQ, *, Bool.false_and, Bool.or_false, Bool.and_false]
         rw [hP] at nxt
         simpa only [if_false, Bool.false_eq_true, List.append_nil] using nxt)
theorem F23_eq (l : List Ctl) (r : List (List Bool)) (i : Nat) (hb : l.length < 1000000) (hi : i < l.length) (hs : sqB r l.length = true) : RUN CF 23 [dC l, dR r, di i] = some (.d (dI (hears l r i)), []) := by
  rw [F23_run rfl]
  have h0 : decide ((i : Int) < 0) = false := by simp
  have h2 : decide ((i : Int) ≥ (l.length : Int)) = false := by simp; omega
  have hr : r.length ≤ 9223372036854775807 := by
    simp only [sqB, Bool.and_eq_true, beq_iff_eq] at hs
    omega
  simp only [go_sem, ↓reduceIte, Nat.reduceEqDiff, Nat.reduceAdd, Nat.reduceBEq, Nat.reduceLeDiff, Nat.reduceSub, Nat.reduceLT, Nat.reduceMul, reduceCtorEq, h0, h2, F46_eq r l.length hr, hs, c_at hi]
  refine cd_split ?_ ?_ <;> intro h <;> simp only [go_sem, ↓reduceIte, Nat.reduceEqDiff, Nat.reduceAdd, Nat.reduceBEq, Nat.reduceLeDiff, Nat.reduceSub, Nat.reduceLT, Nat.reduceMul, reduceCtorEq, h]
  · have hu : up l i = false := by rw [up_st, h]; rfl
    have : hears l r i = [] := by
      unfold hears
      rw [List.filter_eq_nil_iff]
      intro k _
      simp [hearP, hu]
    rw [this]
    rfl
  · have hu : up l i = true := by rw [up_st, h]; rfl
    have := fun k => L23_eq l r i hb hi hs (k := k) l.length 0 0 rfl (by omega)
    simp only [List.range_zero, List.filter_nil, List.length_nil, List.map_nil] at this
    rw [this, hears, hearQ_eq l r i hu]
    simp only [go_sem, ↓reduceIte, Nat.reduceEqDiff, Nat.reduceAdd, Nat.reduceBEq, Nat.reduceLeDiff, Nat.reduceSub, Nat.reduceLT, Nat.reduceMul, reduceCtorEq]

theorem L25_eq (l : List Ctl) (xs : List Nat) (hb : xs.length < 1000000) (hx : ∀ x ∈ xs, x < l.length) {k : List Kt} :
    ∀ (r : List Nat) (i : Nat) (j : Int), j = i → xs.drop i = r →
    done false [.tmp 6] (go CF (.code L25_0 :: .lp [0, 12, 13, 14] L25_0 0 :: k) (some (.normal, stA [(0, .d (dC l)), (12, .d (dI xs)), (13, .d (.int .i64 xs.length)), (14, .d (.int .i64 j))] nos [] 0))) =
      bif r.any (act l) then some (.d (db true), []) else done false [.tmp 6] (go CF k (some (.exit 0, stA [] nos [] 0))) := by
  intro r
  induction r with
  | nil =>
    rintro i j rfl hi
    have hi := drop_nil hi
    rw [L25_0g]
    simp only [go_sem, ↓reduceIte, Nat.reduceEqDiff, Nat.reduceAdd, Nat.reduceBEq, Nat.reduceLeDiff, Nat.reduceSub, Nat.reduceLT, Nat.reduceMul, reduceCtorEq, hi, List.any_nil]
  | cons x r ih =>
    rintro i j rfl hi
    obtain ⟨h1, h2, h3⟩ := drop_cons hi
    rw [L25_0g]
    have ha : ((cx l x).st == 1) = act l x := rfl
    simp only [go_sem, ↓reduceIte, Nat.reduceEqDiff, Nat.reduceAdd, Nat.reduceBEq, Nat.reduceLeDiff, Nat.reduceSub, Nat.reduceLT, Nat.reduceMul, reduceCtorEq, h1, h2, c_at (hx x (List.mem_of_getElem? h2)), List.any_cons, ha]
    refine cd_split ?_ ?_ <;> intro h <;> simp only [go_sem, ↓reduceIte, Nat.reduceEqDiff, Nat.reduceAdd, Nat.reduceBEq, Nat.reduceLeDiff, Nat.reduceSub, Nat.reduceLT, Nat.reduceMul, reduceCtorEq, h]
    rw [ih (i + 1) _ (wrap_succ (by omega)) h3]
theorem hears_len (l : List Ctl) (r : List (List Bool)) (i : Nat) : (hears l r i).length ≤ l.length := filt_len _ _
theorem F25_eq (l : List Ctl) (r : List (List Bool)) (i : Nat) (hb : l.length < 1000000) (hi : i < l.length) (hs : sqB r l.length = true) : RUN CF 25 [dC l, dR r, di i] = some (.d (db (leads l r i)), []) := by
  rw [F25_run rfl]
  have hl := hears_len l r i
  simp only [go_sem, ↓reduceIte, Nat.reduceEqDiff, Nat.reduceAdd, Nat.reduceBEq, Nat.reduceLeDiff, Nat.reduceSub, Nat.reduceLT, Nat.reduceMul, reduceCtorEq, F23_eq l r i hb hi hs]
  rw [L25_eq l (hears l r i) (by omega) (fun x hx => hears_lt hx) (hears l r i) 0 0 rfl rfl, leads]
  cases (hears l r i).any (act l) <;> simp only [go_sem, ↓reduceIte, Nat.reduceEqDiff, Nat.reduceAdd, Nat.reduceBEq, Nat.reduceLeDiff, Nat.reduceSub, Nat.reduceLT, Nat.reduceMul, reduceCtorEq]

theorem L26_eq (l : List Ctl) (r : List (List Bool)) (t u : Int) (hb : l.length < 1000000) (hs : sqB r l.length = true) (hc : ∀ c ∈ l, -9223372036854775808 ≤ t - c.hd ∧ t - c.hd ≤ 9223372036854775807) {k : List Kt} :
    ∀ (m q : Nat) (j : Int), j = q → q + m = l.length →
    go CF (.code L26_0 :: .lp [0, 1, 2, 3, 9, 12, 13, 14] L26_0 2 :: k) (some (.normal, stA [(0, .d (dC l)), (1, .d (dR r)), (2, .d (di t)), (3, .d (di u)), (9, .own 1 1 ((List.range q).filter (candP l r t u)).length), (12, .d (dC l)), (13, .d (.int .i64 l.length)), (14, .d (.int .i64 j))] nos
      [(0, .grow true 3 1 []), (1, .grow true 3 1 (((List.range q).filter (candP l r t u)).map i1))] 2)) =
      go CF k (some (.exit 0, stA [(9, .own 1 1 (cands l r t u).length)] nos [(0, .grow true 3 1 []), (1, .grow true 3 1 ((cands l r t u).map i1))] 2)) := by
  intro m
  induction m with
  | zero =>
    rintro q j rfl hq
    have hn : ¬ q < l.length := by omega
    have he : q = l.length := by omega
    rw [L26_0g]
    simp only [go_sem, ↓reduceIte, Nat.reduceEqDiff, Nat.reduceAdd, Nat.reduceBEq, Nat.reduceLeDiff, Nat.reduceSub, Nat.reduceLT, Nat.reduceMul, reduceCtorEq, hn]
    subst he
    rfl
  | succ m ih =>
    rintro q j rfl hq
    have h1 : q < l.length := by omega
    have hl := filt_len (candP l r t u) q
    have hl2 := hears_len l r q
    have hroom : ((((List.range q).filter (candP l r t u)).length + 1) * 8 ≤ 140737488355328) = True := by simp; omega
    have hcq := hc _ (List.mem_of_getElem? (c_at h1))
    have nxt := ih (q + 1) _ (wrap_succ (by omega)) (by omega)
    rw [filt_succ] at nxt
    have hw : IntKind.i64.wrap (t - (cx l q).hd) = t - (cx l q).hd := wrap_in (by omega) (by omega)
    rw [L26_0g]
    simp only [go_sem, ↓reduceIte, Nat.reduceEqDiff, Nat.reduceAdd, Nat.reduceBEq, Nat.reduceLeDiff, Nat.reduceSub, Nat.reduceLT, Nat.reduceMul, reduceCtorEq, h1, c_at h1]
    repeat' (first | refine sk_fork ?_ ?_ | refine cd_fork ?_ ?_) <;> intro h <;> simp only [go_sem, ↓reduceIte, Nat.reduceEqDiff, Nat.reduceAdd, Nat.reduceBEq, Nat.reduceLeDiff, Nat.reduceSub, Nat.reduceLT, Nat.reduceMul, reduceCtorEq, h, F23_eq l r q hb h1 hs, F24_eq l (hears l r q).length (by omega), F25_eq l r q hb h1 hs, hroom, hw]
    all_goals first
      | (have hP : candP l r t u q = true := by clear ih nxt; simp only [candP, *, Bool.true_and, Bool.or_true, Bool.true_or, Bool.not_false, Bool.and_self, Bool.not_true, ge_iff_le] at *
         rw [hP] at nxt
         simpa only [if_true, List.length_append, List.length_cons, List.length_nil] using nxt)
      | (have hP : candP l r t u q = false := by clear ih nxt; simp only [candP, *, Bool.false_and, Bool.or_false, Bool.and_false, Bool.not_true, ge_iff_le] at *
         rw [hP] at nxt
         simpa only [if_false, Bool.false_eq_true, List.append_nil] using nxt)
end Go.R

namespace Go.R

theorem F26_eq (l : List Ctl) (r : List (List Bool)) (t u : Int) (hb : l.length < 1000000) (hs : sqB r l.length = true) (hc : ∀ c ∈ l, -9223372036854775808 ≤ t - c.hd ∧ t - c.hd ≤ 9223372036854775807) :
    RUN CF 26 [dC l, dR r, di t, di u] = some (.d (dI (cands l r t u)), []) := by
  rw [F26_run rfl]
  simp only [go_sem, ↓reduceIte, Nat.reduceEqDiff, Nat.reduceAdd, Nat.reduceBEq, Nat.reduceLeDiff, Nat.reduceSub, Nat.reduceLT, Nat.reduceMul, reduceCtorEq]
  have := fun k => L26_eq l r t u hb hs hc (k := k) l.length 0 0 rfl (by omega)
  simp only [List.range_zero, List.filter_nil, List.length_nil, List.map_nil] at this
  rw [this]
  simp only [go_sem, ↓reduceIte, Nat.reduceEqDiff, Nat.reduceAdd, Nat.reduceBEq, Nat.reduceLeDiff, Nat.reduceSub, Nat.reduceLT, Nat.reduceMul, reduceCtorEq]

theorem L40_eq (l : List Ctl) (r : List (List Bool)) (t u : Int) (hb : l.length < 1000000) (hs : sqB r l.length = true) (hc : ∀ c ∈ l, -9223372036854775808 ≤ t - c.hd ∧ t - c.hd ≤ 9223372036854775807) {k : List Kt} :
    ∀ (m q : Nat) (j : Int), j = q → q + m = l.length →
    go CF (.code L40_0 :: .lp [1, 2, 3, 7, 11, 12, 13] L40_0 3 :: k) (some (.normal, stA [(1, .d (di t)), (2, .d (di u)), (3, .loc 0 1 0 0), (7, .own 2 1 ((List.range q).filter (candP l r t u)).length), (11, .d (dC l)), (12, .d (.int .i64 l.length)), (13, .d (.int .i64 j))] nos
      [(0, .grow true 47 2 [[dC l, dR r]]), (1, .grow true 3 1 []), (2, .grow true 3 1 (((List.range q).filter (candP l r t u)).map i1))] 3)) =
      go CF k (some (.exit 0, stA [(7, .own 2 1 (cands l r t u).length)] nos [(0, .grow true 47 2 [[dC l, dR r]]), (1, .grow true 3 1 []), (2, .grow true 3 1 ((cands l r t u).map i1))] 3)) := by
  intro m
  induction m with
  | zero =>
    rintro q j rfl hq
    have hn : ¬ q < l.length := by omega
    have he : q = l.length := by omega
    rw [L40_0g]
    simp only [go_sem, ↓reduceIte, Nat.reduceEqDiff, Nat.reduceAdd, Nat.reduceBEq, Nat.reduceLeDiff, Nat.reduceSub, Nat.reduceLT, Nat.reduceMul, reduceCtorEq, hn]
    subst he
    rfl
  | succ m ih =>
    rintro q j rfl hq
    have h1 : q < l.length := by omega
    have hl := filt_len (candP l r t u) q
    have hl2 := hears_len l r q
    have hroom : ((((List.range q).filter (candP l r t u)).length + 1) * 8 ≤ 140737488355328) = True := by simp; omega
    have hcq := hc _ (List.mem_of_getElem? (c_at h1))
    have nxt := ih (q + 1) _ (wrap_succ (by omega)) (by omega)
    rw [filt_succ] at nxt
    have hw : IntKind.i64.wrap (t - (cx l q).hd) = t - (cx l q).hd := wrap_in (by omega) (by omega)
    rw [L40_0g]
    simp only [go_sem, ↓reduceIte, Nat.reduceEqDiff, Nat.reduceAdd, Nat.reduceBEq, Nat.reduceLeDiff, Nat.reduceSub, Nat.reduceLT, Nat.reduceMul, reduceCtorEq, h1, c_at h1]
    repeat' (first | refine sk_fork ?_ ?_ | refine cd_fork ?_ ?_) <;> intro h <;> simp only [go_sem, ↓reduceIte, Nat.reduceEqDiff, Nat.reduceAdd, Nat.reduceBEq, Nat.reduceLeDiff, Nat.reduceSub, Nat.reduceLT, Nat.reduceMul, reduceCtorEq, h, F29_eq l r q hb h1 hs, F36_eq l r (hears l r q).length (by omega), F39_eq l r q hb h1 hs, hroom, hw]
    all_goals first
      | (have hP : candP l r t u q = true := by clear ih nxt; simp only [candP, *, Bool.true_and, Bool.or_true, Bool.true_or, Bool.not_false, Bool.and_self, Bool.not_true, ge_iff_le] at *
         rw [hP] at nxt
         simpa only [if_true, List.length_append, List.length_cons, List.length_nil] using nxt)
      | (have hP : candP l r t u q = false := by clear ih nxt; simp only [candP, *, Bool.false_and, Bool.or_false, Bool.and_false, Bool.not_true, ge_iff_le] at *
         rw [hP] at nxt
         simpa only [if_false, Bool.false_eq_true, List.append_nil] using nxt)
theorem F40_eq (l : List Ctl) (r : List (List Bool)) (t u : Int) (hb : l.length < 1000000) (hs : sqB r l.length = true) (hc : ∀ c ∈ l, -9223372036854775808 ≤ t - c.hd ∧ t - c.hd ≤ 9223372036854775807) :
    RUN CF 40 [dP l r, di t, di u] = some (.d (dI (cands l r t u)), []) := by
  rw [F40_run rfl]
  simp only [go_sem, ↓reduceIte, Nat.reduceEqDiff, Nat.reduceAdd, Nat.reduceBEq, Nat.reduceLeDiff, Nat.reduceSub, Nat.reduceLT, Nat.reduceMul, reduceCtorEq]
  have := fun k => L40_eq l r t u hb hs hc (k := k) l.length 0 0 rfl (by omega)
  simp only [List.range_zero, List.filter_nil, List.length_nil, List.map_nil] at this
  rw [this]
  simp only [go_sem, ↓reduceIte, Nat.reduceEqDiff, Nat.reduceAdd, Nat.reduceBEq, Nat.reduceLeDiff, Nat.reduceSub, Nat.reduceLT, Nat.reduceMul, reduceCtorEq]

theorem F13_eq (l : List Ctl) (r : List (List Bool)) (i : Nat) (hb : l.length < 1000000) (hi : i < l.length) (hs : sqB r l.length = true) : RUN CF 13 [dC l, dR r, di i] = some (.d (dI (hears l r i)), []) := by
  rw [F13_run rfl]
  have h0 : decide ((i : Int) < 0) = false := by simp
  have h2 : decide ((i : Int) ≥ (l.length : Int)) = false := by simp; omega
  have hr : r.length ≤ 9223372036854775807 := by
    simp only [sqB, Bool.and_eq_true, beq_iff_eq] at hs
    omega
  simp only [go_sem, ↓reduceIte, Nat.reduceEqDiff, Nat.reduceAdd, Nat.reduceBEq, Nat.reduceLeDiff, Nat.reduceSub, Nat.reduceLT, Nat.reduceMul, reduceCtorEq, h0, h2, F28_eq l r hr, hs, F29_eq l r i hb hi hs]

/-- The first error of a round. -/
def rchk (l : List Ctl) (r : List (List Bool)) (t u : Int) : Int :=
  if chk l t ≠ 0 then chk l t else if sqB r l.length = true then (if t < 0 ∨ 2147483648 < t ∨ u < 0 ∨ 600 < u then 1 else 0) else 8

theorem F16_eq (l : List Ctl) (r : List (List Bool)) (t u : Int) (hb : l.length < 1000000) (hr : r.length ≤ 9223372036854775807) : RUN CF 16 [dC l, dR r, di t, di u] = some (.d (di (rchk l r t u)), []) := by
  rw [F16_run rfl]
  simp only [go_sem, ↓reduceIte, Nat.reduceEqDiff, Nat.reduceAdd, Nat.reduceBEq, Nat.reduceLeDiff, Nat.reduceSub, Nat.reduceLT, Nat.reduceMul, reduceCtorEq, F30_eq l t hb, F28_eq l r hr]
  repeat' (first | refine sk_split ?_ ?_ | refine cd_split ?_ ?_) <;> intro h <;> simp only [go_sem, ↓reduceIte, Nat.reduceEqDiff, Nat.reduceAdd, Nat.reduceBEq, Nat.reduceLeDiff, Nat.reduceSub, Nat.reduceLT, Nat.reduceMul, reduceCtorEq, h, F28_eq l r hr]
  all_goals simp only [bne_iff_ne, ne_eq, bne_eq_false_iff_eq, decide_eq_true_eq, decide_eq_false_iff_not, Bool.not_eq_true', Bool.not_eq_false', gt_iff_lt] at *
  all_goals unfold rchk
  all_goals (repeat' split) <;> first | rfl | (exfalso; omega) | (exfalso; simp_all; done)

theorem F22_eq (l : List Ctl) (r : List (List Bool)) (t u : Int) (hb : l.length < 1000000) (hr : r.length ≤ 9223372036854775807) : RUN CF 22 [dC l, dR r, di t, di u] = some (.d (di (rchk l r t u)), []) := by
  rw [F22_run rfl]
  simp only [go_sem, ↓reduceIte, Nat.reduceEqDiff, Nat.reduceAdd, Nat.reduceBEq, Nat.reduceLeDiff, Nat.reduceSub, Nat.reduceLT, Nat.reduceMul, reduceCtorEq, F45_eq l t hb, F46_eq r l.length hr]
  repeat' (first | refine sk_split ?_ ?_ | refine cd_split ?_ ?_) <;> intro h <;> simp only [go_sem, ↓reduceIte, Nat.reduceEqDiff, Nat.reduceAdd, Nat.reduceBEq, Nat.reduceLeDiff, Nat.reduceSub, Nat.reduceLT, Nat.reduceMul, reduceCtorEq, h, F46_eq r l.length hr]
  all_goals simp only [bne_iff_ne, ne_eq, bne_eq_false_iff_eq, decide_eq_true_eq, decide_eq_false_iff_not, Bool.not_eq_true', Bool.not_eq_false', gt_iff_lt, inB, Bool.and_eq_true, Bool.and_eq_false_imp] at *
  all_goals unfold rchk
  all_goals (repeat' split) <;> first | rfl | (exfalso; omega) | (exfalso; simp_all; done)

theorem F4_no (n : Int) (h : n < 1 ∨ 5 < n) : RUN CF 4 [di n] = some (.tup [.d (dC []), .d (di 2)], []) := by
  rw [F4_run rfl]
  simp only [go_sem, ↓reduceIte, Nat.reduceEqDiff, Nat.reduceAdd, Nat.reduceBEq, Nat.reduceLeDiff, Nat.reduceSub, Nat.reduceLT, Nat.reduceMul, reduceCtorEq]
  repeat' (first | refine sk_split ?_ ?_ | refine cd_split ?_ ?_) <;> intro h <;> simp only [go_sem, ↓reduceIte, Nat.reduceEqDiff, Nat.reduceAdd, Nat.reduceBEq, Nat.reduceLeDiff, Nat.reduceSub, Nat.reduceLT, Nat.reduceMul, reduceCtorEq, h]
  all_goals simp only [decide_eq_true_eq, decide_eq_false_iff_not] at *
  all_goals first | rfl | (exfalso; omega)
theorem F4_ok (n : Nat) (h : 1 ≤ n) (h' : n ≤ 5) : RUN CF 4 [di n] = some (.tup [.d (dC (List.replicate n ⟨0, 0, 0⟩)), .d (di 0)], []) := by
  rw [F4_run rfl]
  have h1 : decide ((n : Int) < 1) = false := by simp; omega
  have h2 : decide ((n : Int) > 5) = false := by simp; omega
  have h3 : ((n : Int) * ((24 : Nat) : Int) ≤ ((140737488355328 : Nat) : Int)) = True := by simp; omega
  have h4 : ((n : Int) ≤ 4611686018427387904) = True := by simp; omega
  simp only [go_sem, ↓reduceIte, Nat.reduceEqDiff, Nat.reduceAdd, Nat.reduceBEq, Nat.reduceLeDiff, Nat.reduceSub, Nat.reduceLT, Nat.reduceMul, reduceCtorEq, h1, h2, h3, h4, Int.natCast_nonneg, Int.toNat_natCast]
  simp only [dC, List.map_replicate, c3]
theorem F14_eq (a b : Int) : RUN CF 14 [di a, di b] = some (if a < 0 ∨ 2147483648 < a ∨ b < 0 ∨ 2147483648 < b then .tup [.d (di 0), .d (di 1)] else if b < a then .tup [.d (di 0), .d (di 69)] else .tup [.d (di b), .d (di 0)], []) := by
  rw [F14_run rfl]
  simp only [go_sem, ↓reduceIte, Nat.reduceEqDiff, Nat.reduceAdd, Nat.reduceBEq, Nat.reduceLeDiff, Nat.reduceSub, Nat.reduceLT, Nat.reduceMul, reduceCtorEq]
  repeat' (first | refine sk_split ?_ ?_ | refine cd_split ?_ ?_) <;> intro h <;> simp only [go_sem, ↓reduceIte, Nat.reduceEqDiff, Nat.reduceAdd, Nat.reduceBEq, Nat.reduceLeDiff, Nat.reduceSub, Nat.reduceLT, Nat.reduceMul, reduceCtorEq, h]
  all_goals simp only [decide_eq_true_eq, decide_eq_false_iff_not] at *
  all_goals (repeat' split) <;> first | rfl | (exfalso; omega)
theorem F5_eq : RUN CF 5 [] = some (.d (db true), []) := by
  rw [F5_run rfl]
  have h : RUN CF 14 [di 1, di 2] = some (.tup [.d (di 2), .d (di 0)], []) := by rw [F14_eq]; rfl
  simp only [go_sem, ↓reduceIte, Nat.reduceEqDiff, Nat.reduceAdd, Nat.reduceBEq, Nat.reduceLeDiff, Nat.reduceSub, Nat.reduceLT, Nat.reduceMul, reduceCtorEq, h]
theorem L8_eq (xs ys : List Ctl) (hl : xs.length = ys.length) (hb : xs.length < 1000000) {k : List Kt} :
    ∀ (r r2 : List Ctl) (i : Nat) (j : Int), j = i → xs.drop i = r → ys.drop i = r2 →
    done false [.tmp 4] (go CF (.code L8_0 :: .lp [0, 1, 12, 13] L8_0 0 :: k) (some (.normal, stA [(0, .d (dC xs)), (1, .d (dC ys)), (12, .d (.int .i64 xs.length)), (13, .d (.int .i64 j))] nos [] 0))) =
      bif decide (r = r2) then done false [.tmp 4] (go CF k (some (.exit 0, stA [] nos [] 0))) else some (.d (db false), []) := by
  intro r
  induction r with
  | nil =>
    rintro r2 i j rfl hi hi2
    have hi := drop_nil hi
    have : r2 = [] := by rw [← hi2]; exact List.drop_eq_nil_of_le (by omega)
    subst this
    rw [L8_0g]
    simp only [go_sem, ↓reduceIte, Nat.reduceEqDiff, Nat.reduceAdd, Nat.reduceBEq, Nat.reduceLeDiff, Nat.reduceSub, Nat.reduceLT, Nat.reduceMul, reduceCtorEq, hi, decide_true]
  | cons x r ih =>
    rintro r2 i j rfl hi hi2
    obtain ⟨h1, h2, h3⟩ := drop_cons hi
    cases r2 with
    | nil =>
      have := drop_nil hi2
      omega
    | cons y r2 =>
      obtain ⟨g1, g2, g3⟩ := drop_cons hi2
      rw [L8_0g]
      simp only [go_sem, ↓reduceIte, Nat.reduceEqDiff, Nat.reduceAdd, Nat.reduceBEq, Nat.reduceLeDiff, Nat.reduceSub, Nat.reduceLT, Nat.reduceMul, reduceCtorEq, h1, h2, g2]
      refine cd_split ?_ ?_ <;> intro h <;> simp only [go_sem, ↓reduceIte, Nat.reduceEqDiff, Nat.reduceAdd, Nat.reduceBEq, Nat.reduceLeDiff, Nat.reduceSub, Nat.reduceLT, Nat.reduceMul, reduceCtorEq, h]
      · have : ¬ (x :: r = y :: r2) := by
          intro he
          simp only [List.cons.injEq] at he
          rw [he.1] at h
          simp at h
        simp only [this, go_sem, ↓reduceIte, Nat.reduceEqDiff, Nat.reduceAdd, Nat.reduceBEq, Nat.reduceLeDiff, Nat.reduceSub, Nat.reduceLT, Nat.reduceMul, reduceCtorEq]
      · rw [ih r2 (i + 1) _ (wrap_succ (by omega)) h3 g3]
        have : x = y := by
          cases x; cases y; simp at h; simp [h]
        subst this
        simp
theorem F8_eq (xs ys : List Ctl) (hb : xs.length < 1000000) : RUN CF 8 [dC xs, dC ys] = some (.d (db (decide (xs = ys))), []) := by
  rw [F8_run rfl]
  simp only [go_sem, ↓reduceIte, Nat.reduceEqDiff, Nat.reduceAdd, Nat.reduceBEq, Nat.reduceLeDiff, Nat.reduceSub, Nat.reduceLT, Nat.reduceMul, reduceCtorEq]
  refine cd_split ?_ ?_ <;> intro h <;> simp only [go_sem, ↓reduceIte, Nat.reduceEqDiff, Nat.reduceAdd, Nat.reduceBEq, Nat.reduceLeDiff, Nat.reduceSub, Nat.reduceLT, Nat.reduceMul, reduceCtorEq, h]
  · have : ¬ xs = ys := by intro he; subst he; simp at h
    simp only [this, go_sem, ↓reduceIte, Nat.reduceEqDiff, Nat.reduceAdd, Nat.reduceBEq, Nat.reduceLeDiff, Nat.reduceSub, Nat.reduceLT, Nat.reduceMul, reduceCtorEq]
  · rw [L8_eq xs ys (by simpa using h) hb xs ys 0 0 rfl rfl rfl]
    cases decide (xs = ys) <;> simp only [go_sem, ↓reduceIte, Nat.reduceEqDiff, Nat.reduceAdd, Nat.reduceBEq, Nat.reduceLeDiff, Nat.reduceSub, Nat.reduceLT, Nat.reduceMul, reduceCtorEq]
end Go.R
