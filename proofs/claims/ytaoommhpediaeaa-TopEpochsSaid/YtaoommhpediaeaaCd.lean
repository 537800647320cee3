/- Contracts of the reference's election and round. -/
import Derived.Test.YtaoommhpediaeaaCc
set_option linter.unusedVariables false
set_option linter.unusedSimpArgs false
set_option linter.defProp false

namespace Go.R

def rcell (k p : Nat) (v : List Nat) : V := if v = [] then .nil 3 1 else .own (cid k p) 1 v.length
def rowsEs (k : Nat) : Nat → List (List Nat) → List (List V)
  | _, [] => []
  | p, v :: r => [rcell k p v] :: rowsEs k (p + 1) r
abbrev rowsOb (k : Nat) (vs : List (List Nat)) : Ob := .row true 29 1 (rowsEs k 0 vs)
def rowOf (v : List Nat) : Option Ob := if v = [] then none else some (.grow true 3 1 (v.map i1))
def rowsS (k : Nat) (vs : List (List Nat)) : Store := fun q => if BB * (k + 1) ≤ q then (vs[q - BB * (k + 1)]?).bind rowOf else none

section
variable {k : Nat}
theorem rowsEs_len : ∀ (vs : List (List Nat)) (n : Nat), (rowsEs k n vs).length = vs.length
  | [], n => rfl
  | v :: r, n => by simp only [rowsEs, List.length_cons, rowsEs_len r]
theorem rowsEs_at : ∀ (vs : List (List Nat)) (p n : Nat), (rowsEs k n vs)[p]? = (vs[p]?).map fun v => [rcell k (n + p) v]
  | [], p, n => by simp [rowsEs]
  | v :: r, 0, n => by simp [rowsEs]
  | v :: r, p + 1, n => by
    simp only [rowsEs, List.getElem?_cons_succ, rowsEs_at r p (n + 1)]
    rw [show n + 1 + p = n + (p + 1) by omega]
theorem rowsEs_set : ∀ (vs : List (List Nat)) (p n : Nat) (v : List Nat), (rowsEs k n vs).set p [rcell k (n + p) v] = rowsEs k n (vs.set p v)
  | [], p, n, v => by simp [rowsEs]
  | w :: r, 0, n, v => by simp [rowsEs]
  | w :: r, p + 1, n, v => by
    simp only [rowsEs, List.set_cons_succ]
    rw [show n + (p + 1) = n + 1 + p by omega, rowsEs_set r p (n + 1) v]
theorem rowsS_at (vs : List (List Nat)) (p : Nat) : rowsS k vs (cid k p) = (vs[p]?).bind rowOf := by
  have h : BB * (k + 1) ≤ cid k p := by unfold cid; omega
  have h2 : cid k p - BB * (k + 1) = p := by unfold cid; omega
  rw [rowsS, if_pos h, h2]
theorem rowsS_low (vs : List (List Nat)) {q : Nat} (h : q < BB * (k + 1)) : rowsS k vs q = none := by
  rw [rowsS, if_neg (by omega)]
end

theorem rowOf_gc (S : Store) (m : Nat) (v : List Nat) : (rowOf v).map (gcOb S m) = rowOf v := by
  unfold rowOf; split <;> rfl
theorem gcB_rowsS {vs : List (List Nat)} (hv : vs.length < BB) {m : Nat} (hm : 4 < m) (S : Store) : gcB S (rowsS 4 vs) m = rowsS 4 vs := by
  funext q
  simp only [gcB]
  by_cases hq : BB * 5 ≤ q
  · obtain ⟨p, rfl⟩ : ∃ p, q = cid 4 p := ⟨q - BB * 5, by unfold cid; omega⟩
    rw [rowsS_at]
    cases h : vs[p]? with
    | none => simp
    | some v =>
      have := (List.getElem?_eq_some_iff.1 h).1
      rw [if_pos (kp_cid hm (by omega))]
      exact rowOf_gc _ _ _
  · rw [rowsS_low vs (by omega)]
    simp
theorem gcOb_rows {vs : List (List Nat)} (hv : vs.length < BB) {m : Nat} (hm : 4 < m) (S : Store) : gcOb S m (rowsOb 4 vs) = rowsOb 4 vs := by
  have hents : ∀ (l : List (List Nat)) (p : Nat), p + l.length ≤ vs.length → (rowsEs 4 p l).map (·.map (gcV S m)) = rowsEs 4 p l := by
    intro l
    induction l with
    | nil => intro p _; rfl
    | cons v l ih =>
      intro p hp
      simp only [List.length_cons] at hp
      simp only [rowsEs, List.map_cons, List.map_nil]
      rw [ih (p + 1) (by omega)]
      unfold rcell
      split
      · rfl
      · simp [gcV, kp_cid hm (show p < BB by omega)]
  simp only [gcOb, hents vs 0 (by omega)]

/-- Behind a round: the row of rows and its rows are as they should. -/
theorem rows_back {vs : List (List Nat)} {b1 b3 : Bool} {X1 X2 X3 : List (List D)} {SS : Store} (al : List (Nat × V)) (hv : vs.length < BB)
    (h0 : SS 0 = some (.grow true 38 3 [])) (h1 : SS 1 = some (.grow b1 38 3 X1)) (h2 : SS 2 = some (.grow true 38 3 X2)) (h3 : SS 3 = some (.grow b3 38 3 X3)) (h4 : SS 4 = some (rowsOb 4 vs))
    (hf : ∀ p, p < BB → SS (cid 4 p) = (vs[p]?).bind rowOf) (hn : ∀ q, BB ≤ q → q / BB - 1 < 4 → SS q = none) :
    stA al (gcB SS SS 5) [] 5 = stA al (rowsS 4 vs) [(0, .grow true 38 3 []), (1, .grow b1 38 3 X1), (2, .grow true 38 3 X2), (3, .grow b3 38 3 X3), (4, rowsOb 4 vs)] 5 := by
  have hBB : BB = 18446744073709551616 := rfl
  unfold stA
  congr 1
  show gcB SS SS 5 = _
  funext q
  simp only [gcB]
  have hlow : q < 5 → kp 5 q = true := fun h => by simp [kp, h]
  have hz : q = 0 ∨ q = 1 ∨ q = 2 ∨ q = 3 ∨ q = 4 ∨ 5 ≤ q := by omega
  rcases hz with rfl | rfl | rfl | rfl | rfl | hq
  · rw [if_pos (hlow (by omega)), h0]; rfl
  · rw [if_pos (hlow (by omega)), h1]; rfl
  · rw [if_pos (hlow (by omega)), h2]; rfl
  · rw [if_pos (hlow (by omega)), h3]; rfl
  · rw [if_pos (hlow (by omega)), h4, Option.map_some, gcOb_rows hv (by omega)]; rfl
  · have hl : lookS (rowsS 4 vs) [(0, .grow true 38 3 []), (1, .grow b1 38 3 X1), (2, .grow true 38 3 X2), (3, .grow b3 38 3 X3), (4, rowsOb 4 vs)] q = rowsS 4 vs q := by
      simp only [lookS]
      rw [if_neg (by omega), if_neg (by omega), if_neg (by omega), if_neg (by omega), if_neg (by omega)]
    rw [hl]
    have hd : q / BB = q / 18446744073709551616 := by rw [hBB]
    by_cases hk : kp 5 q = true
    · rw [if_pos hk]
      have hk' : BB ≤ q ∧ q / BB - 1 < 5 := by
        simp only [kp, Bool.or_eq_true, decide_eq_true_eq, Bool.and_eq_true] at hk
        omega
      by_cases h4' : q / BB - 1 < 4
      · rw [hn q hk'.1 h4', rowsS_low vs (by omega)]
        rfl
      · have hp : q = cid 4 (q - BB * 5) := by unfold cid; omega
        rw [hp, hf _ (by omega), rowsS_at]
        cases vs[q - BB * 5]? with
        | none => rfl
        | some v => exact rowOf_gc _ _ _
    · rw [if_neg hk]
      by_cases hq5 : BB * 5 ≤ q
      · have : q - BB * 5 ≥ vs.length := by
          have : ¬ (BB ≤ q ∧ q / BB - 1 < 5) := fun h => hk (by simp [kp, h.1, h.2])
          omega
        rw [rowsS, if_pos (by omega)]
        rw [List.getElem?_eq_none (by omega)]
        rfl
      · rw [rowsS_low vs (by omega)]

/-- A row that was appended to where it lay. -/
theorem attach_cell_own {S : Store} {k N i E k' p s' N' : Nat} {m : Bool} {es : List (List V)} (hS : S k = some (.row m E 1 es)) (he : es[i]? = some [.own (cid k' p) s' N']) (kk : Nat) (key : V) : attach S (.loc k N i 0) kk key = S := by
  have hg := cid_ge k' p
  simp only [attach, hS]
  split
  · simp only [attRow, Nat.mul_one, Nat.add_zero, Nat.div_one, Nat.mod_one, he, List.getElem?_cons_zero]
    split
    · split
      · rw [if_neg (by omega)]
      · rfl
    · rfl
  · rfl
/-- A new row. -/
theorem attach_cell_new {S : Store} {k N p E q s' N' E' : Nat} {b : Bool} {ds : List (List D)} {es : List (List V)} (hS : S k = some (.row true E 1 es)) (he : es[p]? = some [.own q s' N']) (hq : S q = some (.grow b E' s' ds)) (hN : ds.length = N') (hqB : q < BB) (hqk : q ≠ k) (hk : k < BB) (hp : p < BB) (hn : S (cid k p) = none) (kk : Nat) (key : V) :
    attach S (.loc k N p 0) kk key = upd (upd (upd S q none) (cid k p) (some (.grow b E' s' ds))) k (some (.row true E 1 (es.set p [.own (cid k p) s' N']))) := by
  simp only [attach, hS, Nat.lt_irrefl, Nat.zero_lt_one, if_true, attRow, Nat.mul_one, Nat.add_zero, Nat.div_one, Nat.mod_one, he, List.getElem?_cons_zero, hq, rowEs]
  rw [if_pos ⟨trivial, hqB, hqk, hk, hp, by simpa using hN, trivial, by rw [hn]; rfl⟩]
  rfl
end Go.R

namespace Go.R

def rowAdd (vs : List (List Nat)) (c i : Nat) : List (List Nat) := vs.set c (vs.getD c [] ++ [i])
theorem rowAdd_len (vs : List (List Nat)) (c i : Nat) : (rowAdd vs c i).length = vs.length := by simp [rowAdd]
/-- What controller q adds to the votes. -/
def rowVote (o : List Ctl) (r : List (List Bool)) (cs : List Nat) (vs : List (List Nat)) (q : Nat) : List (List Nat) :=
  match cs.find? (fun c => (hears o r q).contains c) with
  | some c => rowAdd vs c q
  | none => vs

theorem frzB_rows (S : Store) (vs : List (List Nat)) : frzB S [3] (rowsS 4 vs) = rowsS 4 vs := by
  funext q
  have hBB : BB = 18446744073709551616 := rfl
  simp only [frzB, List.mem_singleton]
  split
  · rename_i h; subst h; rw [rowsS_low vs (by omega)]; rfl
  · rfl

theorem L12_6_eq (l o3 : List Ctl) (r : List (List Bool)) (t : Int) (b1 : Bool) (X1 X2 : List (List D)) (cs : List Nat) (vs : List (List Nat)) (q : Nat) (hb : l.length < 1000000) (ho : o3.length = l.length) (hs : sqB r l.length = true) (hq : q < l.length) (hcs : ∀ c ∈ cs, c < l.length) (hcl : cs.length < 1000000) (hvl : vs.length = l.length) (hvv : ∀ v ∈ vs, v.length < 1000000) {k : List Kt} :
    ∀ (rest : List Nat) (x : Nat) (j : Int), j = x → cs.drop x = rest →
    go CF (.code L12_6 :: .lp [0, 1, 2, 22, 24, 25, 26, 172, 173, 180, 181, 182] L12_6 5 :: .blk 12 :: .blk 11 :: .code (AC.kl [0, 1, 2, 22, 24, 25, 172, 173] k12_125) :: .lp [0, 1, 2, 22, 24, 25, 172, 173] L12_5 5 :: k) (some (.normal, stA [(0, .d (dC l)), (1, .d (dR r)), (2, .d (di t)), (22, .own 3 3 l.length), (24, .own 4 1 l.length), (25, .d (dI cs)), (26, .d (.int .i64 q)), (172, .d (.int .i64 l.length)), (173, .d (.int .i64 q)), (180, .d (dI cs)), (181, .d (.int .i64 cs.length)), (182, .d (.int .i64 j))] (rowsS 4 vs)
      [(0, .grow true 38 3 []), (1, .grow b1 38 3 X1), (2, .grow true 38 3 X2), (3, .grow false 38 3 (o3.map c3)), (4, rowsOb 4 vs)] 5)) =
    go CF (.code L12_5 :: .lp [0, 1, 2, 22, 24, 25, 172, 173] L12_5 5 :: k) (some (.normal, stA [(0, .d (dC l)), (1, .d (dR r)), (2, .d (di t)), (22, .own 3 3 l.length), (24, .own 4 1 l.length), (25, .d (dI cs)), (172, .d (.int .i64 l.length)), (173, .d (.int .i64 ((q + 1 : Nat) : Int)))] (rowsS 4 (rowVote o3 r rest vs q))
      [(0, .grow true 38 3 []), (1, .grow b1 38 3 X1), (2, .grow true 38 3 X2), (3, .grow false 38 3 (o3.map c3)), (4, rowsOb 4 (rowVote o3 r rest vs q))] 5)) := by
  have hBB : BB = 18446744073709551616 := rfl
  have hv : vs.length < BB := by omega
  have hg := fun S => gcB_rowsS hv (show 4 < 5 by omega) S
  have hg2 := fun S => gcOb_rows hv (show 4 < 5 by omega) S
  have hw : IntKind.i64.wrap ((q : Int) + 1) = ((q + 1 : Nat) : Int) := wrap_succ (by omega)
  have hh := F23_eq o3 r q (by omega) (by omega) (by rw [ho]; exact hs)
  have hhl := hears_len o3 r q
  have c0 := fun p => cid_ne 4 p 0 (by omega)
  have c1 := fun p => cid_ne 4 p 1 (by omega)
  have c2 := fun p => cid_ne 4 p 2 (by omega)
  have c3' := fun p => cid_ne 4 p 3 (by omega)
  have c4 := fun p => cid_ne 4 p 4 (by omega)
  have c5 := fun p => cid_ne 4 p 5 (by omega)
  have c6 := fun p => cid_ne 4 p 6 (by omega)
  have hcid : ∀ p, 92233720368547758080 ≤ cid 4 p := fun p => by unfold cid; omega
  intro rest
  induction rest with
  | nil =>
    rintro x j rfl hx
    have hx := drop_nil hx
    rw [L12_6g]
    simp only [go_sem, ↓reduceIte, Nat.reduceEqDiff, Nat.reduceAdd, Nat.reduceBEq, Nat.reduceLeDiff, Nat.reduceSub, Nat.reduceLT, Nat.reduceMul, reduceCtorEq, hx, rowVote, List.find?_nil, hg, ↓hg2, hw]
  | cons c rest ih =>
    rintro x j rfl hx
    obtain ⟨h1, h2, h3⟩ := drop_cons hx
    have hc := hcs c (List.mem_of_getElem? h2)
    have h27 := F27_eq (hears o3 r q) c (by omega)
    rw [L12_6g]
    simp only [go_sem, ↓reduceIte, Nat.reduceEqDiff, Nat.reduceAdd, Nat.reduceBEq, Nat.reduceLeDiff, Nat.reduceSub, Nat.reduceLT, Nat.reduceMul, reduceCtorEq, h1, h2, hh, h27, ho, ↓frzB_rows]
    refine cd_fork ?_ ?_ <;> intro h
    · have hrv : rowVote o3 r (c :: rest) vs q = rowAdd vs c q := by simp only [rowVote, List.find?_cons, h]
      rw [hrv]
      have hvc : vs[c]? = some (vs.getD c []) := by simp [List.getD, List.getElem?_eq_getElem (show c < vs.length by omega)]
      have hve : (rowsEs 4 0 vs).length = l.length := by rw [rowsEs_len, hvl]
      have hat : (rowsEs 4 0 vs)[c]? = some [rcell 4 c (vs.getD c [])] := by rw [rowsEs_at, hvc]; simp
      have hvcl := hvv _ (List.mem_of_getElem? hvc)
      generalize hvv' : vs.getD c [] = v at *
      have hrm : ((v.length + 1) * 8 ≤ 140737488355328) = True := by simp; omega
      by_cases hv0 : v = []
      · have hn : rcell 4 c v = .nil 3 1 := by simp [rcell, hv0]
        rw [hn] at hat
        simp only [go_sem, ↓reduceIte, Nat.reduceEqDiff, Nat.reduceAdd, Nat.reduceBEq, Nat.reduceLeDiff, Nat.reduceSub, Nat.reduceLT, Nat.reduceMul, reduceCtorEq, h, hc, hve, hat]
        rw [go_att]
        simp only [ev, look, ↓reduceIte, Nat.reduceEqDiff]
        rw [attach_cell_new (k := 4) (p := c) (q := 6) (s' := 1) (N' := 1) (E' := 3) (b := true) (ds := [[di q]]) rfl (by rw [List.getElem?_set_self (by omega)]) rfl rfl (by omega) (by omega) (by omega) (by omega) (by
          simp only [lookS, c0, c1, c2, c3', c4, c5, c6, if_false, rowsS_at, hvc, Option.bind_some, rowOf, hv0, if_true])]
        generalize hSS : upd _ _ _ = SS
        simp only [go_sem, ↓reduceIte, Nat.reduceEqDiff, Nat.reduceAdd, Nat.reduceBEq, Nat.reduceLeDiff, Nat.reduceSub, Nat.reduceLT, Nat.reduceMul, reduceCtorEq]
        have hset : ((rowsEs 4 0 vs).set c [V.own 6 1 1]).set c [V.own (cid 4 c) 1 1] = rowsEs 4 0 (rowAdd vs c q) := by
          rw [List.set_set, rowAdd, hvv', hv0]
          have := rowsEs_set (k := 4) vs c 0 ([] ++ [q])
          simpa [rcell] using this
        rw [rows_back (SS := SS) (vs := rowAdd vs c q) (b1 := b1) (b3 := false) (X1 := X1) (X2 := X2) (X3 := o3.map Go.R.c3) _ (by rw [rowAdd_len]; omega) (by rw [← hSS]; simp [upd, lookS, cid_ne']) (by rw [← hSS]; simp [upd, lookS, cid_ne']) (by rw [← hSS]; simp [upd, lookS, cid_ne']) (by rw [← hSS]; simp [upd, lookS, cid_ne'])
          (by rw [← hSS]; simp only [upd, if_true]; rw [hset])
          (fun p hp => by
            rw [← hSS]
            simp only [upd, lookS, c0, c1, c2, c3', c4, c5, c6, if_false, rowsS_at, cid_inj, rowAdd, hvv', hv0]
            by_cases hpc : p = c
            · subst hpc
              rw [if_pos rfl, List.getElem?_set_self (by omega)]
              simp [rowOf, i1]
            · rw [if_neg hpc, List.getElem?_set_ne (by omega)])
          (fun p hp hp4 => by
            rw [← hSS]
            have hd : p / BB = p / 18446744073709551616 := by rw [hBB]
            have := hcid c
            simp only [upd, lookS]
            rw [if_neg (by omega), if_neg (by omega), if_neg (by omega), if_neg (by omega), if_neg (by omega), if_neg (by omega), if_neg (by omega), if_neg (by omega), if_neg (by omega), if_neg (by omega)]
            exact rowsS_low vs (by omega)), hw]
      · have hn : rcell 4 c v = .own (cid 4 c) 1 v.length := by simp [rcell, hv0]
        have hro : rowsS 4 vs (cid 4 c) = some (.grow true 3 1 (v.map i1)) := by rw [rowsS_at, hvc]; simp [rowOf, hv0]
        rw [hn] at hat
        simp only [go_sem, ↓reduceIte, Nat.reduceEqDiff, Nat.reduceAdd, Nat.reduceBEq, Nat.reduceLeDiff, Nat.reduceSub, Nat.reduceLT, Nat.reduceMul, reduceCtorEq, h, hc, hve, hat, hro, hrm]
        rw [go_att]
        simp only [ev, look, ↓reduceIte, Nat.reduceEqDiff]
        rw [attach_cell_own (k := 4) (k' := 4) (p := c) (s' := 1) (N' := v.length + 1) rfl (by rw [List.getElem?_set_self (by omega)])]
        generalize hSS : lookS (rowsS 4 vs) _ = SS
        simp only [go_sem, ↓reduceIte, Nat.reduceEqDiff, Nat.reduceAdd, Nat.reduceBEq, Nat.reduceLeDiff, Nat.reduceSub, Nat.reduceLT, Nat.reduceMul, reduceCtorEq]
        have hset : (rowsEs 4 0 vs).set c [V.own (cid 4 c) 1 (v.length + 1)] = rowsEs 4 0 (rowAdd vs c q) := by
          rw [rowAdd, hvv']
          have := rowsEs_set (k := 4) vs c 0 (v ++ [q])
          simpa [rcell] using this
        rw [rows_back (SS := SS) (vs := rowAdd vs c q) (b1 := b1) (b3 := false) (X1 := X1) (X2 := X2) (X3 := o3.map Go.R.c3) _ (by rw [rowAdd_len]; omega) (by rw [← hSS]; rfl) (by rw [← hSS]; rfl) (by rw [← hSS]; rfl) (by rw [← hSS]; rfl)
          (by rw [← hSS, ← show Ob.row true 29 1 ((rowsEs 4 0 vs).set c [V.own (cid 4 c) 1 (v.length + 1)]) = rowsOb 4 (rowAdd vs c q) by rw [hset]]; rfl)
          (fun p hp => by
            rw [← hSS]
            simp only [lookS, c0, c1, c2, c3', c4, c5, if_false, rowsS_at, cid_inj, rowAdd, hvv']
            by_cases hpc : p = c
            · subst hpc
              rw [if_pos rfl, List.getElem?_set_self (by omega)]
              simp [rowOf]
            · rw [if_neg hpc, List.getElem?_set_ne (by omega)])
          (fun p hp hp4 => by
            rw [← hSS]
            have hd : p / BB = p / 18446744073709551616 := by rw [hBB]
            have := hcid c
            simp only [lookS]
            rw [if_neg (by omega), if_neg (by omega), if_neg (by omega), if_neg (by omega), if_neg (by omega), if_neg (by omega), if_neg (by omega)]
            exact rowsS_low vs (by omega)), hw]
    · have hrv : rowVote o3 r (c :: rest) vs q = rowVote o3 r rest vs q := by simp only [rowVote, List.find?_cons, h]
      rw [hrv]
      simp only [go_sem, ↓reduceIte, Nat.reduceEqDiff, Nat.reduceAdd, Nat.reduceBEq, Nat.reduceLeDiff, Nat.reduceSub, Nat.reduceLT, Nat.reduceMul, reduceCtorEq, h, hg, ↓hg2]
      exact ih (x + 1) _ (wrap_succ (by omega)) h3
def vrw (o : List Ctl) (r : List (List Bool)) (cs : List Nat) (n q : Nat) : List (List Nat) := (List.range q).foldl (fun vs i => if leads o r i = true then vs else rowVote o r cs vs i) (List.replicate n [])
theorem vrw_succ (o : List Ctl) (r : List (List Bool)) (cs : List Nat) (n q : Nat) : vrw o r cs n (q + 1) = if leads o r q = true then vrw o r cs n q else rowVote o r cs (vrw o r cs n q) q := by
  simp [vrw, List.range_succ]
theorem rowVote_len (o : List Ctl) (r : List (List Bool)) (cs : List Nat) (vs : List (List Nat)) (q : Nat) : (rowVote o r cs vs q).length = vs.length := by
  unfold rowVote; split <;> simp [rowAdd_len]
theorem rowAdd_bd (vs : List (List Nat)) (c i n : Nat) (h : ∀ v ∈ vs, v.length ≤ n) : ∀ v ∈ rowAdd vs c i, v.length ≤ n + 1 := by
  intro v hv
  unfold rowAdd at hv
  rcases List.mem_or_eq_of_mem_set hv with hv | rfl
  · have := h v hv; omega
  · simp only [List.length_append, List.length_cons, List.length_nil]
    cases hc : vs[c]? with
    | none => simp [List.getD, hc]
    | some w =>
      have := h w (List.mem_of_getElem? hc)
      simp [List.getD, hc]
      omega
theorem vrw_len (o : List Ctl) (r : List (List Bool)) (cs : List Nat) (n : Nat) : ∀ q, (vrw o r cs n q).length = n ∧ ∀ v ∈ vrw o r cs n q, v.length ≤ q
  | 0 => by simp [vrw]
  | q + 1 => by
    have ih := vrw_len o r cs n q
    rw [vrw_succ]
    split
    · exact ⟨ih.1, fun v hv => by have := ih.2 v hv; omega⟩
    · refine ⟨by rw [rowVote_len]; exact ih.1, ?_⟩
      unfold rowVote
      split
      · exact rowAdd_bd _ _ _ _ ih.2
      · exact fun v hv => by have := ih.2 v hv; omega

theorem L12_5_eq (l o3 : List Ctl) (r : List (List Bool)) (t : Int) (b1 : Bool) (X1 X2 : List (List D)) (cs : List Nat) (hb : l.length < 900000) (ho : o3.length = l.length) (hs : sqB r l.length = true) (hcs : ∀ c ∈ cs, c < l.length) (hcl : cs.length < 1000000) {k : List Kt} :
    ∀ (m q : Nat) (j : Int), j = q → q + m = l.length →
    go CF (.code L12_5 :: .lp [0, 1, 2, 22, 24, 25, 172, 173] L12_5 5 :: k) (some (.normal, stA [(0, .d (dC l)), (1, .d (dR r)), (2, .d (di t)), (22, .own 3 3 l.length), (24, .own 4 1 l.length), (25, .d (dI cs)), (172, .d (.int .i64 l.length)), (173, .d (.int .i64 j))] (rowsS 4 (vrw o3 r cs l.length q))
      [(0, .grow true 38 3 []), (1, .grow b1 38 3 X1), (2, .grow true 38 3 X2), (3, .grow false 38 3 (o3.map c3)), (4, rowsOb 4 (vrw o3 r cs l.length q))] 5)) =
    go CF k (some (.exit 10, stA [(0, .d (dC l)), (2, .d (di t)), (22, .own 3 3 l.length), (24, .own 4 1 l.length)] (rowsS 4 (vrw o3 r cs l.length l.length))
      [(0, .grow true 38 3 []), (1, .grow b1 38 3 X1), (2, .grow true 38 3 X2), (3, .grow false 38 3 (o3.map c3)), (4, rowsOb 4 (vrw o3 r cs l.length l.length))] 5)) := by
  intro m
  induction m with
  | zero =>
    rintro q j rfl hq
    have hn : ¬ q < l.length := by omega
    have he : q = l.length := by omega
    rw [L12_5g]
    simp only [go_sem, ↓reduceIte, Nat.reduceEqDiff, Nat.reduceAdd, Nat.reduceBEq, Nat.reduceLeDiff, Nat.reduceSub, Nat.reduceLT, Nat.reduceMul, reduceCtorEq, hn]
    rw [he]
  | succ m ih =>
    rintro q j rfl hq
    have h1 : q < l.length := by omega
    have hw : IntKind.i64.wrap ((q : Int) + 1) = ((q + 1 : Nat) : Int) := wrap_succ (by omega)
    have nxt := ih (q + 1) _ rfl (by omega)
    have hvl := vrw_len o3 r cs l.length q
    have hBB : BB = 18446744073709551616 := rfl
    have hg := fun S => gcB_rowsS (vs := vrw o3 r cs l.length q) (by omega) (show 4 < 5 by omega) S
    have hg2 := fun S => gcOb_rows (vs := vrw o3 r cs l.length q) (by omega) (show 4 < 5 by omega) S
    rw [vrw_succ] at nxt
    rw [L12_5g]
    simp only [go_sem, ↓reduceIte, Nat.reduceEqDiff, Nat.reduceAdd, Nat.reduceBEq, Nat.reduceLeDiff, Nat.reduceSub, Nat.reduceLT, Nat.reduceMul, reduceCtorEq, h1, ho, F25_eq o3 r q (by omega) (by omega) (by rw [ho]; exact hs)]
    refine cd_fork ?_ ?_ <;> intro h
    · rw [h, if_pos rfl] at nxt
      simp only [go_sem, ↓reduceIte, Nat.reduceEqDiff, Nat.reduceAdd, Nat.reduceBEq, Nat.reduceLeDiff, Nat.reduceSub, Nat.reduceLT, Nat.reduceMul, reduceCtorEq, h, hg, ↓hg2, hw]
      exact nxt
    · rw [h, if_neg (by simp)] at nxt
      simp only [go_sem, ↓reduceIte, Nat.reduceEqDiff, Nat.reduceAdd, Nat.reduceBEq, Nat.reduceLeDiff, Nat.reduceSub, Nat.reduceLT, Nat.reduceMul, reduceCtorEq, h]
      rw [L12_6_eq l o3 r t b1 X1 X2 cs (vrw o3 r cs l.length q) q (by omega) ho hs h1 hcs hcl hvl.1 (fun v hv => by have := hvl.2 v hv; omega) cs 0 0 rfl rfl]
      exact nxt
end Go.R

namespace Go.R

section
variable {l o3 : List Ctl} {t : Int} {b1 : Bool} {X1 X2 : List (List D)} {vs : List (List Nat)} {c : Nat} {v : List Nat}

theorem L12_8_eq (l o3 : List Ctl) (t : Int) (b1 : Bool) (X1 X2 X5 : List (List D)) (vs : List (List Nat)) (c : Nat) (v : List Nat) (ho : o3.length = l.length) (hvs : vs.length < 1000000) (hvc : vs[c]? = some v) (hv0 : v ≠ []) (hvi : ∀ i ∈ v, i < l.length) (hvl : v.length < 1000000) {k : List Kt} :
    ∀ (rest : List Nat) (x : Nat) (j a : Int), j = x → v.drop x = rest →
    go CF (.code L12_8 :: .lp [0, 2, 22, 29, 30, 31, 32, 206, 207, 208, 218, 219, 220] L12_8 6 :: k) (some (.normal, stA [(0, .d (dC l)), (2, .d (di t)), (22, .own 3 3 l.length), (29, .own 5 3 l.length), (30, .d (.int .i64 c)), (31, .own (cid 4 c) 1 v.length), (32, .d (.int .i64 a)), (206, .own 4 1 l.length), (207, .d (.int .i64 l.length)), (208, .d (.int .i64 c)), (218, .own (cid 4 c) 1 v.length), (219, .d (.int .i64 v.length)), (220, .d (.int .i64 j))] (rowsS 4 vs)
      [(0, .grow true 38 3 []), (1, .grow b1 38 3 X1), (2, .grow true 38 3 X2), (3, .grow false 38 3 (o3.map c3)), (4, rowsOb 4 vs), (5, .grow true 38 3 X5)] 6)) =
    go CF k (some (.exit 16, stA [(0, .d (dC l)), (2, .d (di t)), (22, .own 3 3 l.length), (29, .own 5 3 l.length), (30, .d (.int .i64 c)), (31, .own (cid 4 c) 1 v.length), (32, .d (.int .i64 (rest.foldl (fun m k => max m (cx o3 k).ep) a))), (206, .own 4 1 l.length), (207, .d (.int .i64 l.length)), (208, .d (.int .i64 c))] (rowsS 4 vs)
      [(0, .grow true 38 3 []), (1, .grow b1 38 3 X1), (2, .grow true 38 3 X2), (3, .grow false 38 3 (o3.map c3)), (4, rowsOb 4 vs), (5, .grow true 38 3 X5)] 6)) := by
  have hBB : BB = 18446744073709551616 := rfl
  have hg := fun S => gcB_rowsS (vs := vs) (by omega) (show 4 < 6 by omega) S
  have hg2 := fun S => gcOb_rows (vs := vs) (by omega) (show 4 < 6 by omega) S
  have hkp : kp 6 (cid 4 c) = true := kp_cid (by omega) (by have := (List.getElem?_eq_some_iff.1 hvc).1; omega)
  have hro : rowsS 4 vs (cid 4 c) = some (.grow true 3 1 (v.map i1)) := by rw [rowsS_at, hvc]; simp [rowOf, hv0]
  intro rest
  induction rest with
  | nil =>
    rintro x j a rfl hx
    have hx := drop_nil hx
    rw [L12_8g]
    simp only [go_sem, ↓reduceIte, Nat.reduceEqDiff, Nat.reduceAdd, Nat.reduceBEq, Nat.reduceLeDiff, Nat.reduceSub, Nat.reduceLT, Nat.reduceMul, reduceCtorEq, hx, List.foldl_nil]
  | cons y rest ih =>
    rintro x j a rfl hx
    obtain ⟨h1, h2, h3⟩ := drop_cons hx
    have hy := hvi y (List.mem_of_getElem? h2)
    have hyo : o3[y]? = some (cx o3 y) := c_at (by omega)
    rw [L12_8g]
    simp only [go_sem, ↓reduceIte, Nat.reduceEqDiff, Nat.reduceAdd, Nat.reduceBEq, Nat.reduceLeDiff, Nat.reduceSub, Nat.reduceLT, Nat.reduceMul, reduceCtorEq, h1, h2, hro, hy, hyo, ho, hg, ↓hg2, ↓hkp, List.foldl_cons]
    exact ih (x + 1) _ _ (wrap_succ (by omega)) h3

theorem L12_9_eq (l o3 : List Ctl) (t e : Int) (b1 : Bool) (X1 X2 : List (List D)) (vs : List (List Nat)) (c : Nat) (v : List Nat) (ho : o3.length = l.length) (hvs : vs.length < 1000000) (hvc : vs[c]? = some v) (hv0 : v ≠ []) (hvi : ∀ i ∈ v, i < l.length) (hvl : v.length < 1000000) (he : 0 ≤ e) (he2 : e ≤ 2147483648) {k : List Kt} :
    ∀ (rest : List Nat) (x : Nat) (j : Int) (out : List Ctl), j = x → v.drop x = rest → out.length = l.length →
    go CF (.code L12_9 :: .lp [0, 2, 22, 29, 30, 32, 206, 207, 208, 234, 235, 236] L12_9 6 :: k) (some (.normal, stA [(0, .d (dC l)), (2, .d (di t)), (22, .own 3 3 l.length), (29, .own 5 3 l.length), (30, .d (.int .i64 c)), (32, .d (.int .i64 e)), (206, .own 4 1 l.length), (207, .d (.int .i64 l.length)), (208, .d (.int .i64 c)), (234, .own (cid 4 c) 1 v.length), (235, .d (.int .i64 v.length)), (236, .d (.int .i64 j))] (rowsS 4 vs)
      [(0, .grow true 38 3 []), (1, .grow b1 38 3 X1), (2, .grow true 38 3 X2), (3, .grow false 38 3 (o3.map c3)), (4, rowsOb 4 vs), (5, .grow true 38 3 (out.map c3))] 6)) =
    go CF k (some (.exit 18, stA [(0, .d (dC l)), (2, .d (di t)), (22, .own 3 3 l.length), (29, .own 5 3 l.length), (30, .d (.int .i64 c)), (32, .d (.int .i64 e)), (206, .own 4 1 l.length), (207, .d (.int .i64 l.length)), (208, .d (.int .i64 c))] (rowsS 4 vs)
      [(0, .grow true 38 3 []), (1, .grow b1 38 3 X1), (2, .grow true 38 3 X2), (3, .grow false 38 3 (o3.map c3)), (4, rowsOb 4 vs), (5, .grow true 38 3 ((rest.foldl (setEp (e + 1)) out).map c3))] 6)) := by
  have hBB : BB = 18446744073709551616 := rfl
  have hg := fun S => gcB_rowsS (vs := vs) (by omega) (show 4 < 6 by omega) S
  have hg2 := fun S => gcOb_rows (vs := vs) (by omega) (show 4 < 6 by omega) S
  have hkp : kp 6 (cid 4 c) = true := kp_cid (by omega) (by have := (List.getElem?_eq_some_iff.1 hvc).1; omega)
  have hro : rowsS 4 vs (cid 4 c) = some (.grow true 3 1 (v.map i1)) := by rw [rowsS_at, hvc]; simp [rowOf, hv0]
  have hwe : IntKind.i64.wrap (e + 1) = e + 1 := wrap_in (by omega) (by omega)
  intro rest
  induction rest with
  | nil =>
    rintro x j out rfl hx ho2
    have hx := drop_nil hx
    rw [L12_9g]
    simp only [go_sem, ↓reduceIte, Nat.reduceEqDiff, Nat.reduceAdd, Nat.reduceBEq, Nat.reduceLeDiff, Nat.reduceSub, Nat.reduceLT, Nat.reduceMul, reduceCtorEq, hx, List.foldl_nil]
  | cons y rest ih =>
    rintro x j out rfl hx ho2
    obtain ⟨h1, h2, h3⟩ := drop_cons hx
    have hy := hvi y (List.mem_of_getElem? h2)
    have hyo : out[y]? = some (cx out y) := c_at (by omega)
    have nxt := ih (x + 1) _ (setEp (e + 1) out y) (wrap_succ (by omega)) h3 (by simp [setEp, ho2])
    rw [L12_9g]
    simp only [go_sem, ↓reduceIte, Nat.reduceEqDiff, Nat.reduceAdd, Nat.reduceBEq, Nat.reduceLeDiff, Nat.reduceSub, Nat.reduceLT, Nat.reduceMul, reduceCtorEq, h1, h2, hro, hy, hyo, ho2, hg, ↓hg2, ↓hkp, List.foldl_cons, hwe]
    exact nxt
end

def elecR (l o : List Ctl) (t : Int) : Nat → List (List Nat) → List Ctl → Option (List Ctl)
  | _, [], out => some out
  | c, v :: vs, out => bif maj l v.length then (bif grt o v == 2147483648 then none else elecR l o t (c + 1) vs ((v.foldl (setEp (grt o v + 1)) out).set c ⟨1, grt o v + 1, t⟩)) else elecR l o t (c + 1) vs out

theorem L12_7_eq (l o3 : List Ctl) (t : Int) (b1 : Bool) (X1 X2 : List (List D)) (vs : List (List Nat)) (hl1 : 1 ≤ l.length) (hb : l.length < 900000) (ho : o3.length = l.length) (hvs : vs.length = l.length) (hvi : ∀ v ∈ vs, v.length < 900000 ∧ ∀ i ∈ v, i < l.length) (hep : ∀ i, i < l.length → (cx o3 i).ep ≤ 2147483648) {k : List Kt} :
    ∀ (rest : List (List Nat)) (c : Nat) (j : Int) (out : List Ctl), j = c → vs.drop c = rest → out.length = l.length →
    done false [.tmp 8, .tmp 9] (go CF (.code L12_7 :: .lp [0, 2, 22, 29, 206, 207, 208] L12_7 6 :: k) (some (.normal, stA [(0, .d (dC l)), (2, .d (di t)), (22, .own 3 3 l.length), (29, .own 5 3 l.length), (206, .own 4 1 l.length), (207, .d (.int .i64 l.length)), (208, .d (.int .i64 j))] (rowsS 4 vs)
      [(0, .grow true 38 3 []), (1, .grow b1 38 3 X1), (2, .grow true 38 3 X2), (3, .grow false 38 3 (o3.map c3)), (4, rowsOb 4 vs), (5, .grow true 38 3 (out.map c3))] 6))) =
    match elecR l o3 t c rest out with
    | some out' => done false [.tmp 8, .tmp 9] (go CF k (some (.exit 14, stA [(29, .own 5 3 l.length)] (rowsS 4 vs)
      [(0, .grow true 38 3 []), (1, .grow b1 38 3 X1), (2, .grow true 38 3 X2), (3, .grow false 38 3 (o3.map c3)), (4, rowsOb 4 vs), (5, .grow true 38 3 (out'.map c3))] 6)))
    | none => some (.tup [.d (dC []), .d (di 2)], []) := by
  have hBB : BB = 18446744073709551616 := rfl
  have hg := fun S => gcB_rowsS (vs := vs) (by omega) (show 4 < 6 by omega) S
  have hg2 := fun S => gcOb_rows (vs := vs) (by omega) (show 4 < 6 by omega) S
  have hve : (rowsEs 4 0 vs).length = l.length := by rw [rowsEs_len, hvs]
  intro rest
  induction rest with
  | nil =>
    rintro c j out rfl hx ho2
    have hx := drop_nil hx
    rw [hvs] at hx
    rw [L12_7g]
    simp only [go_sem, ↓reduceIte, Nat.reduceEqDiff, Nat.reduceAdd, Nat.reduceBEq, Nat.reduceLeDiff, Nat.reduceSub, Nat.reduceLT, Nat.reduceMul, reduceCtorEq, hx, elecR]
  | cons v rest ih =>
    rintro c j out rfl hx ho2
    obtain ⟨h1, h2, h3⟩ := drop_cons hx
    rw [hvs] at h1
    have hv := hvi v (List.mem_of_getElem? h2)
    have hat : (rowsEs 4 0 vs)[c]? = some [rcell 4 c v] := by rw [rowsEs_at, h2]; simp
    by_cases hv0 : v = []
    · have hn : rcell 4 c v = .nil 3 1 := by simp [rcell, hv0]
      rw [hn] at hat
      have hm : maj l 0 = false := by simp [maj]
      have h24 : RUN CF 24 [dC l, di 0] = some (.d (db false), []) := by
        have := F24_eq l 0 (by omega)
        rw [hm] at this
        exact this
      have he : elecR l o3 t c (v :: rest) out = elecR l o3 t (c + 1) rest out := by simp [elecR, hv0, hm]
      rw [he, L12_7g]
      simp only [go_sem, ↓reduceIte, Nat.reduceEqDiff, Nat.reduceAdd, Nat.reduceBEq, Nat.reduceLeDiff, Nat.reduceSub, Nat.reduceLT, Nat.reduceMul, reduceCtorEq, h1, hve, hat, h24, hm, hg, ↓hg2]
      exact ih (c + 1) _ out (wrap_succ (by omega)) h3 ho2
    · have hn : rcell 4 c v = .own (cid 4 c) 1 v.length := by simp [rcell, hv0]
      rw [hn] at hat
      rw [L12_7g]
      simp only [go_sem, ↓reduceIte, Nat.reduceEqDiff, Nat.reduceAdd, Nat.reduceBEq, Nat.reduceLeDiff, Nat.reduceSub, Nat.reduceLT, Nat.reduceMul, reduceCtorEq, h1, hve, hat, F24_eq l v.length (by omega), elecR]
      refine cd_split ?_ ?_ <;> intro h
      · have hm : maj l v.length = false := by simpa using h
        simp only [go_sem, ↓reduceIte, Nat.reduceEqDiff, Nat.reduceAdd, Nat.reduceBEq, Nat.reduceLeDiff, Nat.reduceSub, Nat.reduceLT, Nat.reduceMul, reduceCtorEq, h, hm, hg, ↓hg2]
        exact ih (c + 1) _ out (wrap_succ (by omega)) h3 ho2
      · have hm : maj l v.length = true := by simpa using h
        have i8 := fun k X5 => L12_8_eq l o3 t b1 X1 X2 X5 vs c v ho (by omega) h2 hv0 hv.2 (by omega) (k := k) v 0 0 0 rfl rfl
        have hgr := grt_bd o3 2147483648 (by omega) (fun i hi => hep i (by omega)) v (fun x hx => by have := hv.2 x hx; omega)
        simp only [go_sem, ↓reduceIte, Nat.reduceEqDiff, Nat.reduceAdd, Nat.reduceBEq, Nat.reduceLeDiff, Nat.reduceSub, Nat.reduceLT, Nat.reduceMul, reduceCtorEq, h, hm]
        rw [i8]
        simp only [go_sem, ↓reduceIte, Nat.reduceEqDiff, Nat.reduceAdd, Nat.reduceBEq, Nat.reduceLeDiff, Nat.reduceSub, Nat.reduceLT, Nat.reduceMul, reduceCtorEq]
        rw [← grt]
        refine cd_split ?_ ?_ <;> intro hd <;> simp only [go_sem, ↓reduceIte, Nat.reduceEqDiff, Nat.reduceAdd, Nat.reduceBEq, Nat.reduceLeDiff, Nat.reduceSub, Nat.reduceLT, Nat.reduceMul, reduceCtorEq, hd]
        · rfl
        · have i9 := fun k => L12_9_eq l o3 t (grt o3 v) b1 X1 X2 vs c v ho (by omega) h2 hv0 hv.2 (by omega) hgr.1 hgr.2 (k := k) v 0 0 out rfl rfl ho2
          rw [i9]
          have hol := setEp_len (grt o3 v + 1) v out
          have hwe : IntKind.i64.wrap (grt o3 v + 1) = grt o3 v + 1 := wrap_in (by omega) (by omega)
          have nxt := ih (c + 1) _ ((v.foldl (setEp (grt o3 v + 1)) out).set c ⟨1, grt o3 v + 1, t⟩) (wrap_succ (by omega)) h3 (by rw [List.length_set]; omega)
          generalize hO : v.foldl (setEp (grt o3 v + 1)) out = O at *
          have hoc : O[c]? = some (cx O c) := c_at (by omega)
          simp only [go_sem, ↓reduceIte, Nat.reduceEqDiff, Nat.reduceAdd, Nat.reduceBEq, Nat.reduceLeDiff, Nat.reduceSub, Nat.reduceLT, Nat.reduceMul, reduceCtorEq, hwe, h1, hoc, hol, ho2, hg, ↓hg2]
          exact nxt
end Go.R

namespace Go.R

def tickR (l : List Ctl) (r : List (List Bool)) (t u : Int) : List Ctl × Int :=
  if rchk l r t u ≠ 0 then ([], rchk l r t u) else match elecR l (three l r t) t 0 (vrw (three l r t) r (cands (three l r t) r t u) l.length l.length) (three l r t) with
    | some out => (out, 0)
    | none => ([], 2)

theorem rowAdd_mem {vs : List (List Nat)} {c i n : Nat} (hi : i < n) (h : ∀ v ∈ vs, ∀ x ∈ v, x < n) : ∀ v ∈ rowAdd vs c i, ∀ x ∈ v, x < n := by
  intro v hv x hx
  unfold rowAdd at hv
  rcases List.mem_or_eq_of_mem_set hv with hv | rfl
  · exact h v hv x hx
  · simp only [List.mem_append, List.mem_singleton] at hx
    rcases hx with hx | rfl
    · cases hc : vs[c]? with
      | none => simp [List.getD, hc] at hx
      | some w =>
        simp [List.getD, hc] at hx
        exact h w (List.mem_of_getElem? hc) x hx
    · exact hi
theorem vrw_mem (o : List Ctl) (r : List (List Bool)) (cs : List Nat) (n : Nat) : ∀ q, q ≤ n → ∀ v ∈ vrw o r cs n q, ∀ x ∈ v, x < n
  | 0, _ => by simp [vrw]
  | q + 1, hq => by
    have ih := vrw_mem o r cs n q (by omega)
    rw [vrw_succ]
    split
    · exact ih
    · unfold rowVote
      split
      · exact rowAdd_mem (by omega) ih
      · exact ih

theorem elecR_len (l o : List Ctl) (t : Int) : ∀ (vs : List (List Nat)) (c : Nat) (out o' : List Ctl), elecR l o t c vs out = some o' → o'.length = out.length
  | [], c, out, o', h => by simp only [elecR, Option.some.injEq] at h; rw [h]
  | v :: vs, c, out, o', h => by
    simp only [elecR] at h
    cases hm : maj l v.length <;> rw [hm] at h
    · exact elecR_len l o t vs (c + 1) out o' h
    · simp only [cond_true] at h
      cases hd : (grt o v == 2147483648) <;> rw [hd] at h
      · have := elecR_len l o t vs (c + 1) _ o' h
        simpa [setEp_len, setEp] using this
      · cases h
theorem rowsEs_nil (n k : Nat) : ∀ p, rowsEs k p (List.replicate n []) = List.replicate n [V.nil 3 1] := by
  induction n with
  | zero => intro p; rfl
  | succ n ih => intro p; simp only [List.replicate_succ, rowsEs, ih]; rfl
theorem rowsS_nil (n k : Nat) : rowsS k (List.replicate n []) = nos := by
  funext q
  simp only [rowsS, nos]
  split
  · rw [List.getElem?_replicate]
    split <;> rfl
  · rfl

theorem F12_eq (l : List Ctl) (r : List (List Bool)) (t u : Int) (hb : l.length < 500000) (hr : r.length ≤ 9223372036854775807) : RUN CF 12 [dC l, dR r, di t, di u] = some (.tup [.d (dC (tickR l r t u).1), .d (di (tickR l r t u).2)], []) := by
  rw [F12_run rfl]
  simp only [go_sem, ↓reduceIte, Nat.reduceEqDiff, Nat.reduceAdd, Nat.reduceBEq, Nat.reduceLeDiff, Nat.reduceSub, Nat.reduceLT, Nat.reduceMul, reduceCtorEq, F22_eq l r t u (by omega) hr]
  refine cd_split ?_ ?_ <;> intro h
  · have h' : rchk l r t u ≠ 0 := by simpa using h
    simp only [go_sem, ↓reduceIte, Nat.reduceEqDiff, Nat.reduceAdd, Nat.reduceBEq, Nat.reduceLeDiff, Nat.reduceSub, Nat.reduceLT, Nat.reduceMul, reduceCtorEq, h]
    rw [tickR, if_pos h']
    rfl
  · have h0 : rchk l r t u = 0 := by simpa using h
    have ok := okay_of h0
    have l5 := ok.len5
    have l1 := ok.len1
    have e1 := one_len l r
    have e2 := two_len l r
    have e3 := three_len l r t
    have hn : (l.length * 24 ≤ 140737488355328) = True := by simp; omega
    have n3 : ((l.length : Int) * ((24 : Nat) : Int) ≤ ((140737488355328 : Nat) : Int)) = True := by simp; omega
    have n4 : ((l.length : Int) ≤ 4611686018427387904) = True := by simp; omega
    have g0 := fun k => L12_0_eq l r t u (by omega) ok.sq (fun k hk => (ok.ep k hk).1) (k := k) l.length 0 0 rfl (by omega)
    have g2 := fun k b => L12_2_eq l (one l r) r t u (by omega) e1 ok.sq (k := k) l.length 0 0 b rfl (by omega)
    have g4 := fun k b1 X => L12_4_eq l (two l r) r t u b1 X (by omega) e2 ok.sq (k := k) l.length 0 0 rfl (by omega)
    have hcl : (cands (three l r t) r t u).length ≤ (three l r t).length := filt_len _ _
    have g5 := fun k b1 X1 X2 => L12_5_eq l (three l r t) r t b1 X1 X2 (cands (three l r t) r t u) (by omega) e3 ok.sq (fun c hc => by have := cands_lt hc; omega) (by omega) (k := k) l.length 0 0 rfl (by omega)
    have hvl := vrw_len (three l r t) r (cands (three l r t) r t u) l.length l.length
    have g7 := fun k b1 X1 X2 => L12_7_eq l (three l r t) t b1 X1 X2 (vrw (three l r t) r (cands (three l r t) r t u) l.length l.length) l1 (by omega) e3 hvl.1
      (fun v hv => ⟨by have := hvl.2 v hv; omega, vrw_mem _ _ _ _ _ (Nat.le_refl _) v hv⟩) (fun i hi => by rw [three_ep hi]; exact (one_ep ok hi).2) (k := k) _ 0 0 (three l r t) rfl rfl e3
    have hc26 := F26_eq (three l r t) r t u (by omega) (by rw [e3]; exact ok.sq) (fun c hc => by
      obtain ⟨i, hi, rfl⟩ := mem_cx hc
      have := three_hd ok (show i < l.length by omega)
      have := ok.t1
      omega)
    rw [pm_zero] at g0 g2 g4
    rw [← three] at g4
    rw [tickR, if_neg (by simpa using h0)]
    simp only [go_sem, ↓reduceIte, Nat.reduceEqDiff, Nat.reduceAdd, Nat.reduceBEq, Nat.reduceLeDiff, Nat.reduceSub, Nat.reduceLT, Nat.reduceMul, reduceCtorEq, h, hn]
    rw [g0]
    simp only [go_sem, ↓reduceIte, Nat.reduceEqDiff, Nat.reduceAdd, Nat.reduceBEq, Nat.reduceLeDiff, Nat.reduceSub, Nat.reduceLT, Nat.reduceMul, reduceCtorEq, e1, hn]
    obtain ⟨b', hb'⟩ := g2 _ true
    rw [hb', ← two]
    simp only [go_sem, ↓reduceIte, Nat.reduceEqDiff, Nat.reduceAdd, Nat.reduceBEq, Nat.reduceLeDiff, Nat.reduceSub, Nat.reduceLT, Nat.reduceMul, reduceCtorEq, e2, hn]
    rw [g4]
    simp only [go_sem, ↓reduceIte, Nat.reduceEqDiff, Nat.reduceAdd, Nat.reduceBEq, Nat.reduceLeDiff, Nat.reduceSub, Nat.reduceLT, Nat.reduceMul, reduceCtorEq, e3, hn, n3, n4, Int.natCast_nonneg, Int.toNat_natCast, hc26]
    have hz : vrw (three l r t) r (cands (three l r t) r t u) l.length 0 = List.replicate l.length [] := rfl
    rw [hz, rowsS_nil] at g5
    simp only [rowsOb, rowsEs_nil] at g5
    rw [g5]
    simp only [go_sem, ↓reduceIte, Nat.reduceEqDiff, Nat.reduceAdd, Nat.reduceBEq, Nat.reduceLeDiff, Nat.reduceSub, Nat.reduceLT, Nat.reduceMul, reduceCtorEq, e3, hn]
    rw [g7, List.drop_zero]
    cases he : elecR l (three l r t) t 0 (vrw (three l r t) r (cands (three l r t) r t u) l.length l.length) (three l r t) with
    | none => rfl
    | some out =>
      have hol : out.length = l.length := by rw [elecR_len _ _ _ _ _ _ _ he, e3]
      simp only [go_sem, ↓reduceIte, Nat.reduceEqDiff, Nat.reduceAdd, Nat.reduceBEq, Nat.reduceLeDiff, Nat.reduceSub, Nat.reduceLT, Nat.reduceMul, reduceCtorEq, hol]
end Go.R
