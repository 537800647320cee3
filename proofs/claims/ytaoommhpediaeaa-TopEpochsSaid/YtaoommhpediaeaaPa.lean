/- The plain law of epochs. -/
import Derived.Test.YtaoommhpediaeaaCd
set_option linter.unusedVariables false
set_option linter.unusedSimpArgs false
set_option linter.defProp false

namespace Go.R

/-! ### majorities meet -/
theorem filter_meet (p q : Nat → Bool) : ∀ l : List Nat, (l.filter p).length + (l.filter q).length ≤ l.length + (l.filter fun k => p k && q k).length
  | [] => by simp
  | x :: l => by
    have ih := filter_meet p q l
    simp only [List.filter_cons, List.length_cons]
    cases p x <;> cases q x <;> simp <;> omega
theorem meet {n : Nat} {p q : Nat → Bool} (hp : n < 2 * ((List.range n).filter p).length) (hq : n < 2 * ((List.range n).filter q).length) : ∃ k, k < n ∧ p k = true ∧ q k = true := by
  have h := filter_meet p q (List.range n)
  simp only [List.length_range] at h
  have hpos : 0 < ((List.range n).filter fun k => p k && q k).length := by omega
  obtain ⟨k, hk⟩ := List.exists_mem_of_length_pos hpos
  simp only [List.mem_filter, List.mem_range, Bool.and_eq_true] at hk
  exact ⟨k, hk.1, hk.2.1, hk.2.2⟩

theorem mem_hears {l : List Ctl} {r : List (List Bool)} {i k : Nat} : k ∈ hears l r i ↔ k < l.length ∧ hearP l r i k = true := by
  simp only [hears, List.mem_filter, List.mem_range]
theorem hears_symm {l : List Ctl} {r : List (List Bool)} {i k : Nat} (hi : i < l.length) (h : k ∈ hears l r i) : i ∈ hears l r k := by
  rw [mem_hears] at h ⊢
  refine ⟨hi, ?_⟩
  have h2 := h.2
  simp only [hearP, Bool.and_eq_true, Bool.or_eq_true, beq_iff_eq] at h2 ⊢
  obtain ⟨h3, h4, h5⟩ := h2
  refine ⟨h4, h3, ?_⟩
  rcases h5 with (h5 | h5) | h5
  · exact .inl (.inl h5.symm)
  · exact .inr h5
  · exact .inl (.inr h5)

/-! ### the votes -/
/-- For whom a controller votes. -/
def choice (o : List Ctl) (r : List (List Bool)) (cs : List Nat) (i : Nat) : Option Nat := if leads o r i = true then none else cs.find? fun c => (hears o r i).contains c
def votesFor (o : List Ctl) (r : List (List Bool)) (cs : List Nat) (c i : Nat) : Bool := choice o r cs i == some c

theorem find_idx (p : Nat → Bool) : ∀ cs : List Nat, (match cs.findIdx? p with | some x => cs[x]? | none => none) = cs.find? p
  | [] => rfl
  | c :: cs => by
    have ih := find_idx p cs
    simp only [List.findIdx?_cons, List.find?_cons]
    cases p c
    · simp only [Bool.false_eq_true, if_false]
      rw [← ih]
      cases cs.findIdx? p <;> simp
    · simp
theorem voteStep_eq (o : List Ctl) (r : List (List Bool)) (cs : List Nat) (vs : List (Nat × List Nat)) (i : Nat) : voteStep o r cs vs i = match choice o r cs i with | some c => addV c i vs | none => vs := by
  unfold voteStep choice
  split
  · rfl
  · rw [← find_idx]
    cases h : cs.findIdx? (fun c => (hears o r i).contains c) with
    | none => rfl
    | some x => cases cs[x]? <;> rfl
theorem getV_vts (o : List Ctl) (r : List (List Bool)) (cs : List Nat) (c : Nat) : ∀ q, getV (vts o r cs q) c = (List.range q).filter (votesFor o r cs c)
  | 0 => rfl
  | q + 1 => by
    have ih := getV_vts o r cs c q
    rw [vts_succ, voteStep_eq, filt_succ]
    unfold votesFor at ih ⊢
    cases h : choice o r cs q with
    | none => simp [ih]
    | some c' =>
      simp only [getV_add]
      by_cases hc : c = c'
      · subst hc; simp [ih]
      · have : ¬ c' = c := fun e => hc e.symm
        simp [hc, this, ih]
theorem vrw_eq (o : List Ctl) (r : List (List Bool)) (cs : List Nat) (n : Nat) (hcs : ∀ c ∈ cs, c < n) : ∀ q, vrw o r cs n q = (List.range n).map fun c => (List.range q).filter (votesFor o r cs c)
  | 0 => by
    apply List.ext_getElem
    · simp [vrw]
    · intro i h1 h2; simp [vrw]
  | q + 1 => by
    have ih := vrw_eq o r cs n hcs q
    rw [vrw_succ]
    have hstep : (if leads o r q = true then vrw o r cs n q else rowVote o r cs (vrw o r cs n q) q) = match choice o r cs q with | some c => rowAdd (vrw o r cs n q) c q | none => vrw o r cs n q := by
      unfold choice rowVote
      split
      · rfl
      · rfl
    rw [hstep, ih]
    cases h : choice o r cs q with
    | none =>
      simp only
      apply List.ext_getElem
      · simp
      · intro i h1 h2
        simp [filt_succ, votesFor, h]
    | some c =>
      simp only
      apply List.ext_getElem
      · simp [rowAdd]
      · intro i h1 h2
        have hi : i < n := by simpa using h2
        simp only [List.getElem_map, List.getElem_range, filt_succ]
        simp only [rowAdd]
        by_cases hic : c = i
        · subst hic
          simp [votesFor, h, hi]
        · simp [votesFor, h, hic]

theorem choice_some {o : List Ctl} {r : List (List Bool)} {cs : List Nat} {i c : Nat} (h : choice o r cs i = some c) : leads o r i = false ∧ c ∈ cs ∧ c ∈ hears o r i := by
  unfold choice at h
  split at h
  · cases h
  · rename_i hl
    have h1 := List.mem_of_find?_eq_some h
    have h2 := List.find?_some h
    exact ⟨by simpa using hl, h1, by simpa using h2⟩
/-- In an ascending list the first one found is the least. -/
theorem find_least {p : Nat → Bool} : ∀ {cs : List Nat}, cs.Pairwise (· < ·) → ∀ {c : Nat}, c ∈ cs → p c = true → ∃ d, cs.find? p = some d ∧ d ≤ c
  | [], _, c, h, _ => by simp at h
  | x :: cs, hs, c, h, hp => by
    simp only [List.pairwise_cons] at hs
    simp only [List.find?_cons]
    cases hx : p x
    · simp only [List.mem_cons] at h
      rcases h with rfl | h
      · rw [hp] at hx; cases hx
      · exact find_least hs.2 h hp
    · refine ⟨x, rfl, ?_⟩
      simp only [List.mem_cons] at h
      rcases h with rfl | h
      · exact Nat.le_refl _
      · exact Nat.le_of_lt (hs.1 c h)
theorem cands_sorted (o : List Ctl) (r : List (List Bool)) (t u : Int) : (cands o r t u).Pairwise (· < ·) := List.Pairwise.filter _ List.pairwise_lt_range
theorem mem_cands {o : List Ctl} {r : List (List Bool)} {t u : Int} {c : Nat} (h : c ∈ cands o r t u) : c < o.length ∧ (cx o c).st = 0 ∧ maj o (hears o r c).length = true ∧ leads o r c = false := by
  simp only [cands, List.mem_filter, List.mem_range, candP, Bool.and_eq_true, beq_iff_eq, Bool.not_eq_true', decide_eq_true_eq] at h
  exact ⟨h.1, h.2.1, h.2.2.1, h.2.2.2.1⟩

/-- A majority's choice votes for itself. -/
theorem votes_self {o : List Ctl} {r : List (List Bool)} {t u : Int} {c : Nat} (hm : maj o ((List.range o.length).filter (votesFor o r (cands o r t u) c)).length = true) : c ∈ cands o r t u ∧ choice o r (cands o r t u) c = some c := by
  have hm' : o.length < 2 * ((List.range o.length).filter (votesFor o r (cands o r t u) c)).length := by simpa [maj] using hm
  have hpos : 0 < ((List.range o.length).filter (votesFor o r (cands o r t u) c)).length := by omega
  obtain ⟨w, hw⟩ := List.exists_mem_of_length_pos hpos
  simp only [List.mem_filter, List.mem_range, votesFor, beq_iff_eq] at hw
  have hc := (choice_some hw.2).2.1
  refine ⟨hc, ?_⟩
  obtain ⟨c1, c2, c3, c4⟩ := mem_cands hc
  have hself : c ∈ hears o r c := by
    rw [mem_hears]
    refine ⟨c1, ?_⟩
    simp [hearP, up, c2]
  obtain ⟨d, hd, hle⟩ := find_least (p := fun c' => (hears o r c).contains c') (cands_sorted o r t u) hc (by simpa using hself)
  have hch : choice o r (cands o r t u) c = some d := by simp only [choice, c4, hd]; rfl
  rw [hch]
  by_cases hdc : d = c
  · rw [hdc]
  · exfalso
    have hd2 := choice_some hch
    obtain ⟨d1, d2, d3, d4⟩ := mem_cands hd2.2.1
    have hm2 : o.length < 2 * ((List.range o.length).filter (hearP o r d)).length := by
      unfold maj hears at d3
      exact of_decide_eq_true d3
    obtain ⟨v, v1, v2, v3⟩ := meet hm' hm2
    simp only [votesFor, beq_iff_eq] at v2
    have hv := choice_some v2
    have hvd : d ∈ hears o r v := hears_symm d1 (mem_hears.2 ⟨v1, v3⟩)
    obtain ⟨e, he, hle2⟩ := find_least (p := fun c' => (hears o r v).contains c') (cands_sorted o r t u) hd2.2.1 (by simpa using hvd)
    have : choice o r (cands o r t u) v = some e := by simp only [choice, hv.1, he]; rfl
    rw [this] at v2
    simp only [Option.some.injEq] at v2
    omega

theorem grt_app_mem (o : List Ctl) : ∀ (ws : List Nat) (a : Int) (c : Nat), c ∈ ws → (ws ++ [c]).foldl (fun m k => max m (cx o k).ep) a = ws.foldl (fun m k => max m (cx o k).ep) a := by
  have ge : ∀ (ws : List Nat) (a : Int), a ≤ ws.foldl (fun m k => max m (cx o k).ep) a := by
    intro ws
    induction ws with
    | nil => intro a; exact Int.le_refl _
    | cons x ws ih => intro a; have := ih (max a (cx o x).ep); simp only [List.foldl_cons]; omega
  intro ws
  induction ws with
  | nil => intro a c h; simp at h
  | cons x ws ih =>
    intro a c h
    simp only [List.cons_append, List.foldl_cons]
    simp only [List.mem_cons] at h
    rcases h with rfl | h
    · rw [List.foldl_append]
      simp only [List.foldl_cons, List.foldl_nil]
      have := ge ws (max a (cx o c).ep)
      omega
    · exact ih _ c h

theorem setEp_cx (e : Int) : ∀ (xs : List Nat) (out : List Ctl) (k : Nat), (∀ x ∈ xs, x < out.length) → cx (xs.foldl (setEp e) out) k = if k ∈ xs then ⟨(cx out k).st, e, (cx out k).hd⟩ else cx out k
  | [], out, k, _ => by simp
  | x :: xs, out, k, h => by
    simp only [List.foldl_cons]
    have hx := h x (by simp)
    rw [setEp_cx e xs (setEp e out x) k (by intro y hy; have := h y (by simp [hy]); simpa [setEp] using this)]
    have h1 : ∀ k, cx (setEp e out x) k = if k = x then ⟨(cx out k).st, e, (cx out k).hd⟩ else cx out k := by
      intro k
      unfold setEp
      by_cases hk : k = x
      · subst hk
        rw [if_pos rfl]
        exact cx_of (by simp [hx])
      · rw [if_neg hk]
        simp only [cx, List.getD]
        rw [List.getElem?_set_ne (fun e => hk e.symm)]
    rw [h1]
    by_cases hk : k = x
    · subst hk
      simp
    · simp [hk]

/-- What a win makes of the controllers. -/
theorem wonC_eq {o : List Ctl} {t : Int} {vs : List (Nat × List Nat)} {c : Nat} (hc : c ∈ getV vs c) (hw : ∀ x ∈ getV vs c, x < o.length) (out : List Ctl) (ho : out.length = o.length) :
    wonC o t vs c out = ((getV vs c).foldl (setEp (grt o (getV vs c) + 1)) out).set c ⟨1, grt o (getV vs c) + 1, t⟩ := by
  have hg : grt o (getV vs c ++ [c]) = grt o (getV vs c) := grt_app_mem o _ 0 c hc
  unfold wonC
  rw [hg, Int.add_comm 1]
  have hlen := setEp_len (grt o (getV vs c) + 1) (getV vs c) out
  have hcl := hw c hc
  rw [setEp_cx _ _ _ _ (by intro x hx; simp only [List.mem_append, List.mem_singleton] at hx; rcases hx with hx | rfl; have := hw x hx; omega; omega)]
  rw [if_pos (by simp)]
  rw [List.foldl_append]
  simp only [List.foldl_cons, List.foldl_nil]
  unfold setEp
  rw [List.set_set]
end Go.R

namespace Go.R

theorem filter_ge_in : ∀ {cs : List Nat}, cs.Pairwise (· < ·) → ∀ {c : Nat}, c ∈ cs → cs.filter (fun x => decide (c ≤ x)) = c :: cs.filter (fun x => decide (c + 1 ≤ x))
  | [], _, c, h => by simp at h
  | x :: cs, hs, c, h => by
    simp only [List.pairwise_cons] at hs
    simp only [List.mem_cons] at h
    rcases h with rfl | h
    · simp only [List.filter_cons, Nat.le_refl, decide_true, if_true, show ¬ c + 1 ≤ c by omega, decide_false, Bool.false_eq_true, if_false]
      congr 1
      apply List.filter_congr
      intro y hy
      have := hs.1 y hy
      rw [Bool.eq_iff_iff]; simp; omega
    · have := hs.1 c h
      simp only [List.filter_cons, show ¬ c ≤ x by omega, show ¬ c + 1 ≤ x by omega, decide_false, Bool.false_eq_true, if_false]
      exact filter_ge_in hs.2 h
theorem filter_ge_out {cs : List Nat} {c : Nat} (h : c ∉ cs) : cs.filter (fun x => decide (c ≤ x)) = cs.filter (fun x => decide (c + 1 ≤ x)) := by
  apply List.filter_congr
  intro y hy
  have : y ≠ c := fun e => h (e ▸ hy)
  rw [Bool.eq_iff_iff]; simp; omega

section
variable {l o : List Ctl} {r : List (List Bool)} {t u : Int}

theorem elec_eq (hl : l.length = o.length) (hep : ∀ i, i < o.length → 0 ≤ (cx o i).ep ∧ (cx o i).ep ≤ 2147483648) : ∀ (m c : Nat) (out : List Ctl), c + m = o.length → out.length = o.length →
    elecR l o t c (((List.range o.length).map fun c => (List.range o.length).filter (votesFor o r (cands o r t u) c)).drop c) out = elecF o t (vts o r (cands o r t u) o.length) ((cands o r t u).filter fun x => decide (c ≤ x)) out := by
  intro m
  induction m with
  | zero =>
    intro c out hc ho
    rw [List.drop_eq_nil_of_le (by simp; omega)]
    have : (cands o r t u).filter (fun x => decide (c ≤ x)) = [] := by
      rw [List.filter_eq_nil_iff]
      intro x hx
      have := (mem_cands hx).1
      simp; omega
    rw [this]
    rfl
  | succ m ih =>
    intro c out hc ho
    have hgv := getV_vts o r (cands o r t u) c o.length
    rw [List.drop_eq_getElem_cons (by simp; omega)]
    simp only [List.getElem_map, List.getElem_range]
    have hmaj : ∀ n, maj l n = maj o n := fun n => by simp only [maj, hl]
    by_cases hin : c ∈ cands o r t u
    · rw [filter_ge_in (cands_sorted o r t u) hin]
      simp only [elecR, elecF, hmaj, hgv]
      cases hm : maj o ((List.range o.length).filter (votesFor o r (cands o r t u) c)).length with
      | false => exact ih (c + 1) out (by omega) ho
      | true =>
        obtain ⟨_, hself⟩ := votes_self hm
        have hcw : c ∈ (List.range o.length).filter (votesFor o r (cands o r t u) c) := by
          simp only [List.mem_filter, List.mem_range, votesFor, hself, beq_self_eq_true, and_true]
          omega
        have hlt : ∀ x ∈ (List.range o.length).filter (votesFor o r (cands o r t u) c), x < o.length := by
          intro x hx
          simp only [List.mem_filter, List.mem_range] at hx
          exact hx.1
        have hg : grt o ((List.range o.length).filter (votesFor o r (cands o r t u) c) ++ [c]) = grt o ((List.range o.length).filter (votesFor o r (cands o r t u) c)) := grt_app_mem o _ 0 c hcw
        have hbd := grt_bd o 2147483648 (by omega) (fun i hi => (hep i hi).2) _ hlt
        rw [hg]
        have hd : decide (1 + grt o ((List.range o.length).filter (votesFor o r (cands o r t u) c)) > 2147483648) = (grt o ((List.range o.length).filter (votesFor o r (cands o r t u) c)) == 2147483648) := by
          rw [Bool.eq_iff_iff]; simp; omega
        rw [hd]
        have hwon := wonC_eq (o := o) (t := t) (vs := vts o r (cands o r t u) o.length) (c := c) (by rw [hgv]; exact hcw) (by rw [hgv]; exact hlt) out ho
        rw [hgv] at hwon
        rw [hwon]
        cases (grt o ((List.range o.length).filter (votesFor o r (cands o r t u) c)) == 2147483648) with
        | true => rfl
        | false =>
          simp only [cond_true, cond_false]
          exact ih (c + 1) _ (by omega) (by simp only [List.length_set, setEp_len]; exact ho)
    · rw [filter_ge_out hin]
      have hem : (List.range o.length).filter (votesFor o r (cands o r t u) c) = [] := by
        rw [List.filter_eq_nil_iff]
        intro x _ hx
        simp only [votesFor, beq_iff_eq] at hx
        exact hin (choice_some hx).2.1
      rw [hem]
      have h0 : maj l 0 = false := by simp [maj]
      simp only [elecR, List.length_nil, h0, cond_false]
      exact ih (c + 1) out (by omega) ho
end

theorem tick_eq (l : List Ctl) (r : List (List Bool)) (t u : Int) : tickM l r t u = tickR l r t u := by
  unfold tickM tickR
  split
  · rfl
  · rename_i h
    have ok := okay_of (by simpa using h)
    have e3 := three_len l r t
    have hc : ∀ c ∈ cands (three l r t) r t u, c < l.length := fun c hc => by have := (mem_cands hc).1; omega
    rw [vrw_eq _ _ _ _ hc]
    have := elec_eq (l := l) (o := three l r t) (r := r) (t := t) (u := u) (by omega) (fun i hi => by rw [three_ep (by omega)]; exact one_ep ok (by omega)) l.length 0 (three l r t) (by omega) rfl
    rw [e3] at this
    rw [List.drop_zero] at this
    rw [this, electM, e3]
    have hf : (cands (three l r t) r t u).filter (fun x => decide (0 ≤ x)) = cands (three l r t) r t u := by
      rw [List.filter_eq_self]; intro a _; simp
    rw [hf]
    generalize elecF (three l r t) t _ _ _ = x
    cases x <;> rfl
end Go.R

namespace Go.R

section
variable {l : List Ctl} {r : List (List Bool)} {t u : Int}

/-- One that goes on being active through a round's first three parts: its epoch stands, it hears a majority and nobody with a greater epoch. -/
structure Stays (l : List Ctl) (r : List (List Bool)) (t : Int) (a : List Ctl) (i : Nat) : Prop where
  was : act l i = true
  in3 : act (three l r t) i = true
  ep : (cx a i).ep = (cx l i).ep
  maj : maj l (hears l r i).length = true
  top : ∀ k ∈ hears l r i, (cx l k).ep ≤ (cx l i).ep

/-- A winner: its voters, a majority, have its epoch now, had less, and hear nobody who is active. -/
structure Won (l : List Ctl) (r : List (List Bool)) (t : Int) (a : List Ctl) (c : Nat) : Prop where
  lt : c < l.length
  act : act a c = true
  voters : ∃ V : Nat → Bool, l.length < 2 * ((List.range l.length).filter V).length ∧ ∀ k, k < l.length → V k = true → (cx a k).ep = (cx a c).ep ∧ (cx l k).ep < (cx a c).ep ∧ leads (three l r t) r k = false

structure TickSpec (l : List Ctl) (r : List (List Bool)) (t : Int) (a : List Ctl) : Prop where
  len : a.length = l.length
  ep : ∀ i, i < l.length → (cx l i).ep ≤ (cx a i).ep ∧ 0 ≤ (cx a i).ep ∧ (cx a i).ep ≤ 2147483648
  up : ∀ i, i < l.length → up a i = up l i
  one : ∃ W : Option Nat, (∀ c, W = some c → Won l r t a c) ∧ ∀ i, i < l.length → R.act a i = true → Stays l r t a i ∨ W = some i

theorem each_up {g : Nat → Ctl → Ctl} (hg : ∀ i c, c.st ≠ 2 → (g i c).st ≠ 2) {i : Nat} (hi : i < l.length) : up (eachM l g) i = up l i := by
  unfold up
  rw [each_cx l g i hi, eachF]
  split
  · rename_i h
    have h2 : (cx l i).st ≠ 2 := by simpa [up] using h
    have := hg i _ h2
    rw [Bool.eq_iff_iff]; simp [h2, this]
  · rfl
theorem one_st (i : Nat) (hi : i < l.length) : (cx (one l r) i).st = (cx l i).st := by
  rw [one, each_cx _ _ i hi, eachF]; split <;> rfl
theorem one_up (i : Nat) (hi : i < l.length) : up (one l r) i = up l i := by
  simp only [up, one_st i hi]
theorem two_up (i : Nat) (hi : i < l.length) : up (two l r) i = up l i := by
  rw [two, each_up (fun i c h => by unfold yieldG; split; simp; exact h) (by rw [one_len]; exact hi), one_up i hi]
theorem three_up (i : Nat) (hi : i < l.length) : up (three l r t) i = up l i := by
  rw [three, each_up (fun i c h => by unfold listenG; split <;> exact h) (by rw [two_len]; exact hi), two_up i hi]
theorem hears_same {a b : List Ctl} (hl : a.length = b.length) (hu : ∀ i, i < b.length → up a i = up b i) {i : Nat} (hi : i < b.length) : hears a r i = hears b r i := by
  unfold hears
  rw [hl]
  apply List.filter_congr
  intro k hk
  simp only [List.mem_range] at hk
  simp only [hearP, hu i hi, hu k hk]

theorem three_st (i : Nat) (hi : i < l.length) : (cx (three l r t) i).st = (cx (two l r) i).st := by
  rw [three, each_cx _ _ i (by rw [two_len]; exact hi), eachF]
  split
  · unfold listenG; split <;> rfl
  · rfl
theorem self_hears {i : Nat} (hi : i < l.length) (h : up l i = true) : i ∈ hears l r i := by
  rw [mem_hears]; exact ⟨hi, by simp [hearP, h]⟩
theorem act_up {i : Nat} (h : act l i = true) : up l i = true := by
  have : (cx l i).st = 1 := by simpa [act] using h
  simp [up, this]
theorem grt_ge (ks : List Nat) : ∀ k ∈ ks, (cx l k).ep ≤ grt l ks := by
  have gen : ∀ (ks : List Nat) (a : Int), a ≤ ks.foldl (fun m k => max m (cx l k).ep) a ∧ ∀ k ∈ ks, (cx l k).ep ≤ ks.foldl (fun m k => max m (cx l k).ep) a := by
    intro ks
    induction ks with
    | nil => intro a; exact ⟨Int.le_refl _, by simp⟩
    | cons x ks ih =>
      intro a
      have h := ih (max a (cx l x).ep)
      simp only [List.foldl_cons]
      refine ⟨by have := h.1; omega, fun k hk => ?_⟩
      simp only [List.mem_cons] at hk
      rcases hk with rfl | hk
      · have := h.1; omega
      · exact h.2 k hk
  exact (gen ks 0).2

theorem one_ge (ok : Okay l r t u) {i : Nat} (hi : i < l.length) : (cx l i).ep ≤ (cx (one l r) i).ep := by
  rw [one, each_cx _ _ i hi, eachF]
  split
  · rename_i h
    exact grt_ge _ i (self_hears hi h)
  · exact Int.le_refl _

/-- Who is active behind part 3 was so, and stays. -/
theorem act_three (ok : Okay l r t u) {i : Nat} (hi : i < l.length) (h : act (three l r t) i = true) :
    act l i = true ∧ (cx (three l r t) i).ep = (cx l i).ep ∧ maj l (hears l r i).length = true ∧ ∀ k ∈ hears l r i, (cx l k).ep ≤ (cx l i).ep := by
  have h1 : (cx (two l r) i).st = 1 := by rw [← three_st (t := t) i hi]; simpa [act] using h
  have hi1 : i < (one l r).length := by rw [one_len]; exact hi
  rw [two, each_cx _ _ i hi1, eachF] at h1
  have key : (cx (one l r) i).st = 1 ∧ yieldC (one l r) l r i (cx (one l r) i).ep = false := by
    split at h1
    · unfold yieldG at h1
      split at h1
      · simp at h1
      · rename_i hy
        exact ⟨h1, by simpa using hy⟩
    · rename_i hu
      have : (cx (one l r) i).st = 2 := by simpa [up] using hu
      rw [this] at h1; cases h1
  obtain ⟨k1, k2⟩ := key
  have ha1 : act (one l r) i = true := by simp [act, k1]
  simp only [yieldC, ha1, Bool.true_and, Bool.or_eq_false_iff, Bool.not_eq_false', decide_eq_false_iff_not] at k2
  obtain ⟨k3, k4, k5⟩ := k2
  have hst : (cx l i).st = 1 := by rw [← one_st (r := r) i hi]; exact k1
  have hact : act l i = true := by simp [act, hst]
  have hh : hears (one l r) r i = hears l r i := hears_same (one_len l r) (fun k hk => one_up k hk) hi
  have hup := act_up hact
  have hone : (cx (one l r) i).ep = grt l (hears l r i) := by
    rw [one, each_cx _ _ i hi, eachF, if_pos hup]; rfl
  have hge := one_ge ok hi
  have heq : (cx (one l r) i).ep = (cx l i).ep := by omega
  refine ⟨hact, by rw [three_ep hi, heq], ?_, fun k hk => ?_⟩
  · rw [hh] at k3
    simpa [maj, one_len] using k3
  · have := grt_ge (l := l) _ k hk
    omega
end
end Go.R

namespace Go.R

theorem elecF_cases {o : List Ctl} {t : Int} {vs : List (Nat × List Nat)} : ∀ (cs : List Nat) (out a : List Ctl), cs.Pairwise (· < ·) →
    (∀ c ∈ cs, ∀ c' ∈ cs, maj o (getV vs c).length = true → maj o (getV vs c').length = true → c = c') → elecF o t vs cs out = some a →
    (a = out ∧ ∀ c ∈ cs, maj o (getV vs c).length = false) ∨ ∃ c ∈ cs, maj o (getV vs c).length = true ∧ 1 + grt o (getV vs c ++ [c]) ≤ 2147483648 ∧ a = wonC o t vs c out
  | [], out, a, _, _, h => by
    simp only [elecF, Option.some.injEq] at h
    exact .inl ⟨h.symm, by simp⟩
  | c :: cs, out, a, hs, hu, h => by
    simp only [List.pairwise_cons] at hs
    have hu2 : ∀ c ∈ cs, ∀ c' ∈ cs, maj o (getV vs c).length = true → maj o (getV vs c').length = true → c = c' := fun d hd d' hd' => hu d (by simp [hd]) d' (by simp [hd'])
    simp only [elecF] at h
    cases hm : maj o (getV vs c).length with
    | false =>
      rw [hm] at h
      rcases elecF_cases cs out a hs.2 hu2 h with ⟨h1, h2⟩ | ⟨d, hd, h1⟩
      · exact .inl ⟨h1, by simp only [List.mem_cons, forall_eq_or_imp]; exact ⟨hm, h2⟩⟩
      · exact .inr ⟨d, by simp [hd], h1⟩
    | true =>
      rw [hm] at h
      simp only [cond_true] at h
      cases hd : decide (1 + grt o (getV vs c ++ [c]) > 2147483648) with
      | true => rw [hd] at h; cases h
      | false =>
        rw [hd] at h
        simp only [cond_false] at h
        have hle : 1 + grt o (getV vs c ++ [c]) ≤ 2147483648 := by simpa using hd
        rcases elecF_cases cs _ a hs.2 hu2 h with ⟨h1, h2⟩ | ⟨d, hd2, h1, _⟩
        · exact .inr ⟨c, by simp, hm, hle, h1⟩
        · have := hu c (by simp) d (by simp [hd2]) hm h1
          have := hs.1 d hd2
          omega

theorem tick_spec {l a : List Ctl} {r : List (List Bool)} {t u : Int} (h : tickM l r t u = (a, 0)) : rchk l r t u = 0 ∧ TickSpec l r t a := by
  unfold tickM at h
  split at h
  · rename_i hne
    simp only [Prod.mk.injEq] at h
    exact absurd h.2 hne
  · rename_i hne
    have h0 : rchk l r t u = 0 := by simpa using hne
    refine ⟨h0, ?_⟩
    have ok := okay_of h0
    have e3 := three_len l r t
    split at h
    rotate_left
    · simp only [Prod.mk.injEq] at h; exact absurd h.2 (by decide)
    rename_i a' he
    simp only [Prod.mk.injEq] at h
    obtain ⟨rfl, _⟩ := h
    unfold electM at he
    have hgv := fun c => getV_vts (three l r t) r (cands (three l r t) r t u) c (three l r t).length
    have huniq : ∀ c ∈ cands (three l r t) r t u, ∀ c' ∈ cands (three l r t) r t u, maj (three l r t) (getV (vts (three l r t) r (cands (three l r t) r t u) (three l r t).length) c).length = true → maj (three l r t) (getV (vts (three l r t) r (cands (three l r t) r t u) (three l r t).length) c').length = true → c = c' := by
      intro c _ c' _ h1 h2
      rw [hgv, maj] at h1 h2
      obtain ⟨v, v1, v2, v3⟩ := meet (of_decide_eq_true h1) (of_decide_eq_true h2)
      simp only [votesFor, beq_iff_eq] at v2 v3
      rw [v2] at v3
      exact Option.some.inj v3
    have hstay : ∀ i, i < l.length → act (three l r t) i = true → (cx a' i).ep = (cx (three l r t) i).ep → Stays l r t a' i := by
      intro i hi ha hep
      obtain ⟨s1, s2, s3, s4⟩ := act_three ok hi ha
      exact ⟨s1, ha, by rw [hep, s2], s3, s4⟩
    rcases elecF_cases _ _ _ (cands_sorted _ _ _ _) huniq he with ⟨rfl, _⟩ | ⟨c, hc, hm, hle, ha⟩
    · refine ⟨e3, fun i hi => ?_, fun i hi => three_up i hi, none, by simp, fun i hi ha => .inl (hstay i hi ha rfl)⟩
      have h1 := one_ge ok hi
      have h2 := one_ep ok hi
      rw [three_ep hi]
      exact ⟨h1, h2⟩
    · have hm' : maj (three l r t) ((List.range (three l r t).length).filter (votesFor (three l r t) r (cands (three l r t) r t u) c)).length = true := by rw [← hgv]; exact hm
      obtain ⟨_, hself⟩ := votes_self hm'
      obtain ⟨c1, c2, c3, c4⟩ := mem_cands hc
      have hmemV : ∀ k, k ∈ getV (vts (three l r t) r (cands (three l r t) r t u) (three l r t).length) c ↔ k < (three l r t).length ∧ choice (three l r t) r (cands (three l r t) r t u) k = some c := by
        intro k; rw [hgv]; simp only [List.mem_filter, List.mem_range, votesFor, beq_iff_eq]
      have hcw := (hmemV c).2 ⟨c1, hself⟩
      have hlt : ∀ x ∈ getV (vts (three l r t) r (cands (three l r t) r t u) (three l r t).length) c, x < (three l r t).length := fun x hx => ((hmemV x).1 hx).1
      have hg : grt (three l r t) (getV (vts (three l r t) r (cands (three l r t) r t u) (three l r t).length) c ++ [c]) = grt (three l r t) (getV (vts (three l r t) r (cands (three l r t) r t u) (three l r t).length) c) := grt_app_mem _ _ 0 c hcw
      rw [hg] at hle
      rw [wonC_eq hcw hlt _ rfl] at ha
      generalize hws : getV (vts (three l r t) r (cands (three l r t) r t u) (three l r t).length) c = ws at *
      have hE0 := grt_bd (three l r t) 2147483648 (by omega) (fun i hi => by rw [three_ep (by omega)]; exact (one_ep ok (by omega)).2) ws hlt
      have hEge : ∀ k ∈ ws, (cx (three l r t) k).ep < grt (three l r t) ws + 1 := fun k hk => by have := grt_ge (l := three l r t) ws k hk; omega
      have hset := fun k => setEp_cx (grt (three l r t) ws + 1) ws (three l r t) k hlt
      have hcx : ∀ k, cx a' k = if k = c then ⟨1, grt (three l r t) ws + 1, t⟩ else if k ∈ ws then ⟨(cx (three l r t) k).st, grt (three l r t) ws + 1, (cx (three l r t) k).hd⟩ else cx (three l r t) k := by
        intro k
        rw [ha]
        by_cases hk : k = c
        · subst hk
          rw [if_pos rfl]
          exact cx_of (by simp [setEp_len, c1])
        · rw [if_neg hk, ← hset]
          simp only [cx, List.getD]
          rw [List.getElem?_set_ne (fun e => hk e.symm)]
      have hleads : ∀ k ∈ ws, leads (three l r t) r k = false := fun k hk => (choice_some ((hmemV k).1 hk).2).1
      refine ⟨by rw [ha, List.length_set, setEp_len, e3], fun i hi => ?_, fun i hi => ?_, some c, ?_, fun i hi hact => ?_⟩
      · have h1 := one_ge ok hi
        have h2 := one_ep ok hi
        have h3 : (cx (three l r t) i).ep = (cx (one l r) i).ep := three_ep hi
        rw [hcx]
        by_cases hk : i = c
        · rw [if_pos hk]
          have := hEge i (by rw [hk]; exact hcw)
          exact ⟨by simp only; omega, by simp only; omega, by simp only; omega⟩
        · rw [if_neg hk]
          split
          · rename_i hw
            have := hEge i hw
            exact ⟨by simp only; omega, by simp only; omega, by simp only; omega⟩
          · rw [h3]; exact ⟨h1, h2⟩
      · rw [← three_up (r := r) (t := t) i hi]
        simp only [up, hcx]
        by_cases hk : i = c
        · rw [if_pos hk, hk, c2]; rfl
        · rw [if_neg hk]; split <;> rfl
      · rintro d hd
        simp only [Option.some.injEq] at hd
        subst hd
        have hcc : cx a' c = ⟨1, grt (three l r t) ws + 1, t⟩ := by rw [hcx, if_pos rfl]
        refine ⟨by omega, by simp [act, hcc], votesFor (three l r t) r (cands (three l r t) r t u) c, ?_, fun k hk hv => ?_⟩
        · have : (three l r t).length < 2 * ((List.range (three l r t).length).filter (votesFor (three l r t) r (cands (three l r t) r t u) c)).length := by
            unfold maj at hm'; exact of_decide_eq_true hm'
          rw [e3] at this
          exact this
        · have hkw : k ∈ ws := (hmemV k).2 ⟨by omega, by simpa [votesFor] using hv⟩
          have h1 := one_ge ok hk
          have h3 : (cx (three l r t) k).ep = (cx (one l r) k).ep := three_ep hk
          have h4 := hEge k hkw
          refine ⟨?_, by rw [hcc]; simp only; omega, hleads k hkw⟩
          rw [hcc, hcx]
          rw [if_pos hkw]
          split <;> rfl
      · by_cases hk : i = c
        · exact .inr (by rw [hk])
        · have h1 := hcx i
          rw [if_neg hk] at h1
          have hst : (cx a' i).st = (cx (three l r t) i).st := by rw [h1]; split <;> rfl
          have ha3 : act (three l r t) i = true := by unfold act at hact ⊢; rw [← hst]; exact hact
          have hnw : i ∉ ws := by
            intro hw
            have := hleads i hw
            have hl : leads (three l r t) r i = true := by
              simp only [leads, List.any_eq_true]
              exact ⟨i, self_hears (by omega) (act_up ha3), ha3⟩
            rw [hl] at this; cases this
          rw [if_neg hnw] at h1
          exact .inl (hstay i hi ha3 (by rw [h1]))
end Go.R

namespace Go.R

def mget : List (Int × Nat) → Int → Option Nat
  | [], _ => none
  | p :: m, e => if e = p.1 then some p.2 else mget m e
def mset (e : Int) (i : Nat) : List (Int × Nat) → List (Int × Nat)
  | [] => [(e, i)]
  | p :: m => if e = p.1 then (e, i) :: m else p :: mset e i m
theorem mget_set (e e' : Int) (i : Nat) : ∀ m, mget (mset e i m) e' = if e' = e then some i else mget m e'
  | [] => by simp only [mset, mget]
  | p :: m => by
    simp only [mset]
    split
    · rename_i h
      subst h
      simp only [mget]
      by_cases h1 : e' = p.1
      · rw [if_pos h1, if_pos h1]
      · rw [if_neg h1, if_neg h1, if_neg h1]
    · rename_i h
      simp only [mget, mget_set e e' i m]
      by_cases h1 : e' = p.1
      · rw [if_pos h1, if_neg (fun h2 => h (h2.symm.trans h1)), if_pos h1]
      · rw [if_neg h1, if_neg h1]

/-- A majority has this epoch or a greater one. -/
def Held (l : List Ctl) (e : Int) : Prop := l.length < 2 * ((List.range l.length).filter fun k => decide (e ≤ (cx l k).ep)).length

structure Inv (l : List Ctl) (m : List (Int × Nat)) (g d : Int) : Prop where
  len1 : 1 ≤ l.length
  len5 : l.length ≤ 5
  key : ∀ e i, mget m e = some i → e ≤ g ∧ Held l e
  act : ∀ i, i < l.length → R.act l i = true → mget m (cx l i).ep = some i
  g0 : g = -1 ∨ Held l g
  d0 : 0 ≤ d
  d1 : d ≤ 2147483648

theorem held_mono {l a : List Ctl} (hl : a.length = l.length) (h : ∀ i, i < l.length → (cx l i).ep ≤ (cx a i).ep) {e : Int} (he : Held l e) : Held a e := by
  unfold Held at *
  rw [hl]
  refine Nat.lt_of_lt_of_le he (Nat.mul_le_mul_left 2 ?_)
  have gen : ∀ ks : List Nat, (∀ k ∈ ks, k < l.length) → (ks.filter fun k => decide (e ≤ (cx l k).ep)).length ≤ (ks.filter fun k => decide (e ≤ (cx a k).ep)).length := by
    intro ks
    induction ks with
    | nil => intro _; simp
    | cons x ks ih =>
      intro hk
      have h1 := ih fun k hk' => hk k (by simp [hk'])
      have h2 := h x (hk x (by simp))
      simp only [List.filter_cons]
      by_cases hx : e ≤ (cx l x).ep
      · simp only [hx, show e ≤ (cx a x).ep by omega, decide_true, if_true, List.length_cons]; omega
      · simp only [hx, decide_false, Bool.false_eq_true, if_false]
        split
        · simp only [List.length_cons]; omega
        · exact h1
  exact gen _ fun k hk => by simpa using hk

section
variable {l a : List Ctl} {r : List (List Bool)} {t u g d : Int} {m : List (Int × Nat)}

/-- Crashes and restarts keep it. -/
theorem Inv.set (h : Inv l m g d) {i : Nat} (hi : i < l.length) {s x : Int} (hs : s ≠ 1) : Inv (l.set i ⟨s, (cx l i).ep, x⟩) m g d := by
  have hcx : ∀ k, cx (l.set i ⟨s, (cx l i).ep, x⟩) k = if k = i then ⟨s, (cx l i).ep, x⟩ else cx l k := by
    intro k
    by_cases hk : k = i
    · subst hk; rw [if_pos rfl]; exact cx_of (by simp [hi])
    · rw [if_neg hk]
      simp only [cx, List.getD]
      rw [List.getElem?_set_ne (fun e => hk e.symm)]
  have hep : ∀ k, (cx (l.set i ⟨s, (cx l i).ep, x⟩) k).ep = (cx l k).ep := by
    intro k
    rw [hcx]
    split
    · rename_i hk; rw [hk]
    · rfl
  have hm : ∀ {e}, Held l e → Held (l.set i ⟨s, (cx l i).ep, x⟩) e := fun he => held_mono (by simp) (fun k _ => by rw [hep]; exact Int.le_refl _) he
  refine ⟨by simpa using h.len1, by simpa using h.len5, fun e k hk => ⟨(h.key e k hk).1, hm (h.key e k hk).2⟩, fun k hk ha => ?_, h.g0.imp id hm, h.d0, h.d1⟩
  have hk' : k < l.length := by simpa using hk
  rw [hep]
  refine h.act k hk' ?_
  unfold R.act at ha ⊢
  rw [hcx] at ha
  split at ha
  · simp at ha; exact absurd ha hs
  · exact ha

variable (hI : Inv l m g d) (hT : TickSpec l r t a) (hs : sqB r l.length = true)
include hI hT

theorem won_gt {c : Nat} (hw : Won l r t a c) : g < (cx a c).ep := by
  obtain ⟨V, hV, hv⟩ := hw.voters
  rcases hI.g0 with h | h
  · have := (hT.ep c hw.lt).2.1
    omega
  · obtain ⟨k, k1, k2, k3⟩ := meet hV h
    have := (hv k k1 k2).2.1
    have := of_decide_eq_true k3
    omega

/-- Behind a round at most one is active. -/
theorem act_one {i j : Nat} (hi : i < l.length) (hj : j < l.length) (ai : act a i = true) (aj : act a j = true) : i = j := by
  obtain ⟨W, hW, hone⟩ := hT.one
  have ss : ∀ {i j}, i < l.length → j < l.length → Stays l r t a i → Stays l r t a j → (cx l i).ep < (cx l j).ep → False := by
    intro i j hi hj si sj hlt
    have hk := (hI.key _ _ (hI.act j hj sj.was)).2
    have hm : l.length < 2 * ((List.range l.length).filter (hearP l r i)).length := by
      have := si.maj
      unfold maj hears at this
      exact of_decide_eq_true this
    obtain ⟨k, k1, k2, k3⟩ := meet hm hk
    have := si.top k (mem_hears.2 ⟨k1, k2⟩)
    have := of_decide_eq_true k3
    omega
  have sw : ∀ {i c}, i < l.length → Stays l r t a i → Won l r t a c → False := by
    intro i c hi si hw
    obtain ⟨V, hV, hv⟩ := hw.voters
    have hm : l.length < 2 * ((List.range l.length).filter (hearP l r i)).length := by
      have := si.maj
      unfold maj hears at this
      exact of_decide_eq_true this
    obtain ⟨k, k1, k2, k3⟩ := meet hV hm
    have hki : i ∈ hears l r k := hears_symm hi (mem_hears.2 ⟨k1, k3⟩)
    have h3 : hears (three l r t) r k = hears l r k := hears_same (three_len l r t) (fun i hi => three_up i hi) k1
    have hl : leads (three l r t) r k = true := by
      simp only [leads, List.any_eq_true]
      exact ⟨i, by rw [h3]; exact hki, si.in3⟩
    have := (hv k k1 k2).2.2
    rw [hl] at this; cases this
  rcases hone i hi ai with si | wi
  · rcases hone j hj aj with sj | wj
    · by_cases h : (cx l i).ep = (cx l j).ep
      · have h1 := hI.act i hi si.was
        have h2 := hI.act j hj sj.was
        rw [h, h2] at h1
        exact (Option.some.inj h1).symm
      · rcases Int.lt_or_gt_of_ne h with h | h
        · exact (ss hi hj si sj h).elim
        · exact (ss hj hi sj si h).elim
    · exact (sw hi si (hW j wj)).elim
  · rcases hone j hj aj with sj | wj
    · exact (sw hj sj (hW i wi)).elim
    · rw [wi] at wj; exact Option.some.inj wj

/-- What is asked of one that is active behind a round. -/
theorem act_ok {i : Nat} (hi : i < l.length) (ai : act a i = true) : (∀ k, mget m (cx a i).ep = some k → k = i) ∧ (act l i = false → g < (cx a i).ep) ∧ 0 ≤ (cx a i).ep ∧ (cx a i).ep ≤ 2147483648 := by
  obtain ⟨W, hW, hone⟩ := hT.one
  have hep := hT.ep i hi
  rcases hone i hi ai with si | wi
  · refine ⟨fun k hk => ?_, fun h => ?_, hep.2⟩
    · rw [si.ep, hI.act i hi si.was] at hk
      exact (Option.some.inj hk).symm
    · rw [si.was] at h; cases h
  · have hw := hW i wi
    have hgt := won_gt hI hT hw
    refine ⟨fun k hk => ?_, fun _ => hgt, hep.2⟩
    have := (hI.key _ _ hk).1
    omega

theorem inv_none (h : ∀ i, i < l.length → act a i = false) : Inv a m g d := by
  have hm : ∀ {e}, Held l e → Held a e := fun he => held_mono hT.len (fun k hk => (hT.ep k hk).1) he
  refine ⟨by rw [hT.len]; exact hI.len1, by rw [hT.len]; exact hI.len5, fun e i he => ⟨(hI.key e i he).1, hm (hI.key e i he).2⟩, fun i hi ha => ?_, hI.g0.imp id hm, hI.d0, hI.d1⟩
  rw [hT.len] at hi
  rw [h i hi] at ha; cases ha

theorem inv_some {i : Nat} {d' : Int} (hi : i < l.length) (ai : act a i = true) (hd0 : 0 ≤ d') (hd1 : d' ≤ 2147483648) : Inv a (mset (cx a i).ep i m) (max g (cx a i).ep) d' := by
  have hm : ∀ {e}, Held l e → Held a e := fun he => held_mono hT.len (fun k hk => (hT.ep k hk).1) he
  have hnew : Held a (cx a i).ep := by
    obtain ⟨W, hW, hone⟩ := hT.one
    rcases hone i hi ai with si | wi
    · have := (hI.key _ _ (hI.act i hi si.was)).2
      rw [si.ep]
      exact hm this
    · obtain ⟨V, hV, hv⟩ := (hW i wi).voters
      unfold Held
      rw [hT.len]
      refine Nat.lt_of_lt_of_le hV (Nat.mul_le_mul_left 2 ?_)
      have gen : ∀ ks : List Nat, (∀ k ∈ ks, k < l.length) → (ks.filter V).length ≤ (ks.filter fun k => decide ((cx a i).ep ≤ (cx a k).ep)).length := by
        intro ks
        induction ks with
        | nil => intro _; simp
        | cons x ks ih =>
          intro hk
          have h1 := ih fun k hk' => hk k (by simp [hk'])
          simp only [List.filter_cons]
          by_cases hx : V x = true
          · have := (hv x (hk x (by simp)) hx).1
            simp only [hx, this, Int.le_refl, decide_true, if_true, List.length_cons]; omega
          · simp only [Bool.not_eq_true] at hx
            simp only [hx, Bool.false_eq_true, if_false]
            split
            · simp only [List.length_cons]; omega
            · exact h1
      exact gen _ fun k hk => by simpa using hk
  refine ⟨by rw [hT.len]; exact hI.len1, by rw [hT.len]; exact hI.len5, fun e k he => ?_, fun k hk ha => ?_, .inr ?_, hd0, hd1⟩
  · rw [mget_set] at he
    split at he
    · rename_i h; subst h; exact ⟨by omega, hnew⟩
    · have := hI.key e k he
      exact ⟨by omega, hm this.2⟩
  · rw [hT.len] at hk
    have := act_one hI hT hi hk ai ha
    subst this
    rw [mget_set, if_pos rfl]
  · by_cases h : (cx a i).ep ≤ g
    · rw [show max g (cx a i).ep = g by omega]
      rcases hI.g0 with h' | h'
      · have := (hT.ep i hi).2.1
        omega
      · exact hm h'
    · rw [show max g (cx a i).ep = (cx a i).ep by omega]; exact hnew
end
end Go.R
