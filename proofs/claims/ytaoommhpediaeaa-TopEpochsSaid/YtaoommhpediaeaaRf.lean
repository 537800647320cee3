/- The rules by which the evaluator is run. -/
import Derived.Test.YtaoommhpediaeaaRe
import Derived.Attr
set_option linter.unusedVariables false
set_option linter.unusedSimpArgs false
set_option linter.defProp false

namespace Go.R

def CLe (c c' : CallF) : Prop := ∀ f ds r, c f ds = some r → c' f ds = some r

theorem doCall_mono {c c' : CallF} (h : CLe c c') {st : St} {d : Option Nat} {f : V} {xs : List V} {r : St × Fp} (hs : doCall c st d f xs = some r) : doCall c' st d f xs = some r := by
  unfold doCall at hs ⊢
  cases hc : callee f with
  | none => rw [hc] at hs; cases hs
  | some p =>
    obtain ⟨g, fst, caps⟩ := p
    simp only [hc] at hs ⊢
    cases hds : mapO (lendV 8 st.S) (fst ++ xs ++ caps) with
    | none => rw [hds] at hs; cases hs
    | some ds =>
      simp only [hds] at hs ⊢
      cases hr : c g ds with
      | none => rw [hr] at hs; cases hs
      | some q => rw [hr] at hs; rw [h _ _ _ hr]; exact hs

theorem stepI_mono {c c' : CallF} (h : CLe c c') {i : AI} {st : St} {r : St × Fp} (hs : stepI c i st = some r) : stepI c' i st = some r := by
  cases hw : wants st.T i.g with
  | none => unfold stepI at hs; rw [hw] at hs; cases hs
  | some b =>
    cases b with
    | false => unfold stepI at hs ⊢; rw [hw] at hs ⊢; exact hs
    | true =>
      by_cases hop : ∃ f xs, i.op = .call f xs
      · obtain ⟨f, xs, hop⟩ := hop
        unfold stepI at hs ⊢
        rw [hw] at hs ⊢
        simp only [hop] at hs ⊢
        exact doCall_mono h hs
      · rw [stepI_op (fun f xs e => hop ⟨f, xs, e⟩) hw] at hs ⊢
        exact hs

theorem ops_mono {c c' : CallF} (h : CLe c c') : ∀ {l : List AI} {st : St} {r : St × List Fp}, ops c l st = some r → ops c' l st = some r
  | [], st, r, hs => hs
  | i :: l, st, r, hs => by
    simp only [ops] at hs ⊢
    split at hs
    · cases hs
    · rename_i st' f hf
      rw [stepI_mono h hf]
      simp only
      split at hs
      · cases hs
      · rename_i st2 fs hfs
        rw [ops_mono h hfs]
        exact hs

theorem loopN_mono {f f' : St → Option (Ex × St)} (h : ∀ st r, f st = some r → f' st = some r) {m : Nat} : ∀ {k k' : Nat} {st : St} {r : Ex × St}, k ≤ k' → loopN f m k st = some r → loopN f' m k' st = some r
  | 0, _, _, _, _, hs => by simp [loopN] at hs
  | k + 1, 0, _, _, hk, _ => by omega
  | k + 1, k' + 1, st, r, hk, hs => by
    simp only [loopN] at hs ⊢
    split at hs
    · cases hs
    · rename_i st' hf
      rw [h _ _ hf]
      exact loopN_mono h (by omega) hs
    · rename_i e st' hne hf
      rw [h _ _ hf]
      simp only [Option.some.injEq] at hs
      subst hs
      cases e with
      | normal => exact (hne rfl).elim
      | _ => rfl

theorem exec_mono {c c' : CallF} (h : CLe c c') {n n' : Nat} (hn : n ≤ n') : ∀ {a : AC} {st : St} {r : Ex × St}, exec c n a st = some r → exec c' n' a st = some r := by
  intro a
  induction a with
  | skip => intro st r hs; exact hs
  | exit => intro st r hs; exact hs
  | ret => intro st r hs; exact hs
  | rg l =>
    intro st r hs
    simp only [exec] at hs ⊢
    split at hs
    · rename_i st' fs h1
      rw [ops_mono h h1]
      exact hs
    · cases hs
  | rgd l ps =>
    intro st r hs
    simp only [exec] at hs ⊢
    split at hs
    · rename_i st' fs h1
      rw [ops_mono h h1]
      exact hs
    · cases hs
  | seq a b iha ihb =>
    intro st r hs
    simp only [exec] at hs ⊢
    split at hs
    · cases hs
    · rename_i st' h1
      rw [iha h1]
      exact ihb hs
    · rename_i e st' hne h1
      rw [iha h1]
      simp only [Option.some.injEq] at hs
      subst hs
      cases e with
      | normal => exact (hne rfl).elim
      | _ => rfl
  | both p x a b d ihp iha ihb ihd =>
    intro st0 r hs
    simp only [exec] at hs ⊢
    split at hs
    · rename_i st hp
      rw [ihp hp]
      have two : ∀ (f g : St → Option (Ex × St)), (∀ s r, f s = some r → g s = some r) → ∀ r, thenX f (exec c n d) st = some r → thenX g (exec c' n' d) st = some r := by
        intro f g hfg r h
        simp only [thenX] at h ⊢
        cases hf : f st with
        | none => rw [hf] at h; cases h
        | some p =>
          rw [hf] at h
          rw [hfg _ _ hf]
          obtain ⟨e, st1⟩ := p
          cases e with
          | normal => exact ihd h
          | _ => exact h
      simp only
      split at hs
      · rename_i b hb
        cases b with
        | true => exact two _ _ (fun _ _ => iha) _ hs
        | false => exact two _ _ (fun _ _ => ihb) _ hs
      · unfold same at hs ⊢
        split at hs
        · rename_i heq
          have h1 := two _ _ (fun _ _ => iha) _ hs
          rw [heq] at hs
          have h2 := two _ _ (fun _ _ => ihb) _ hs
          rw [if_pos (h1.trans h2.symm)]
          exact h1
        · cases hs
      · cases hs
    · cases hs
  | cond x a b iha ihb =>
    intro st r hs
    simp only [exec] at hs ⊢
    split at hs
    · rename_i t ht
      split at hs
      · rename_i hb; rw [if_pos hb]; exact iha hs
      · rename_i hb; rw [if_neg hb]; exact ihb hs
    · cases hs
  | blk id a iha =>
    intro st r hs
    simp only [exec] at hs ⊢
    split at hs
    · cases hs
    · rename_i i st' h1; rw [iha h1]; exact hs
    · rename_i e st' hne h1
      rw [iha h1]
      simp only [Option.some.injEq] at hs
      subst hs
      cases e with
      | exit i => exact (hne i rfl).elim
      | _ => rfl
  | lp a iha =>
    intro st r hs
    simp only [exec] at hs ⊢
    exact loopN_mono (fun st r h => iha h) hn hs
  | kl live a iha =>
    intro st r hs
    simp only [exec] at hs ⊢
    exact iha hs
  | att x kk key a iha =>
    intro st r hs
    simp only [exec] at hs ⊢
    exact iha hs

theorem run_succ {C : Cfg} : ∀ {k : Nat}, CLe (run C k) (run C (k + 1)) := by
  intro k
  induction k with
  | zero => intro f ds r h; simp [run] at h
  | succ k ih =>
    intro f ds r h
    unfold run at h ⊢
    split at h
    · rename_i I hI; exact h
    · split at h
      · cases h
      · rename_i F hF
        split at h
        · rename_i hnp
          rw [if_pos hnp]
          split at h
          · rename_i e st he
            rw [exec_mono ih (Nat.le_succ k) he]
            exact h
          · cases h
        · cases h

theorem run_mono {C : Cfg} {k k' : Nat} (h : k ≤ k') : CLe (run C k) (run C k') := by
  induction h with
  | refl => intro f ds r h; exact h
  | step _ ih => intro f ds r h; exact run_succ f ds r (ih f ds r h)

open Classical in
/-- What a call answers, if it answers. -/
noncomputable def RUN (C : Cfg) : CallF := fun f ds => if h : ∃ r, ∃ k, run C k f ds = some r then some (Classical.choose h) else none

open Classical in
noncomputable def EXEC (C : Cfg) (a : AC) (st : St) : Option (Ex × St) := if h : ∃ r, ∃ k, exec (run C k) k a st = some r then some (Classical.choose h) else none

open Classical in
noncomputable def LOOP (C : Cfg) (a : AC) (m : Nat) (st : St) : Option (Ex × St) := if h : ∃ r, ∃ k, loopN (exec (run C k) k a) m k st = some r then some (Classical.choose h) else none

variable {C : Cfg}

theorem RUN_iff {f : FuncId} {ds : List D} {r : V × List Ob} : RUN C f ds = some r ↔ ∃ k, run C k f ds = some r := by
  unfold RUN
  split
  · rename_i h
    obtain ⟨k, hk⟩ := Classical.choose_spec h
    constructor
    · intro he
      simp only [Option.some.injEq] at he
      exact ⟨k, he ▸ hk⟩
    · rintro ⟨k', hk'⟩
      have h1 := run_mono (C := C) (Nat.le_max_left k k') _ _ _ hk
      have h2 := run_mono (C := C) (Nat.le_max_right k k') _ _ _ hk'
      rw [h1] at h2
      exact h2
  · rename_i h
    constructor
    · intro h; cases h
    · rintro ⟨k, hk⟩; exact absurd ⟨r, k, hk⟩ h

theorem exec_le {k k' : Nat} (h : k ≤ k') {a : AC} {st : St} {r : Ex × St} (hs : exec (run C k) k a st = some r) : exec (run C k') k' a st = some r := exec_mono (run_mono h) h hs

theorem EXEC_iff {a : AC} {st : St} {r : Ex × St} : EXEC C a st = some r ↔ ∃ k, exec (run C k) k a st = some r := by
  unfold EXEC
  split
  · rename_i h
    obtain ⟨k, hk⟩ := Classical.choose_spec h
    constructor
    · intro he
      simp only [Option.some.injEq] at he
      exact ⟨k, he ▸ hk⟩
    · rintro ⟨k', hk'⟩
      have h1 := exec_le (C := C) (Nat.le_max_left k k') hk
      have h2 := exec_le (C := C) (Nat.le_max_right k k') hk'
      rw [h1] at h2
      exact h2
  · rename_i h
    constructor
    · intro h; cases h
    · rintro ⟨k, hk⟩; exact absurd ⟨r, k, hk⟩ h

theorem loop_le {k k' : Nat} (h : k ≤ k') {a : AC} {m : Nat} {st : St} {r : Ex × St} (hs : loopN (exec (run C k) k a) m k st = some r) : loopN (exec (run C k') k' a) m k' st = some r :=
  loopN_mono (fun _ _ h1 => exec_le h h1) h hs

theorem LOOP_iff {a : AC} {m : Nat} {st : St} {r : Ex × St} : LOOP C a m st = some r ↔ ∃ k, loopN (exec (run C k) k a) m k st = some r := by
  unfold LOOP
  split
  · rename_i h
    obtain ⟨k, hk⟩ := Classical.choose_spec h
    constructor
    · intro he
      simp only [Option.some.injEq] at he
      exact ⟨k, he ▸ hk⟩
    · rintro ⟨k', hk'⟩
      have h1 := loop_le (C := C) (Nat.le_max_left k k') hk
      have h2 := loop_le (C := C) (Nat.le_max_right k k') hk'
      rw [h1] at h2
      exact h2
  · rename_i h
    constructor
    · intro h; cases h
    · rintro ⟨k, hk⟩; exact absurd ⟨r, k, hk⟩ h

theorem run_le_RUN {k : Nat} : CLe (run C k) (RUN C) := fun _ _ _ h => RUN_iff.2 ⟨k, h⟩

theorem opt_ext {α : Type} {x y : Option α} (h : ∀ r, x = some r ↔ y = some r) : x = y := by
  cases x with
  | none => cases y with
    | none => rfl
    | some b => exact absurd ((h b).2 rfl) (by simp)
  | some a => exact ((h a).1 rfl).symm

theorem stepR_iff {i : AI} {st : St} {r : St × Fp} : stepI (RUN C) i st = some r ↔ ∃ k, stepI (run C k) i st = some r := by
  constructor
  · intro hs
    unfold stepI at hs
    split at hs
    · cases hs
    · rename_i hw; exact ⟨0, by unfold stepI; rw [hw]; exact hs⟩
    · rename_i hw
      split at hs
      · rename_i f xs hop
        unfold doCall at hs
        split at hs
        · cases hs
        · rename_i hc
          split at hs
          · cases hs
          · rename_i ds hds
            split at hs
            · cases hs
            · rename_i r' os hr
              obtain ⟨k, hk⟩ := RUN_iff.1 hr
              refine ⟨k, ?_⟩
              unfold stepI
              rw [hw]
              simp only [hop]
              unfold doCall
              simp only [hc, hds, hk]
              exact hs
      · rename_i op hne
        refine ⟨0, ?_⟩
        rw [stepI_op hne hw]
        exact hs
  · rintro ⟨k, hk⟩; exact stepI_mono run_le_RUN hk

theorem opsR_iff : ∀ {l : List AI} {st : St} {r : St × List Fp}, ops (RUN C) l st = some r ↔ ∃ k, ops (run C k) l st = some r
  | [], st, r => ⟨fun h => ⟨0, h⟩, fun ⟨_, h⟩ => h⟩
  | i :: l, st, r => by
    constructor
    · intro hs
      simp only [ops] at hs
      split at hs
      · cases hs
      · rename_i st' f hf
        split at hs
        · cases hs
        · rename_i st2 fs hfs
          obtain ⟨k1, h1⟩ := stepR_iff.1 hf
          obtain ⟨k2, h2⟩ := opsR_iff.1 hfs
          refine ⟨max k1 k2, ?_⟩
          simp only [ops]
          rw [stepI_mono (run_mono (Nat.le_max_left k1 k2)) h1]
          simp only
          rw [ops_mono (run_mono (Nat.le_max_right k1 k2)) h2]
          exact hs
    · rintro ⟨k, hk⟩; exact ops_mono run_le_RUN hk

/-! ### the equations -/
theorem E_skip (st : St) : EXEC C .skip st = some (.normal, st) := EXEC_iff.2 ⟨0, rfl⟩
theorem E_exit (id : Nat) (st : St) : EXEC C (.exit id) st = some (.exit id, st) := EXEC_iff.2 ⟨0, rfl⟩
theorem E_ret (st : St) : EXEC C .ret st = some (.ret, st) := EXEC_iff.2 ⟨0, rfl⟩
theorem E_kl (live : List Nat) (a : AC) (st : St) : EXEC C (.kl live a) st = EXEC C a { st with T := keepT live st.T } :=
  opt_ext fun r => by rw [EXEC_iff, EXEC_iff]; rfl
theorem E_att (x : Opd) (kk : Nat) (key : Opd) (a : AC) (st : St) : EXEC C (.att x kk key a) st = EXEC C a { st with S := attach st.S (ev st.T x) kk (ev st.T key) } :=
  opt_ext fun r => by rw [EXEC_iff, EXEC_iff]; rfl
theorem E_rg (l : List AI) (st : St) : EXEC C (.rg l) st = match ops (RUN C) l st with | some (st', _) => if st'.n ≤ BB then some (.normal, st') else none | none => none := by
  refine opt_ext fun r => ?_
  rw [EXEC_iff]
  constructor
  · rintro ⟨k, hk⟩
    simp only [exec] at hk
    split at hk
    · rename_i st' fs h1
      rw [opsR_iff.2 ⟨k, h1⟩]
      exact hk
    · cases hk
  · intro h
    split at h
    · rename_i st' fs h1
      obtain ⟨k, hk⟩ := opsR_iff.1 h1
      exact ⟨k, by simp only [exec, hk]; exact h⟩
    · cases h
theorem E_rgd (l : List AI) (ps : List (Nat × Nat)) (st : St) : EXEC C (.rgd l ps) st = match ops (RUN C) l st with | some (st', fs) => if pairsOk fs ps = true ∧ st'.n ≤ BB then some (.normal, st') else none | none => none := by
  refine opt_ext fun r => ?_
  rw [EXEC_iff]
  constructor
  · rintro ⟨k, hk⟩
    simp only [exec] at hk
    split at hk
    · rename_i st' fs h1
      rw [opsR_iff.2 ⟨k, h1⟩]
      exact hk
    · cases hk
  · intro h
    split at h
    · rename_i st' fs h1
      obtain ⟨k, hk⟩ := opsR_iff.1 h1
      exact ⟨k, by simp only [exec, hk]; exact h⟩
    · cases h
theorem E_seq (a b : AC) (st : St) : EXEC C (.seq a b) st = match EXEC C a st with | none => none | some (.normal, st') => EXEC C b st' | some (e, st') => some (e, st') := by
  refine opt_ext fun r => ?_
  rw [EXEC_iff]
  constructor
  · rintro ⟨k, hk⟩
    simp only [exec] at hk
    split at hk
    · cases hk
    · rename_i st' h1
      rw [EXEC_iff.2 ⟨k, h1⟩]
      exact EXEC_iff.2 ⟨k, hk⟩
    · rename_i e st' hne h1
      rw [EXEC_iff.2 ⟨k, h1⟩]
      cases e with
      | normal => exact (hne rfl).elim
      | _ => exact hk
  · intro h
    split at h
    · cases h
    · rename_i st' h1
      obtain ⟨k1, h1⟩ := EXEC_iff.1 h1
      obtain ⟨k2, h2⟩ := EXEC_iff.1 h
      refine ⟨max k1 k2, ?_⟩
      simp only [exec, exec_le (Nat.le_max_left k1 k2) h1]
      exact exec_le (Nat.le_max_right k1 k2) h2
    · rename_i e st' hne h1
      obtain ⟨k1, h1⟩ := EXEC_iff.1 h1
      refine ⟨k1, ?_⟩
      simp only [exec, h1]
      cases e with
      | normal => exact (hne rfl).elim
      | _ => exact h
theorem E_cond (x : Opd) (a b : AC) (st : St) : EXEC C (.cond x a b) st = match ev st.T x with | .d (.bool t) => if t then EXEC C a st else EXEC C b st | _ => none := by
  refine opt_ext fun r => ?_
  rw [EXEC_iff]
  by_cases ht : ∃ t, ev st.T x = .d (.bool t)
  · obtain ⟨t, ht⟩ := ht
    simp only [exec, ht]
    cases t with
    | true => simp only [if_true]; exact EXEC_iff.symm
    | false => simp only [Bool.false_eq_true, if_false]; exact EXEC_iff.symm
  · simp only [exec]
    constructor
    · rintro ⟨k, hk⟩
      split at hk
      · rename_i t h1; exact absurd ⟨t, h1⟩ ht
      · cases hk
    · intro hk
      split at hk
      · rename_i t h1; exact absurd ⟨t, h1⟩ ht
      · cases hk
theorem E_both (p : AC) (x : Opd) (a b d : AC) (st : St) : EXEC C (.both p x a b d) st = match EXEC C p st with
    | some (.normal, st) => (match ev st.T x with
      | .d (.bool t) => EXEC C (.seq (if t then a else b) d) st
      | .ub => same (EXEC C (.seq a d) st) (EXEC C (.seq b d) st)
      | _ => none)
    | _ => none := by
  have hs : ∀ (c : CallF) n (a : AC) (st : St), thenX (exec c n a) (exec c n d) st = exec c n (.seq a d) st := fun c n a st => by simp only [exec, thenX]
  refine opt_ext fun r => ?_
  rw [EXEC_iff]
  constructor
  · rintro ⟨k, hk⟩
    simp only [exec] at hk
    split at hk
    · rename_i st1 hp
      rw [EXEC_iff.2 ⟨k, hp⟩]
      simp only
      split at hk
      · rename_i t ht
        rw [ht]
        cases t with
        | true => simp only [if_true, hs] at hk ⊢; exact EXEC_iff.2 ⟨k, hk⟩
        | false => simp only [Bool.false_eq_true, if_false, hs] at hk ⊢; exact EXEC_iff.2 ⟨k, hk⟩
      · rename_i ht
        rw [ht]
        simp only [hs] at hk
        unfold same at hk ⊢
        split at hk
        · rename_i he
          have h1 := EXEC_iff.2 ⟨k, hk⟩
          rw [he] at hk
          have h2 := EXEC_iff.2 ⟨k, hk⟩
          rw [if_pos (h1.trans h2.symm)]
          exact h1
        · cases hk
      · cases hk
    · cases hk
  · intro hr
    split at hr
    · rename_i st1 hp
      obtain ⟨k0, hp⟩ := EXEC_iff.1 hp
      split at hr
      · rename_i t ht
        obtain ⟨k1, h1⟩ := EXEC_iff.1 hr
        refine ⟨max k0 k1, ?_⟩
        simp only [exec, exec_le (Nat.le_max_left k0 k1) hp, ht]
        have h1 := exec_le (Nat.le_max_right k0 k1) h1
        cases t with
        | true => simp only [if_true, hs] at h1 ⊢; exact h1
        | false => simp only [Bool.false_eq_true, if_false, hs] at h1 ⊢; exact h1
      · rename_i ht
        unfold same at hr
        split at hr
        · rename_i he
          have hr2 := hr
          rw [he] at hr2
          obtain ⟨k1, h1⟩ := EXEC_iff.1 hr
          obtain ⟨k2, h2⟩ := EXEC_iff.1 hr2
          refine ⟨max k0 (max k1 k2), ?_⟩
          have g0 := exec_le (Nat.le_max_left k0 (max k1 k2)) hp
          have h1 := exec_le (show k1 ≤ max k0 (max k1 k2) by omega) h1
          have h2 := exec_le (show k2 ≤ max k0 (max k1 k2) by omega) h2
          unfold exec
          rw [g0]
          simp only [ht, hs]
          unfold same
          rw [if_pos (h1.trans h2.symm)]
          exact h1
        · cases hr
      · cases hr
    · cases hr
theorem E_blk (id : Nat) (a : AC) (st : St) : EXEC C (.blk id a) st = match EXEC C a st with | none => none | some (.exit i, st') => if i = id then some (.normal, st') else some (.exit i, st') | some (e, st') => some (e, st') := by
  refine opt_ext fun r => ?_
  rw [EXEC_iff]
  constructor
  · rintro ⟨k, hk⟩
    simp only [exec] at hk
    split at hk
    · cases hk
    · rename_i i st' h1
      rw [EXEC_iff.2 ⟨k, h1⟩]; exact hk
    · rename_i e st' hne h1
      rw [EXEC_iff.2 ⟨k, h1⟩]
      cases e with
      | exit i => exact (hne i rfl).elim
      | _ => exact hk
  · intro h
    split at h
    · cases h
    · rename_i i st' h1
      obtain ⟨k1, h1⟩ := EXEC_iff.1 h1
      exact ⟨k1, by simp only [exec, h1]; exact h⟩
    · rename_i e st' hne h1
      obtain ⟨k1, h1⟩ := EXEC_iff.1 h1
      refine ⟨k1, ?_⟩
      simp only [exec, h1]
      cases e with
      | exit i => exact (hne i rfl).elim
      | _ => exact h
theorem E_lp (a : AC) (st : St) : EXEC C (.lp a) st = LOOP C a st.n st := by
  refine opt_ext fun r => ?_
  rw [EXEC_iff, LOOP_iff]
  rfl
theorem E_loop (a : AC) (m : Nat) (st : St) : LOOP C a m st = match EXEC C a st with | none => none | some (.normal, st') => LOOP C a m (gc m st') | some (e, st') => some (e, st') := by
  refine opt_ext fun r => ?_
  rw [LOOP_iff]
  constructor
  · rintro ⟨k, hk⟩
    cases k with
    | zero => simp [loopN] at hk
    | succ k =>
      simp only [loopN] at hk
      split at hk
      · cases hk
      · rename_i st' h1
        rw [EXEC_iff.2 ⟨_, h1⟩]
        exact LOOP_iff.2 ⟨k + 1, loopN_mono (fun _ _ h => h) (Nat.le_succ k) hk⟩
      · rename_i e st' hne h1
        rw [EXEC_iff.2 ⟨_, h1⟩]
        cases e with
        | normal => exact (hne rfl).elim
        | _ => exact hk
  · intro h
    split at h
    · cases h
    · rename_i st' h1
      obtain ⟨k1, h1⟩ := EXEC_iff.1 h1
      obtain ⟨k2, h2⟩ := LOOP_iff.1 h
      refine ⟨max k1 k2 + 1, ?_⟩
      simp only [loopN]
      rw [exec_le (by omega : k1 ≤ max k1 k2 + 1) h1]
      exact loopN_mono (fun _ _ h => exec_le (by omega : k2 ≤ max k1 k2 + 1) h) (Nat.le_max_right k1 k2) h2
    · rename_i e st' hne h1
      obtain ⟨k1, h1⟩ := EXEC_iff.1 h1
      refine ⟨k1 + 1, ?_⟩
      simp only [loopN]
      rw [exec_le (Nat.le_succ k1) h1]
      cases e with
      | normal => exact (hne rfl).elim
      | _ => exact h

theorem RUN_intr {f : FuncId} {I : List D → Option (V × List Ob)} (h : C.intr f = some I) (ds : List D) : RUN C f ds = I ds := by
  refine opt_ext fun r => ?_
  rw [RUN_iff]
  constructor
  · rintro ⟨k, hk⟩
    cases k with
    | zero => simp [run] at hk
    | succ k => simpa [run, h] using hk
  · intro hr
    exact ⟨1, by simp only [run, h]; exact hr⟩

/-- What a function's end answers. -/
def done (keep : Bool) (res : List Rs) : Option (Ex × St) → Option (V × List Ob)
  | some (e, st) => if endOk e then
      (match fin res st with
       | some v => answer keep st.S v
       | none => none)
    else none
  | none => none

theorem RUN_fn {f : FuncId} {F : FnI} (hi : C.intr f = none) (h : C.fn f = some F) {ds : List D} (hl : ds.length = F.np) : RUN C f ds = done (C.keep f) F.res (EXEC C F.code (init ds)) := by
  refine opt_ext fun r => ?_
  rw [RUN_iff]
  constructor
  · rintro ⟨k, hk⟩
    cases k with
    | zero => simp [run] at hk
    | succ k =>
      simp only [run, hi, h, hl, if_true] at hk
      split at hk
      · rename_i e st he
        rw [EXEC_iff.2 ⟨k, he⟩]
        exact hk
      · cases hk
  · intro hr
    unfold done at hr
    split at hr
    · rename_i e st he
      obtain ⟨k, hk⟩ := EXEC_iff.1 he
      exact ⟨k + 1, by simp only [run, hi, h, hl, if_true, hk]; exact hr⟩
    · cases hr

theorem RUN_ok {P : Program} (hm : P.follows .mixedOrders = true) (hC : CfgOK P C) : FnOK P (RUN C) := by
  intro f ds r os h
  obtain ⟨k, hk⟩ := RUN_iff.1 h
  exact run_ok hm hC k f ds r os hk

end Go.R

namespace Go.R

def look : List (Nat × V) → Nat → V
  | [], _ => .junk
  | (j, v) :: l, i => if i = j then v else look l i
def setA (d : Nat) (v : V) : List (Nat × V) → List (Nat × V)
  | [] => [(d, v)]
  | (j, u) :: l => if j = d then (d, v) :: l else if d < j then (d, v) :: (j, u) :: l else (j, u) :: setA d v l
def putA (d : Option Nat) (v : V) (l : List (Nat × V)) : List (Nat × V) := match d with | some d => setA d v l | none => l
def keepA (live : List Nat) : List (Nat × V) → List (Nat × V)
  | [] => []
  | (j, v) :: l => if live.contains j = true then (j, v) :: keepA live l else keepA live l
/-- Objects that are written out, over a store. -/
def lookS (S0 : Store) : List (Nat × Ob) → Store
  | [], i => S0 i
  | (j, o) :: l, i => if i = j then some o else lookS S0 l i
def setS (d : Nat) (v : Ob) : List (Nat × Ob) → List (Nat × Ob)
  | [] => [(d, v)]
  | (j, u) :: l => if j = d then (d, v) :: l else (j, u) :: setS d v l

theorem look_set (d : Nat) (v : V) : ∀ l, look (setA d v l) = upd (look l) d v
  | [] => by funext i; simp [setA, look, upd]
  | (j, u) :: l => by
    funext i
    simp only [setA]
    split
    · rename_i h
      subst h
      simp only [look, upd]
      split <;> rfl
    · rename_i h
      split
      · simp only [look, upd]
      · simp only [look, look_set d v l, upd]
        split
        · rename_i h2
          subst h2
          rw [if_neg h]
        · rfl
theorem put_look (d : Option Nat) (v : V) (l : List (Nat × V)) : putT (look l) d v = look (putA d v l) := by
  cases d with
  | none => rfl
  | some d => exact (look_set d v l).symm
theorem keep_look (live : List Nat) : ∀ l, keepT live (look l) = look (keepA live l)
  | [] => by funext i; simp [keepT, keepA, look]
  | (j, v) :: l => by
    funext i
    have ih := congrFun (keep_look live l) i
    simp only [keepT] at ih
    by_cases hl : live.contains j = true
    · simp only [keepA, hl, if_true, look, keepT]
      by_cases hij : i = j
      · subst hij; rw [if_pos rfl, if_pos hl, if_pos rfl]
      · rw [if_neg hij, if_neg hij]; exact ih
    · simp only [keepA, hl, keepT, look]
      by_cases hij : i = j
      · subst hij
        rw [if_neg hl]
        simp only [Bool.not_eq_true] at hl
        simp only [hl, Bool.false_eq_true, if_false] at ih ⊢
        exact ih
      · rw [if_neg hij]
        simp only [Bool.not_eq_true] at hl
        simp only [hl, Bool.false_eq_true, if_false]
        exact ih
theorem lookS_set (S0 : Store) (d : Nat) (v : Ob) : ∀ l, lookS S0 (setS d v l) = upd (lookS S0 l) d (some v)
  | [] => by funext i; simp [setS, lookS, upd]
  | (j, u) :: l => by
    funext i
    simp only [setS]
    split
    · rename_i h
      subst h
      simp only [lookS, upd]
      split <;> rfl
    · rename_i h
      simp only [lookS, lookS_set S0 d v l, upd]
      split
      · rename_i h2
        subst h2
        rw [if_neg h]
      · rfl

def putAllS (sl : List (Nat × Ob)) : List Nat → List Ob → List (Nat × Ob)
  | k :: ks, o :: os => putAllS (setS k o sl) ks os
  | _, _ => sl
def putNewS (sl : List (Nat × Ob)) (n : Nat) : List Ob → List (Nat × Ob)
  | [] => sl
  | o :: r => putNewS (setS n o sl) (n + 1) r
theorem putAll_look (S0 : Store) : ∀ (ks : List Nat) (os : List Ob) (sl : List (Nat × Ob)), putAll (lookS S0 sl) ks os = lookS S0 (putAllS sl ks os)
  | [], os, sl => by cases os <;> rfl
  | k :: ks, [], sl => rfl
  | k :: ks, o :: os, sl => by simp only [putAll, putAllS, ← lookS_set]; exact putAll_look S0 ks os _
theorem putNew_look (S0 : Store) : ∀ (os : List Ob) (n : Nat) (sl : List (Nat × Ob)), putNew (lookS S0 sl) n os = lookS S0 (putNewS sl n os)
  | [], n, sl => rfl
  | o :: os, n, sl => by simp only [putNew, putNewS, ← lookS_set]; exact putNew_look S0 os _ _

/-- A state that is written out. -/
abbrev stA (al : List (Nat × V)) (S0 : Store) (sl : List (Nat × Ob)) (n : Nat) : St := ⟨look al, lookS S0 sl, n⟩
/-- No objects. -/
def nos : Store := fun _ => none

def initA : Nat → List D → List (Nat × V)
  | _, [] => []
  | k, x :: l => (k, .d x) :: initA (k + 1) l
theorem init_look (ds : List D) : init ds = stA (initA 0 ds) nos [] 0 := by
  have : ∀ (ds : List D) (k i : Nat), look (initA k ds) i = if k ≤ i then (match ds[i - k]? with | some x => .d x | none => .junk) else .junk := by
    intro ds
    induction ds with
    | nil => intro k i; simp [initA, look]
    | cons x l ih =>
      intro k i
      simp only [initA, look, ih]
      by_cases h : i = k
      · subst h; simp
      · by_cases h2 : k ≤ i
        · rw [if_neg h, if_pos (by omega : k + 1 ≤ i), if_pos h2]
          rw [show i - k = (i - (k + 1)) + 1 by omega]
          simp
        · rw [if_neg h, if_neg (by omega), if_neg h2]
  unfold init stA
  congr 1
  funext i
  rw [this]
  simp only [Nat.zero_le, if_true, Nat.sub_zero]
  rfl

/-- The rest of a function's work: code, and the ends of blocks. -/
inductive Kt where
  | code (a : AC)
  | blk (id : Nat)
  | lp (live : List Nat) (b : AC) (m : Nat)

noncomputable def go (C : Cfg) : List Kt → Option (Ex × St) → Option (Ex × St)
  | [], r => r
  | .code a :: k, some (.normal, st) => go C k (EXEC C a st)
  | .code _ :: k, r => go C k r
  | .blk id :: k, some (.exit i, st) => if i = id then go C k (some (.normal, st)) else go C k (some (.exit i, st))
  | .blk _ :: k, r => go C k r
  | .lp live b m :: k, some (.normal, st) => go C k (LOOP C (.kl live b) m (gc m st))
  | .lp _ _ _ :: k, r => go C k r

variable {C : Cfg}
theorem go_none (k : List Kt) : go C k none = none := by
  induction k with
  | nil => rfl
  | cons x k ih => cases x <;> simpa [go] using ih

theorem go_start (a : AC) (st : St) : EXEC C a st = go C [.code a] (some (.normal, st)) := rfl
theorem go_skip (k : List Kt) (st : St) : go C (.code .skip :: k) (some (.normal, st)) = go C k (some (.normal, st)) := by simp only [go, E_skip]
theorem go_exit (id : Nat) (k : List Kt) (st : St) : go C (.code (.exit id) :: k) (some (.normal, st)) = go C k (some (.exit id, st)) := by simp only [go, E_exit]
theorem go_ret (k : List Kt) (st : St) : go C (.code .ret :: k) (some (.normal, st)) = go C k (some (.ret, st)) := by simp only [go, E_ret]
theorem go_kl (live : List Nat) (a : AC) (k : List Kt) (al : List (Nat × V)) (S0 : Store) (sl : List (Nat × Ob)) (n : Nat) : go C (.code (.kl live a) :: k) (some (.normal, stA al S0 sl n)) = go C (.code a :: k) (some (.normal, stA (keepA live al) S0 sl n)) := by
  simp only [go, E_kl, keep_look]
theorem go_seq (a b : AC) (k : List Kt) (st : St) : go C (.code (.seq a b) :: k) (some (.normal, st)) = go C (.code a :: .code b :: k) (some (.normal, st)) := by
  simp only [go, E_seq]
  cases h : EXEC C a st with
  | none => simp only [go_none, go]
  | some p =>
    obtain ⟨e, st'⟩ := p
    cases e <;> simp [go]
/-- A fork: not looked into before it is known which way. -/
noncomputable def cd (C : Cfg) (k : List Kt) (a b : AC) (st : St) (x : V) : Option (Ex × St) := match x with | .d (.bool t) => if t = true then go C (.code a :: k) (some (.normal, st)) else go C (.code b :: k) (some (.normal, st)) | _ => none
theorem go_cond (x : Opd) (a b : AC) (k : List Kt) (st : St) : go C (.code (.cond x a b) :: k) (some (.normal, st)) = cd C k a b st (ev st.T x) := by
  simp only [go, E_cond, cd]
  cases hx : ev st.T x with
  | d y =>
    cases y with
    | bool t => cases t <;> rfl
    | _ => exact go_none k
  | _ => exact go_none k
theorem cd_true (k : List Kt) (a b : AC) (st : St) : cd C k a b st (.d (.bool true)) = go C (.code a :: k) (some (.normal, st)) := rfl
theorem cd_false (k : List Kt) (a b : AC) (st : St) : cd C k a b st (.d (.bool false)) = go C (.code b :: k) (some (.normal, st)) := rfl
@[congr] theorem cd_congr {k : List Kt} {a b : AC} {st : St} {x y : V} (h : x = y) : cd C k a b st x = cd C k a b st y := by rw [h]
theorem cd_split {X : Option (V × List Ob)} {kr : Bool} {res : List Rs} {k : List Kt} {a b : AC} {st : St} {x : Bool} (h1 : x = true → done kr res (go C (.code a :: k) (some (.normal, st))) = X) (h2 : x = false → done kr res (go C (.code b :: k) (some (.normal, st))) = X) : done kr res (cd C k a b st (.d (.bool x))) = X := by
  cases x with
  | true => exact h1 rfl
  | false => exact h2 rfl
theorem cd_fork {X : Option (Ex × St)} {k : List Kt} {a b : AC} {st : St} {x : Bool} (h1 : x = true → go C (.code a :: k) (some (.normal, st)) = X) (h2 : x = false → go C (.code b :: k) (some (.normal, st)) = X) : cd C k a b st (.d (.bool x)) = X := by
  cases x with
  | true => exact h1 rfl
  | false => exact h2 rfl
@[congr] theorem go_congr {k : List Kt} {r r' : Option (Ex × St)} (h : r = r') : go C k r = go C k r' := by rw [h]
/-- A fork that may be one of an unknown bool. -/
noncomputable def bo (C : Cfg) (k : List Kt) (a b d : AC) (st : St) (x : V) : Option (Ex × St) := match x with
  | .d (.bool t) => if t = true then go C (.code a :: .code d :: k) (some (.normal, st)) else go C (.code b :: .code d :: k) (some (.normal, st))
  | .ub => go C k (same (go C [.code a, .code d] (some (.normal, st))) (go C [.code b, .code d] (some (.normal, st))))
  | _ => none
noncomputable def boK (C : Cfg) (k : List Kt) (x : Opd) (a b d : AC) : Option (Ex × St) → Option (Ex × St)
  | some (.normal, st) => bo C k a b d st (ev st.T x)
  | _ => none
theorem go_both (p : AC) (x : Opd) (a b d : AC) (k : List Kt) (st : St) : go C (.code (.both p x a b d) :: k) (some (.normal, st)) = boK C k x a b d (go C [.code p] (some (.normal, st))) := by
  have h2 : ∀ (a : AC) (st : St) (k : List Kt), go C (.code a :: .code d :: k) (some (.normal, st)) = go C k (go C [.code a, .code d] (some (.normal, st))) := by
    intro a st k
    simp only [go]
    cases h : EXEC C a st with
    | none => simp only [go_none, go]
    | some q =>
      obtain ⟨e, st'⟩ := q
      cases e <;> simp [go]
  have h1 : ∀ (a : AC) (st : St), go C [.code a, .code d] (some (.normal, st)) = EXEC C (.seq a d) st := by
    intro a st
    simp only [go, E_seq]
    cases h : EXEC C a st with
    | none => rfl
    | some q =>
      obtain ⟨e, st'⟩ := q
      cases e <;> simp [go]
  show go C k (EXEC C (.both p x a b d) st) = boK C k x a b d (EXEC C p st)
  rw [E_both]
  cases h : EXEC C p st with
  | none => simp only [boK, go_none]
  | some q =>
    obtain ⟨e, st1⟩ := q
    cases e with
    | normal =>
      simp only [boK, bo]
      cases hx : ev st1.T x with
      | d y =>
        cases y with
        | bool t =>
          cases t with
          | true => simp only [if_true]; rw [h2 a, h1]
          | false => simp only [Bool.false_eq_true, if_false]; rw [h2 b, h1]
        | _ => simp only [go_none]
      | ub => simp only [h1]
      | _ => simp only [go_none]
    | _ => simp only [boK, go_none]
theorem boK_n (k : List Kt) (x : Opd) (a b d : AC) (st : St) : boK C k x a b d (some (.normal, st)) = bo C k a b d st (ev st.T x) := rfl
theorem bo_true (k : List Kt) (a b d : AC) (st : St) : bo C k a b d st (.d (.bool true)) = go C (.code a :: .code d :: k) (some (.normal, st)) := rfl
theorem bo_false (k : List Kt) (a b d : AC) (st : St) : bo C k a b d st (.d (.bool false)) = go C (.code b :: .code d :: k) (some (.normal, st)) := rfl
theorem bo_ub (k : List Kt) (a b d : AC) (st : St) : bo C k a b d st .ub = go C k (same (go C [.code a, .code d] (some (.normal, st))) (go C [.code b, .code d] (some (.normal, st)))) := rfl
@[congr] theorem bo_congr {k : List Kt} {a b d : AC} {st : St} {x y : V} (h : x = y) : bo C k a b d st x = bo C k a b d st y := by rw [h]
@[congr] theorem boK_congr {k : List Kt} {x : Opd} {a b d : AC} {r r' : Option (Ex × St)} (h : r = r') : boK C k x a b d r = boK C k x a b d r' := by rw [h]
theorem same_self (x : Option (Ex × St)) : same x x = x := by simp [same]
theorem go_blk (id : Nat) (a : AC) (k : List Kt) (st : St) : go C (.code (.blk id a) :: k) (some (.normal, st)) = go C (.code a :: .blk id :: k) (some (.normal, st)) := by
  simp only [go, E_blk]
  cases h : EXEC C a st with
  | none => simp only [go_none, go]
  | some p =>
    obtain ⟨e, st'⟩ := p
    cases e with
    | exit i => simp only [go]; split <;> rfl
    | _ => simp [go]
theorem go_blk_n (id : Nat) (k : List Kt) (st : St) : go C (.blk id :: k) (some (.normal, st)) = go C k (some (.normal, st)) := rfl
theorem go_blk_r (id : Nat) (k : List Kt) (st : St) : go C (.blk id :: k) (some (.ret, st)) = go C k (some (.ret, st)) := rfl
theorem go_blk_e (id i : Nat) (k : List Kt) (st : St) : go C (.blk id :: k) (some (.exit i, st)) = if i = id then go C k (some (.normal, st)) else go C k (some (.exit i, st)) := rfl
theorem go_code_r (a : AC) (k : List Kt) (st : St) : go C (.code a :: k) (some (.ret, st)) = go C k (some (.ret, st)) := rfl
theorem go_code_e (a : AC) (i : Nat) (k : List Kt) (st : St) : go C (.code a :: k) (some (.exit i, st)) = go C k (some (.exit i, st)) := rfl
theorem go_nil (r : Option (Ex × St)) : go C [] r = r := rfl
theorem go_LOOP (live : List Nat) (b : AC) (m : Nat) (k : List Kt) (al : List (Nat × V)) (S0 : Store) (sl : List (Nat × Ob)) (n : Nat) : go C k (LOOP C (.kl live b) m (stA al S0 sl n)) = go C (.code b :: .lp live b m :: k) (some (.normal, stA (keepA live al) S0 sl n)) := by
  rw [E_loop, E_kl]
  simp only [go, keep_look]
  cases h : EXEC C b ⟨look (keepA live al), lookS S0 sl, n⟩ with
  | none => simp only [go_none, go]
  | some p =>
    obtain ⟨e, st'⟩ := p
    cases e <;> simp [go]
theorem go_lp (live : List Nat) (b : AC) (k : List Kt) (al : List (Nat × V)) (S0 : Store) (sl : List (Nat × Ob)) (n : Nat) : go C (.code (.lp (.kl live b)) :: k) (some (.normal, stA al S0 sl n)) = go C (.code b :: .lp live b n :: k) (some (.normal, stA (keepA live al) S0 sl n)) := by
  rw [← go_LOOP]
  simp only [go, E_lp]

def gcSl (S : Store) (m : Nat) : List (Nat × Ob) → List (Nat × Ob)
  | [] => []
  | (k, o) :: l => if kp m k = true then (k, gcOb S m o) :: gcSl S m l else gcSl S m l
/-- The base after a round. -/
def gcB (S S0 : Store) (m : Nat) : Store := fun k => if kp m k = true then (S0 k).map (gcOb S m) else none
theorem gcB_nos (S : Store) (m : Nat) : gcB S nos m = nos := by funext k; simp [gcB, nos]
def gcAl (S : Store) (m : Nat) : List (Nat × V) → List (Nat × V)
  | [] => []
  | (k, v) :: l => (k, gcC S m v) :: gcAl S m l
theorem gcC_junk (S : Store) (m : Nat) : gcC S m .junk = .junk := rfl
theorem gcAl_look (S : Store) (m : Nat) : ∀ (al : List (Nat × V)) (i : Nat), look (gcAl S m al) i = gcC S m (look al i)
  | [], i => rfl
  | (k, v) :: l, i => by simp only [gcAl, look]; split; rfl; exact gcAl_look S m l i
theorem gcSl_look (S S0 : Store) (m : Nat) : ∀ (sl : List (Nat × Ob)) (i : Nat), lookS (gcB S S0 m) (gcSl S m sl) i = if kp m i = true then (lookS S0 sl i).map (gcOb S m) else none
  | [], i => by simp [gcSl, lookS, gcB]
  | (k, o) :: l, i => by
    simp only [gcSl]
    split
    · rename_i hk
      simp only [lookS]
      by_cases h : i = k
      · subst h; rw [if_pos rfl, if_pos hk, if_pos rfl]; rfl
      · rw [if_neg h, if_neg h]; exact gcSl_look S S0 m l i
    · rename_i hk
      rw [gcSl_look S S0 m l i]
      simp only [lookS]
      by_cases h : i = k
      · subst h; rw [if_neg hk, if_neg hk]
      · rw [if_neg h]
theorem keep_gc (live : List Nat) (S : Store) (m : Nat) : ∀ al, keepA live (gcAl S m al) = gcAl S m (keepA live al)
  | [] => rfl
  | (k, v) :: l => by simp only [gcAl, keepA]; split <;> simp only [gcAl, keep_gc live S m l]
theorem gc_look (m : Nat) (al : List (Nat × V)) (S0 : Store) (sl : List (Nat × Ob)) (n : Nat) : gc m (stA al S0 sl n) = stA (gcAl (lookS S0 sl) m al) (gcB (lookS S0 sl) S0 m) (gcSl (lookS S0 sl) m sl) m := by
  unfold gc stA
  congr 1
  · funext i; exact (gcAl_look _ _ _ _).symm
  · funext i; exact (gcSl_look _ _ _ _ _).symm
theorem go_att (x : Opd) (kk : Nat) (key : Opd) (a : AC) (k : List Kt) (al : List (Nat × V)) (S0 : Store) (sl : List (Nat × Ob)) (n : Nat) : go C (.code (.att x kk key a) :: k) (some (.normal, stA al S0 sl n)) = go C (.code a :: k) (some (.normal, stA al (attach (lookS S0 sl) (ev (look al) x) kk (ev (look al) key)) [] n)) := by
  simp only [go, E_att]; rfl
theorem go_back (live : List Nat) (b : AC) (m : Nat) (k : List Kt) (al : List (Nat × V)) (S0 : Store) (sl : List (Nat × Ob)) (n : Nat) : go C (.lp live b m :: k) (some (.normal, stA al S0 sl n)) = go C (.code b :: .lp live b m :: k) (some (.normal, stA (gcAl (lookS S0 sl) m (keepA live al)) (gcB (lookS S0 sl) S0 m) (gcSl (lookS S0 sl) m sl) m)) := by
  rw [← keep_gc, ← go_LOOP, ← gc_look]
  rfl
theorem go_lp_r (live : List Nat) (b : AC) (m : Nat) (k : List Kt) (st : St) : go C (.lp live b m :: k) (some (.ret, st)) = go C k (some (.ret, st)) := rfl
theorem go_lp_e (live : List Nat) (b : AC) (m : Nat) (i : Nat) (k : List Kt) (st : St) : go C (.lp live b m :: k) (some (.exit i, st)) = go C k (some (.exit i, st)) := rfl
theorem go_unf {a b : AC} (h : a = b) (k : List Kt) (r : Option (Ex × St)) : go C (.code a :: k) r = go C (.code b :: k) r := by rw [h]

/-! ### operations one after the other -/
/-- The rest of a region: `ps`: the pairs of a drawn one, `fs`: the footprints so far, last first. -/
noncomputable def goR (C : Cfg) (ps : Option (List (Nat × Nat))) (k : List Kt) : List AI → List Fp → Option St → Option (Ex × St)
  | _, _, none => none
  | [], fs, some st => match ps with
    | none => if st.n ≤ BB then go C k (some (.normal, st)) else none
    | some ps => if pairsOk fs.reverse ps = true ∧ st.n ≤ BB then go C k (some (.normal, st)) else none
  | i :: l, fs, some st => match stepI (RUN C) i st with
    | some (st', f) => goR C ps k l (f :: fs) (some st')
    | none => none

theorem goR_eq (ps : Option (List (Nat × Nat))) (k : List Kt) : ∀ (l : List AI) (fs : List Fp) (st : St), goR C ps k l fs (some st) = match ops (RUN C) l st with
    | some (st', gs) => goR C ps k [] (gs.reverse ++ fs) (some st')
    | none => none
  | [], fs, st => by simp [ops]
  | i :: l, fs, st => by
    simp only [goR, ops]
    cases h : stepI (RUN C) i st with
    | none => rfl
    | some p =>
      obtain ⟨st', f⟩ := p
      simp only [goR_eq ps k l]
      cases h2 : ops (RUN C) l st' with
      | none => rfl
      | some q => obtain ⟨st2, gs⟩ := q; simp [goR]

theorem go_rg (l : List AI) (k : List Kt) (st : St) : go C (.code (.rg l) :: k) (some (.normal, st)) = goR C none k l [] (some st) := by
  rw [goR_eq]
  simp only [go, E_rg]
  cases h : ops (RUN C) l st with
  | none => exact go_none k
  | some q =>
    obtain ⟨st2, gs⟩ := q
    simp only [goR, List.append_nil]
    split
    · rfl
    · exact go_none k
theorem go_rgd (l : List AI) (ps : List (Nat × Nat)) (k : List Kt) (st : St) : go C (.code (.rgd l ps) :: k) (some (.normal, st)) = goR C (some ps) k l [] (some st) := by
  rw [goR_eq]
  simp only [go, E_rgd]
  cases h : ops (RUN C) l st with
  | none => exact go_none k
  | some q =>
    obtain ⟨st2, gs⟩ := q
    simp only [goR, List.append_nil, List.reverse_reverse]
    split
    · rfl
    · exact go_none k
theorem goR_nil (k : List Kt) (fs : List Fp) (al : List (Nat × V)) (S0 : Store) (sl : List (Nat × Ob)) (n : Nat) : goR C none k [] fs (some (stA al S0 sl n)) = if n ≤ 18446744073709551616 then go C k (some (.normal, stA al S0 sl n)) else none := rfl
theorem goR_nild (ps : List (Nat × Nat)) (k : List Kt) (fs : List Fp) (al : List (Nat × V)) (S0 : Store) (sl : List (Nat × Ob)) (n : Nat) : goR C (some ps) k [] fs (some (stA al S0 sl n)) = if pairsOk fs.reverse ps = true ∧ n ≤ 18446744073709551616 then go C k (some (.normal, stA al S0 sl n)) else none := rfl

/-- One operation that is no call, done on a state that is written out. -/
def stepA (d : Option Nat) (op : AOp) (al : List (Nat × V)) (S0 : Store) (sl : List (Nat × Ob)) (n : Nat) : Option (List (Nat × V) × List (Nat × Ob) × Nat × Fp) :=
  match aop n op (ev (look al)) with
  | none => none
  | some r => match mapO (lookS S0 sl) r.ids with
    | none => none
    | some os => match r.act os with
      | none => none
      | some (v, os', news) => some (putA d v al, putNewS (if isSt op = true then putAllS sl r.ids os' else sl) n news, n + news.length, ⟨r.ids, isSt op, n, n + news.length⟩)

/-- The rest of a region behind a step. -/
noncomputable def contR (C : Cfg) (ps : Option (List (Nat × Nat))) (k : List Kt) (l : List AI) (fs : List Fp) (S0 : Store) : Option (List (Nat × V) × List (Nat × Ob) × Nat × Fp) → Option (Ex × St)
  | some (al, sl, n, f) => goR C ps k l (f :: fs) (some (stA al S0 sl n))
  | none => none

def isCall : AOp → Bool
  | .mv _ => false
  | .nilv _ _ => false
  | .pick _ _ _ => false
  | .nbox _ _ => false
  | .box _ _ _ => false
  | .build _ _ => false
  | .bsl _ _ _ _ _ => false
  | .ld _ _ _ => false
  | .st _ _ _ => false
  | .bin _ _ _ => false
  | .beq _ _ _ => false
  | .isn _ _ => false
  | .eqa _ _ _ _ => false
  | .un _ _ => false
  | .fa _ _ => false
  | .fld _ _ _ _ => false
  | .ia _ _ _ => false
  | .slc _ _ _ _ => false
  | .mks _ _ _ _ _ _ => false
  | .ext _ _ => false
  | .call _ _ => true
  | .len _ _ => false
  | .app _ _ _ _ _ => false
  | .mx _ => false
  | .mn _ => false
  | .mkf _ _ _ => false
  | .mkmap => false
  | .lkp _ _ _ _ _ => false
  | .mup _ _ _ _ => false

theorem goR_op (ps : Option (List (Nat × Nat))) (k : List Kt) (d : Option Nat) (op : AOp) (hop : isCall op = false) (l : List AI) (fs : List Fp) (al : List (Nat × V)) (S0 : Store) (sl : List (Nat × Ob)) (n : Nat) :
    goR C ps k (⟨d, op, none⟩ :: l) fs (some (stA al S0 sl n)) = contR C ps k l fs S0 (stepA d op al S0 sl n) := by
  have hne : ∀ f xs, op = .call f xs → False := fun f xs e => by rw [e] at hop; cases hop
  simp only [goR, stepI_op (i := ⟨d, op, none⟩) hne rfl, stepA]
  cases h1 : aop n op (ev (look al)) with
  | none => rfl
  | some r =>
    cases h2 : mapO (lookS S0 sl) r.ids with
    | none => simp only [h2]; rfl
    | some os =>
      simp only [h2]
      cases h3 : r.act os with
      | none => simp only; rfl
      | some p =>
        obtain ⟨v, os', news⟩ := p
        have hp : putAll (lookS S0 sl) r.ids os' = lookS S0 (if isSt op = true then putAllS sl r.ids os' else sl) := by
          by_cases hs : isSt op = true
          · rw [if_pos hs, putAll_look]
          · rw [if_neg hs]
            simp only [Bool.not_eq_true] at hs
            rcases isSt_false h1 hs h3 with rfl | h4
            · exact putAll_self h2
            · rw [h4]; cases os' <;> rfl
        simp only [contR, put_look, hp, putNew_look]

/-- A guarded operation: not looked into before it is known whether it is wanted. -/
noncomputable def sk (C : Cfg) (ps : Option (List (Nat × Nat))) (k : List Kt) (d : Option Nat) (op : AOp) (l : List AI) (fs : List Fp) (al : List (Nat × V)) (S0 : Store) (sl : List (Nat × Ob)) (n : Nat) (x : V) (b : Bool) : Option (Ex × St) :=
  match x with
  | .d (.bool x) => if x = b then goR C ps k (⟨d, op, none⟩ :: l) fs (some (stA al S0 sl n)) else goR C ps k l (⟨[], false, n, n⟩ :: fs) (some (stA (putA d .un al) S0 sl n))
  | .un => goR C ps k l (⟨[], false, n, n⟩ :: fs) (some (stA (putA d .un al) S0 sl n))
  | _ => none
theorem goR_skip (ps : Option (List (Nat × Nat))) (k : List Kt) (d : Option Nat) (op : AOp) (g : Nat × Bool) (l : List AI) (fs : List Fp) (al : List (Nat × V)) (S0 : Store) (sl : List (Nat × Ob)) (n : Nat) :
    goR C ps k (⟨d, op, some g⟩ :: l) fs (some (stA al S0 sl n)) = sk C ps k d op l fs al S0 sl n (look al g.1) g.2 := by
  unfold sk
  obtain ⟨t, b⟩ := g
  simp only
  cases h : look al t with
  | d x =>
    cases x with
    | bool x =>
      simp only
      by_cases hb : x = b
      · subst hb
        rw [if_pos rfl]
        simp only [goR]
        have hw : wants (look al) (some (t, x)) = some true := by simp [wants, h]
        have : stepI (RUN C) ⟨d, op, some (t, x)⟩ (stA al S0 sl n) = stepI (RUN C) ⟨d, op, none⟩ (stA al S0 sl n) := by
          unfold stepI
          simp only [hw]
          rfl
        rw [this]
      · rw [if_neg hb]
        simp only [goR]
        have hw : wants (look al) (some (t, b)) = some false := by
          simp only [wants, h]
          congr 1
          simpa using hb
        have : stepI (RUN C) ⟨d, op, some (t, b)⟩ (stA al S0 sl n) = some (⟨look (putA d .un al), lookS S0 sl, n⟩, ⟨[], false, n, n⟩) := by
          unfold stepI
          simp only [hw, put_look]
        rw [this]
    | _ =>
      have hw : wants (look al) (some (t, b)) = none := by simp only [wants, h]
      simp only [goR]
      unfold stepI
      simp only [hw]
  | un =>
    simp only [goR]
    have hw : wants (look al) (some (t, b)) = some false := by simp only [wants, h]
    have : stepI (RUN C) ⟨d, op, some (t, b)⟩ (stA al S0 sl n) = some (⟨look (putA d .un al), lookS S0 sl, n⟩, ⟨[], false, n, n⟩) := by
      unfold stepI
      simp only [hw, put_look]
    rw [this]
  | _ =>
    have hw : wants (look al) (some (t, b)) = none := by simp only [wants, h]
    simp only [goR]
    unfold stepI
    simp only [hw]

theorem sk_un (ps : Option (List (Nat × Nat))) (k : List Kt) (d : Option Nat) (op : AOp) (l : List AI) (fs : List Fp) (al : List (Nat × V)) (S0 : Store) (sl : List (Nat × Ob)) (n : Nat) (b : Bool) : sk C ps k d op l fs al S0 sl n .un b = goR C ps k l (⟨[], false, n, n⟩ :: fs) (some (stA (putA d .un al) S0 sl n)) := rfl
theorem sk_tt (ps : Option (List (Nat × Nat))) (k : List Kt) (d : Option Nat) (op : AOp) (l : List AI) (fs : List Fp) (al : List (Nat × V)) (S0 : Store) (sl : List (Nat × Ob)) (n : Nat) : sk C ps k d op l fs al S0 sl n (.d (.bool true)) true = goR C ps k (⟨d, op, none⟩ :: l) fs (some (stA al S0 sl n)) := rfl
theorem sk_ff (ps : Option (List (Nat × Nat))) (k : List Kt) (d : Option Nat) (op : AOp) (l : List AI) (fs : List Fp) (al : List (Nat × V)) (S0 : Store) (sl : List (Nat × Ob)) (n : Nat) : sk C ps k d op l fs al S0 sl n (.d (.bool false)) false = goR C ps k (⟨d, op, none⟩ :: l) fs (some (stA al S0 sl n)) := rfl
theorem sk_tf (ps : Option (List (Nat × Nat))) (k : List Kt) (d : Option Nat) (op : AOp) (l : List AI) (fs : List Fp) (al : List (Nat × V)) (S0 : Store) (sl : List (Nat × Ob)) (n : Nat) : sk C ps k d op l fs al S0 sl n (.d (.bool true)) false = goR C ps k l (⟨[], false, n, n⟩ :: fs) (some (stA (putA d .un al) S0 sl n)) := rfl
theorem sk_ft (ps : Option (List (Nat × Nat))) (k : List Kt) (d : Option Nat) (op : AOp) (l : List AI) (fs : List Fp) (al : List (Nat × V)) (S0 : Store) (sl : List (Nat × Ob)) (n : Nat) : sk C ps k d op l fs al S0 sl n (.d (.bool false)) true = goR C ps k l (⟨[], false, n, n⟩ :: fs) (some (stA (putA d .un al) S0 sl n)) := rfl
@[congr] theorem sk_congr {ps : Option (List (Nat × Nat))} {k : List Kt} {d : Option Nat} {op : AOp} {l : List AI} {fs : List Fp} {al : List (Nat × V)} {S0 : Store} {sl : List (Nat × Ob)} {n : Nat} {x y : V} {b : Bool} (h : x = y) : sk C ps k d op l fs al S0 sl n x b = sk C ps k d op l fs al S0 sl n y b := by rw [h]
theorem sk_split {X : Option (V × List Ob)} {kr : Bool} {res : List Rs} {ps : Option (List (Nat × Nat))} {k : List Kt} {d : Option Nat} {op : AOp} {l : List AI} {fs : List Fp} {al : List (Nat × V)} {S0 : Store} {sl : List (Nat × Ob)} {n : Nat} {x b : Bool} (h1 : x = true → done kr res (sk C ps k d op l fs al S0 sl n (.d (.bool true)) b) = X) (h2 : x = false → done kr res (sk C ps k d op l fs al S0 sl n (.d (.bool false)) b) = X) : done kr res (sk C ps k d op l fs al S0 sl n (.d (.bool x)) b) = X := by
  cases x with
  | true => exact h1 rfl
  | false => exact h2 rfl
theorem sk_fork {X : Option (Ex × St)} {ps : Option (List (Nat × Nat))} {k : List Kt} {d : Option Nat} {op : AOp} {l : List AI} {fs : List Fp} {al : List (Nat × V)} {S0 : Store} {sl : List (Nat × Ob)} {n : Nat} {x b : Bool} (h1 : x = true → sk C ps k d op l fs al S0 sl n (.d (.bool true)) b = X) (h2 : x = false → sk C ps k d op l fs al S0 sl n (.d (.bool false)) b = X) : sk C ps k d op l fs al S0 sl n (.d (.bool x)) b = X := by
  cases x with
  | true => exact h1 rfl
  | false => exact h2 rfl
@[congr] theorem goR_congr {ps : Option (List (Nat × Nat))} {k : List Kt} {l l' : List AI} {fs fs' : List Fp} {st st' : Option St} (h : l = l') (h1 : fs = fs') (h2 : st = st') : goR C ps k l fs st = goR C ps k l' fs' st' := by rw [h, h1, h2]

theorem goR_fs (k : List Kt) : ∀ (l : List AI) (fs gs : List Fp) (st : Option St), goR C none k l fs st = goR C none k l gs st
  | _, _, _, none => by simp [goR]
  | [], fs, gs, some st => rfl
  | i :: l, fs, gs, some st => by
    simp only [goR]
    cases stepI (RUN C) i st with
    | none => rfl
    | some p => exact goR_fs k l _ _ _

/-- The rest of a region in the text's order. -/
noncomputable def contN (C : Cfg) (k : List Kt) (l : List AI) (S0 : Store) : Option (List (Nat × V) × List (Nat × Ob) × Nat × Fp) → Option (Ex × St)
  | some (al, sl, n, _) => goR C none k l [] (some (stA al S0 sl n))
  | none => none

@[congr] theorem contN_congr {k : List Kt} {l : List AI} {S0 : Store} {x y : Option (List (Nat × V) × List (Nat × Ob) × Nat × Fp)} (h : x = y) : contN C k l S0 x = contN C k l S0 y := by rw [h]
@[congr] theorem contR_congr {ps : Option (List (Nat × Nat))} {k : List Kt} {l : List AI} {fs : List Fp} {S0 : Store} {x y : Option (List (Nat × V) × List (Nat × Ob) × Nat × Fp)} (h : x = y) : contR C ps k l fs S0 x = contR C ps k l fs S0 y := by rw [h]
theorem contN_some (k : List Kt) (l : List AI) (al : List (Nat × V)) (S0 : Store) (sl : List (Nat × Ob)) (n : Nat) (f : Fp) : contN C k l S0 (some (al, sl, n, f)) = goR C none k l [] (some (stA al S0 sl n)) := rfl
theorem contR_some (ps : Option (List (Nat × Nat))) (k : List Kt) (l : List AI) (fs : List Fp) (al : List (Nat × V)) (S0 : Store) (sl : List (Nat × Ob)) (n : Nat) (f : Fp) : contR C ps k l fs S0 (some (al, sl, n, f)) = goR C ps k l (f :: fs) (some (stA al S0 sl n)) := rfl

theorem goN_op (k : List Kt) (d : Option Nat) (op : AOp) (hop : isCall op = false) (l : List AI) (fs : List Fp) (al : List (Nat × V)) (S0 : Store) (sl : List (Nat × Ob)) (n : Nat) :
    goR C none k (⟨d, op, none⟩ :: l) fs (some (stA al S0 sl n)) = contN C k l S0 (stepA d op al S0 sl n) := by
  rw [goR_op _ _ _ _ hop]
  cases stepA d op al S0 sl n with
  | none => rfl
  | some p => obtain ⟨al', sl', n', f⟩ := p; exact goR_fs k l _ _ _

theorem goN_mv (k : List Kt) (d : Option Nat) (x : Opd) (l : List AI) (fs : List Fp) (al : List (Nat × V)) (S0 : Store) (sl : List (Nat × Ob)) (n : Nat) : goR C none k (⟨d, .mv x, none⟩ :: l) fs (some (stA al S0 sl n)) = contN C k l S0 (stepA d (.mv x) al S0 sl n) := goN_op _ _ _ rfl _ _ _ _ _ _
theorem goD_mv (pr : List (Nat × Nat)) (k : List Kt) (d : Option Nat) (x : Opd) (l : List AI) (fs : List Fp) (al : List (Nat × V)) (S0 : Store) (sl : List (Nat × Ob)) (n : Nat) : goR C (some pr) k (⟨d, .mv x, none⟩ :: l) fs (some (stA al S0 sl n)) = contR C (some pr) k l fs S0 (stepA d (.mv x) al S0 sl n) := goR_op _ _ _ _ rfl _ _ _ _ _ _
theorem goN_nilv (k : List Kt) (d : Option Nat) (E s : Nat) (l : List AI) (fs : List Fp) (al : List (Nat × V)) (S0 : Store) (sl : List (Nat × Ob)) (n : Nat) : goR C none k (⟨d, .nilv E s, none⟩ :: l) fs (some (stA al S0 sl n)) = contN C k l S0 (stepA d (.nilv E s) al S0 sl n) := goN_op _ _ _ rfl _ _ _ _ _ _
theorem goD_nilv (pr : List (Nat × Nat)) (k : List Kt) (d : Option Nat) (E s : Nat) (l : List AI) (fs : List Fp) (al : List (Nat × V)) (S0 : Store) (sl : List (Nat × Ob)) (n : Nat) : goR C (some pr) k (⟨d, .nilv E s, none⟩ :: l) fs (some (stA al S0 sl n)) = contR C (some pr) k l fs S0 (stepA d (.nilv E s) al S0 sl n) := goR_op _ _ _ _ rfl _ _ _ _ _ _
theorem goN_pick (k : List Kt) (d : Option Nat) (c a b : Opd) (l : List AI) (fs : List Fp) (al : List (Nat × V)) (S0 : Store) (sl : List (Nat × Ob)) (n : Nat) : goR C none k (⟨d, .pick c a b, none⟩ :: l) fs (some (stA al S0 sl n)) = contN C k l S0 (stepA d (.pick c a b) al S0 sl n) := goN_op _ _ _ rfl _ _ _ _ _ _
theorem goD_pick (pr : List (Nat × Nat)) (k : List Kt) (d : Option Nat) (c a b : Opd) (l : List AI) (fs : List Fp) (al : List (Nat × V)) (S0 : Store) (sl : List (Nat × Ob)) (n : Nat) : goR C (some pr) k (⟨d, .pick c a b, none⟩ :: l) fs (some (stA al S0 sl n)) = contR C (some pr) k l fs S0 (stepA d (.pick c a b) al S0 sl n) := goR_op _ _ _ _ rfl _ _ _ _ _ _
theorem goN_nbox (k : List Kt) (d : Option Nat) (E : Nat) (zs : List V) (l : List AI) (fs : List Fp) (al : List (Nat × V)) (S0 : Store) (sl : List (Nat × Ob)) (n : Nat) : goR C none k (⟨d, .nbox E zs, none⟩ :: l) fs (some (stA al S0 sl n)) = contN C k l S0 (stepA d (.nbox E zs) al S0 sl n) := goN_op _ _ _ rfl _ _ _ _ _ _
theorem goD_nbox (pr : List (Nat × Nat)) (k : List Kt) (d : Option Nat) (E : Nat) (zs : List V) (l : List AI) (fs : List Fp) (al : List (Nat × V)) (S0 : Store) (sl : List (Nat × Ob)) (n : Nat) : goR C (some pr) k (⟨d, .nbox E zs, none⟩ :: l) fs (some (stA al S0 sl n)) = contR C (some pr) k l fs S0 (stepA d (.nbox E zs) al S0 sl n) := goR_op _ _ _ _ rfl _ _ _ _ _ _
theorem goN_box (k : List Kt) (d : Option Nat) (E m : Nat) (x : Opd) (l : List AI) (fs : List Fp) (al : List (Nat × V)) (S0 : Store) (sl : List (Nat × Ob)) (n : Nat) : goR C none k (⟨d, .box E m x, none⟩ :: l) fs (some (stA al S0 sl n)) = contN C k l S0 (stepA d (.box E m x) al S0 sl n) := goN_op _ _ _ rfl _ _ _ _ _ _
theorem goD_box (pr : List (Nat × Nat)) (k : List Kt) (d : Option Nat) (E m : Nat) (x : Opd) (l : List AI) (fs : List Fp) (al : List (Nat × V)) (S0 : Store) (sl : List (Nat × Ob)) (n : Nat) : goR C (some pr) k (⟨d, .box E m x, none⟩ :: l) fs (some (stA al S0 sl n)) = contR C (some pr) k l fs S0 (stepA d (.box E m x) al S0 sl n) := goR_op _ _ _ _ rfl _ _ _ _ _ _
theorem goN_build (k : List Kt) (d : Option Nat) (zs : List V) (ps : List (Nat × Nat × Opd)) (l : List AI) (fs : List Fp) (al : List (Nat × V)) (S0 : Store) (sl : List (Nat × Ob)) (n : Nat) : goR C none k (⟨d, .build zs ps, none⟩ :: l) fs (some (stA al S0 sl n)) = contN C k l S0 (stepA d (.build zs ps) al S0 sl n) := goN_op _ _ _ rfl _ _ _ _ _ _
theorem goD_build (pr : List (Nat × Nat)) (k : List Kt) (d : Option Nat) (zs : List V) (ps : List (Nat × Nat × Opd)) (l : List AI) (fs : List Fp) (al : List (Nat × V)) (S0 : Store) (sl : List (Nat × Ob)) (n : Nat) : goR C (some pr) k (⟨d, .build zs ps, none⟩ :: l) fs (some (stA al S0 sl n)) = contR C (some pr) k l fs S0 (stepA d (.build zs ps) al S0 sl n) := goR_op _ _ _ _ rfl _ _ _ _ _ _
theorem goN_bsl (k : List Kt) (d : Option Nat) (E s len : Nat) (zs : List V) (ps : List (Nat × Opd)) (l : List AI) (fs : List Fp) (al : List (Nat × V)) (S0 : Store) (sl : List (Nat × Ob)) (n : Nat) : goR C none k (⟨d, .bsl E s len zs ps, none⟩ :: l) fs (some (stA al S0 sl n)) = contN C k l S0 (stepA d (.bsl E s len zs ps) al S0 sl n) := goN_op _ _ _ rfl _ _ _ _ _ _
theorem goD_bsl (pr : List (Nat × Nat)) (k : List Kt) (d : Option Nat) (E s len : Nat) (zs : List V) (ps : List (Nat × Opd)) (l : List AI) (fs : List Fp) (al : List (Nat × V)) (S0 : Store) (sl : List (Nat × Ob)) (n : Nat) : goR C (some pr) k (⟨d, .bsl E s len zs ps, none⟩ :: l) fs (some (stA al S0 sl n)) = contR C (some pr) k l fs S0 (stepA d (.bsl E s len zs ps) al S0 sl n) := goR_op _ _ _ _ rfl _ _ _ _ _ _
theorem goN_ld (k : List Kt) (d : Option Nat) (m : Nat) (b : Bool) (a : Opd) (l : List AI) (fs : List Fp) (al : List (Nat × V)) (S0 : Store) (sl : List (Nat × Ob)) (n : Nat) : goR C none k (⟨d, .ld m b a, none⟩ :: l) fs (some (stA al S0 sl n)) = contN C k l S0 (stepA d (.ld m b a) al S0 sl n) := goN_op _ _ _ rfl _ _ _ _ _ _
theorem goD_ld (pr : List (Nat × Nat)) (k : List Kt) (d : Option Nat) (m : Nat) (b : Bool) (a : Opd) (l : List AI) (fs : List Fp) (al : List (Nat × V)) (S0 : Store) (sl : List (Nat × Ob)) (n : Nat) : goR C (some pr) k (⟨d, .ld m b a, none⟩ :: l) fs (some (stA al S0 sl n)) = contR C (some pr) k l fs S0 (stepA d (.ld m b a) al S0 sl n) := goR_op _ _ _ _ rfl _ _ _ _ _ _
theorem goN_st (k : List Kt) (d : Option Nat) (m : Nat) (a x : Opd) (l : List AI) (fs : List Fp) (al : List (Nat × V)) (S0 : Store) (sl : List (Nat × Ob)) (n : Nat) : goR C none k (⟨d, .st m a x, none⟩ :: l) fs (some (stA al S0 sl n)) = contN C k l S0 (stepA d (.st m a x) al S0 sl n) := goN_op _ _ _ rfl _ _ _ _ _ _
theorem goD_st (pr : List (Nat × Nat)) (k : List Kt) (d : Option Nat) (m : Nat) (a x : Opd) (l : List AI) (fs : List Fp) (al : List (Nat × V)) (S0 : Store) (sl : List (Nat × Ob)) (n : Nat) : goR C (some pr) k (⟨d, .st m a x, none⟩ :: l) fs (some (stA al S0 sl n)) = contR C (some pr) k l fs S0 (stepA d (.st m a x) al S0 sl n) := goR_op _ _ _ _ rfl _ _ _ _ _ _
theorem goN_bin (k : List Kt) (d : Option Nat) (o : BinOp) (x y : Opd) (l : List AI) (fs : List Fp) (al : List (Nat × V)) (S0 : Store) (sl : List (Nat × Ob)) (n : Nat) : goR C none k (⟨d, .bin o x y, none⟩ :: l) fs (some (stA al S0 sl n)) = contN C k l S0 (stepA d (.bin o x y) al S0 sl n) := goN_op _ _ _ rfl _ _ _ _ _ _
theorem goD_bin (pr : List (Nat × Nat)) (k : List Kt) (d : Option Nat) (o : BinOp) (x y : Opd) (l : List AI) (fs : List Fp) (al : List (Nat × V)) (S0 : Store) (sl : List (Nat × Ob)) (n : Nat) : goR C (some pr) k (⟨d, .bin o x y, none⟩ :: l) fs (some (stA al S0 sl n)) = contR C (some pr) k l fs S0 (stepA d (.bin o x y) al S0 sl n) := goR_op _ _ _ _ rfl _ _ _ _ _ _
theorem goN_beq (k : List Kt) (d : Option Nat) (b : Bool) (x y : Opd) (l : List AI) (fs : List Fp) (al : List (Nat × V)) (S0 : Store) (sl : List (Nat × Ob)) (n : Nat) : goR C none k (⟨d, .beq b x y, none⟩ :: l) fs (some (stA al S0 sl n)) = contN C k l S0 (stepA d (.beq b x y) al S0 sl n) := goN_op _ _ _ rfl _ _ _ _ _ _
theorem goD_beq (pr : List (Nat × Nat)) (k : List Kt) (d : Option Nat) (b : Bool) (x y : Opd) (l : List AI) (fs : List Fp) (al : List (Nat × V)) (S0 : Store) (sl : List (Nat × Ob)) (n : Nat) : goR C (some pr) k (⟨d, .beq b x y, none⟩ :: l) fs (some (stA al S0 sl n)) = contR C (some pr) k l fs S0 (stepA d (.beq b x y) al S0 sl n) := goR_op _ _ _ _ rfl _ _ _ _ _ _
theorem goN_eqa (k : List Kt) (d : Option Nat) (b : Bool) (ks : List Nat) (x y : Opd) (l : List AI) (fs : List Fp) (al : List (Nat × V)) (S0 : Store) (sl : List (Nat × Ob)) (n : Nat) : goR C none k (⟨d, .eqa b ks x y, none⟩ :: l) fs (some (stA al S0 sl n)) = contN C k l S0 (stepA d (.eqa b ks x y) al S0 sl n) := goN_op _ _ _ rfl _ _ _ _ _ _
theorem goD_eqa (pr : List (Nat × Nat)) (k : List Kt) (d : Option Nat) (b : Bool) (ks : List Nat) (x y : Opd) (l : List AI) (fs : List Fp) (al : List (Nat × V)) (S0 : Store) (sl : List (Nat × Ob)) (n : Nat) : goR C (some pr) k (⟨d, .eqa b ks x y, none⟩ :: l) fs (some (stA al S0 sl n)) = contR C (some pr) k l fs S0 (stepA d (.eqa b ks x y) al S0 sl n) := goR_op _ _ _ _ rfl _ _ _ _ _ _
theorem goN_isn (k : List Kt) (d : Option Nat) (ng : Bool) (x : Opd) (l : List AI) (fs : List Fp) (al : List (Nat × V)) (S0 : Store) (sl : List (Nat × Ob)) (n : Nat) : goR C none k (⟨d, .isn ng x, none⟩ :: l) fs (some (stA al S0 sl n)) = contN C k l S0 (stepA d (.isn ng x) al S0 sl n) := goN_op _ _ _ rfl _ _ _ _ _ _
theorem goD_isn (pr : List (Nat × Nat)) (k : List Kt) (d : Option Nat) (ng : Bool) (x : Opd) (l : List AI) (fs : List Fp) (al : List (Nat × V)) (S0 : Store) (sl : List (Nat × Ob)) (n : Nat) : goR C (some pr) k (⟨d, .isn ng x, none⟩ :: l) fs (some (stA al S0 sl n)) = contR C (some pr) k l fs S0 (stepA d (.isn ng x) al S0 sl n) := goR_op _ _ _ _ rfl _ _ _ _ _ _
theorem goN_un (k : List Kt) (d : Option Nat) (o : UnOp) (x : Opd) (l : List AI) (fs : List Fp) (al : List (Nat × V)) (S0 : Store) (sl : List (Nat × Ob)) (n : Nat) : goR C none k (⟨d, .un o x, none⟩ :: l) fs (some (stA al S0 sl n)) = contN C k l S0 (stepA d (.un o x) al S0 sl n) := goN_op _ _ _ rfl _ _ _ _ _ _
theorem goD_un (pr : List (Nat × Nat)) (k : List Kt) (d : Option Nat) (o : UnOp) (x : Opd) (l : List AI) (fs : List Fp) (al : List (Nat × V)) (S0 : Store) (sl : List (Nat × Ob)) (n : Nat) : goR C (some pr) k (⟨d, .un o x, none⟩ :: l) fs (some (stA al S0 sl n)) = contR C (some pr) k l fs S0 (stepA d (.un o x) al S0 sl n) := goR_op _ _ _ _ rfl _ _ _ _ _ _
theorem goN_fa (k : List Kt) (d : Option Nat) (f : Nat) (a : Opd) (l : List AI) (fs : List Fp) (al : List (Nat × V)) (S0 : Store) (sl : List (Nat × Ob)) (n : Nat) : goR C none k (⟨d, .fa f a, none⟩ :: l) fs (some (stA al S0 sl n)) = contN C k l S0 (stepA d (.fa f a) al S0 sl n) := goN_op _ _ _ rfl _ _ _ _ _ _
theorem goD_fa (pr : List (Nat × Nat)) (k : List Kt) (d : Option Nat) (f : Nat) (a : Opd) (l : List AI) (fs : List Fp) (al : List (Nat × V)) (S0 : Store) (sl : List (Nat × Ob)) (n : Nat) : goR C (some pr) k (⟨d, .fa f a, none⟩ :: l) fs (some (stA al S0 sl n)) = contR C (some pr) k l fs S0 (stepA d (.fa f a) al S0 sl n) := goR_op _ _ _ _ rfl _ _ _ _ _ _
theorem goN_fld (k : List Kt) (d : Option Nat) (f m : Nat) (b : Bool) (x : Opd) (l : List AI) (fs : List Fp) (al : List (Nat × V)) (S0 : Store) (sl : List (Nat × Ob)) (n : Nat) : goR C none k (⟨d, .fld f m b x, none⟩ :: l) fs (some (stA al S0 sl n)) = contN C k l S0 (stepA d (.fld f m b x) al S0 sl n) := goN_op _ _ _ rfl _ _ _ _ _ _
theorem goD_fld (pr : List (Nat × Nat)) (k : List Kt) (d : Option Nat) (f m : Nat) (b : Bool) (x : Opd) (l : List AI) (fs : List Fp) (al : List (Nat × V)) (S0 : Store) (sl : List (Nat × Ob)) (n : Nat) : goR C (some pr) k (⟨d, .fld f m b x, none⟩ :: l) fs (some (stA al S0 sl n)) = contR C (some pr) k l fs S0 (stepA d (.fld f m b x) al S0 sl n) := goR_op _ _ _ _ rfl _ _ _ _ _ _
theorem goN_ia (k : List Kt) (d : Option Nat) (s : Nat) (x i : Opd) (l : List AI) (fs : List Fp) (al : List (Nat × V)) (S0 : Store) (sl : List (Nat × Ob)) (n : Nat) : goR C none k (⟨d, .ia s x i, none⟩ :: l) fs (some (stA al S0 sl n)) = contN C k l S0 (stepA d (.ia s x i) al S0 sl n) := goN_op _ _ _ rfl _ _ _ _ _ _
theorem goD_ia (pr : List (Nat × Nat)) (k : List Kt) (d : Option Nat) (s : Nat) (x i : Opd) (l : List AI) (fs : List Fp) (al : List (Nat × V)) (S0 : Store) (sl : List (Nat × Ob)) (n : Nat) : goR C (some pr) k (⟨d, .ia s x i, none⟩ :: l) fs (some (stA al S0 sl n)) = contR C (some pr) k l fs S0 (stepA d (.ia s x i) al S0 sl n) := goR_op _ _ _ _ rfl _ _ _ _ _ _
theorem goN_slc (k : List Kt) (d : Option Nat) (s : Nat) (x : Opd) (lo hi : Option Opd) (l : List AI) (fs : List Fp) (al : List (Nat × V)) (S0 : Store) (sl : List (Nat × Ob)) (n : Nat) : goR C none k (⟨d, .slc s x lo hi, none⟩ :: l) fs (some (stA al S0 sl n)) = contN C k l S0 (stepA d (.slc s x lo hi) al S0 sl n) := goN_op _ _ _ rfl _ _ _ _ _ _
theorem goD_slc (pr : List (Nat × Nat)) (k : List Kt) (d : Option Nat) (s : Nat) (x : Opd) (lo hi : Option Opd) (l : List AI) (fs : List Fp) (al : List (Nat × V)) (S0 : Store) (sl : List (Nat × Ob)) (n : Nat) : goR C (some pr) k (⟨d, .slc s x lo hi, none⟩ :: l) fs (some (stA al S0 sl n)) = contR C (some pr) k l fs S0 (stepA d (.slc s x lo hi) al S0 sl n) := goR_op _ _ _ _ rfl _ _ _ _ _ _
theorem goN_mks (k : List Kt) (d : Option Nat) (E s b : Nat) (zs : List V) (q c : Opd) (l : List AI) (fs : List Fp) (al : List (Nat × V)) (S0 : Store) (sl : List (Nat × Ob)) (n : Nat) : goR C none k (⟨d, .mks E s b zs q c, none⟩ :: l) fs (some (stA al S0 sl n)) = contN C k l S0 (stepA d (.mks E s b zs q c) al S0 sl n) := goN_op _ _ _ rfl _ _ _ _ _ _
theorem goD_mks (pr : List (Nat × Nat)) (k : List Kt) (d : Option Nat) (E s b : Nat) (zs : List V) (q c : Opd) (l : List AI) (fs : List Fp) (al : List (Nat × V)) (S0 : Store) (sl : List (Nat × Ob)) (n : Nat) : goR C (some pr) k (⟨d, .mks E s b zs q c, none⟩ :: l) fs (some (stA al S0 sl n)) = contR C (some pr) k l fs S0 (stepA d (.mks E s b zs q c) al S0 sl n) := goR_op _ _ _ _ rfl _ _ _ _ _ _
theorem goN_ext (k : List Kt) (d : Option Nat) (i : Nat) (x : Opd) (l : List AI) (fs : List Fp) (al : List (Nat × V)) (S0 : Store) (sl : List (Nat × Ob)) (n : Nat) : goR C none k (⟨d, .ext i x, none⟩ :: l) fs (some (stA al S0 sl n)) = contN C k l S0 (stepA d (.ext i x) al S0 sl n) := goN_op _ _ _ rfl _ _ _ _ _ _
theorem goD_ext (pr : List (Nat × Nat)) (k : List Kt) (d : Option Nat) (i : Nat) (x : Opd) (l : List AI) (fs : List Fp) (al : List (Nat × V)) (S0 : Store) (sl : List (Nat × Ob)) (n : Nat) : goR C (some pr) k (⟨d, .ext i x, none⟩ :: l) fs (some (stA al S0 sl n)) = contR C (some pr) k l fs S0 (stepA d (.ext i x) al S0 sl n) := goR_op _ _ _ _ rfl _ _ _ _ _ _
theorem goN_len (k : List Kt) (d : Option Nat) (b : Bool) (x : Opd) (l : List AI) (fs : List Fp) (al : List (Nat × V)) (S0 : Store) (sl : List (Nat × Ob)) (n : Nat) : goR C none k (⟨d, .len b x, none⟩ :: l) fs (some (stA al S0 sl n)) = contN C k l S0 (stepA d (.len b x) al S0 sl n) := goN_op _ _ _ rfl _ _ _ _ _ _
theorem goD_len (pr : List (Nat × Nat)) (k : List Kt) (d : Option Nat) (b : Bool) (x : Opd) (l : List AI) (fs : List Fp) (al : List (Nat × V)) (S0 : Store) (sl : List (Nat × Ob)) (n : Nat) : goR C (some pr) k (⟨d, .len b x, none⟩ :: l) fs (some (stA al S0 sl n)) = contR C (some pr) k l fs S0 (stepA d (.len b x) al S0 sl n) := goR_op _ _ _ _ rfl _ _ _ _ _ _
theorem goN_app (k : List Kt) (d : Option Nat) (E s b : Nat) (x y : Opd) (l : List AI) (fs : List Fp) (al : List (Nat × V)) (S0 : Store) (sl : List (Nat × Ob)) (n : Nat) : goR C none k (⟨d, .app E s b x y, none⟩ :: l) fs (some (stA al S0 sl n)) = contN C k l S0 (stepA d (.app E s b x y) al S0 sl n) := goN_op _ _ _ rfl _ _ _ _ _ _
theorem goD_app (pr : List (Nat × Nat)) (k : List Kt) (d : Option Nat) (E s b : Nat) (x y : Opd) (l : List AI) (fs : List Fp) (al : List (Nat × V)) (S0 : Store) (sl : List (Nat × Ob)) (n : Nat) : goR C (some pr) k (⟨d, .app E s b x y, none⟩ :: l) fs (some (stA al S0 sl n)) = contR C (some pr) k l fs S0 (stepA d (.app E s b x y) al S0 sl n) := goR_op _ _ _ _ rfl _ _ _ _ _ _
theorem goN_mx (k : List Kt) (d : Option Nat) (xs : List Opd) (l : List AI) (fs : List Fp) (al : List (Nat × V)) (S0 : Store) (sl : List (Nat × Ob)) (n : Nat) : goR C none k (⟨d, .mx xs, none⟩ :: l) fs (some (stA al S0 sl n)) = contN C k l S0 (stepA d (.mx xs) al S0 sl n) := goN_op _ _ _ rfl _ _ _ _ _ _
theorem goD_mx (pr : List (Nat × Nat)) (k : List Kt) (d : Option Nat) (xs : List Opd) (l : List AI) (fs : List Fp) (al : List (Nat × V)) (S0 : Store) (sl : List (Nat × Ob)) (n : Nat) : goR C (some pr) k (⟨d, .mx xs, none⟩ :: l) fs (some (stA al S0 sl n)) = contR C (some pr) k l fs S0 (stepA d (.mx xs) al S0 sl n) := goR_op _ _ _ _ rfl _ _ _ _ _ _
theorem goN_mn (k : List Kt) (d : Option Nat) (xs : List Opd) (l : List AI) (fs : List Fp) (al : List (Nat × V)) (S0 : Store) (sl : List (Nat × Ob)) (n : Nat) : goR C none k (⟨d, .mn xs, none⟩ :: l) fs (some (stA al S0 sl n)) = contN C k l S0 (stepA d (.mn xs) al S0 sl n) := goN_op _ _ _ rfl _ _ _ _ _ _
theorem goD_mn (pr : List (Nat × Nat)) (k : List Kt) (d : Option Nat) (xs : List Opd) (l : List AI) (fs : List Fp) (al : List (Nat × V)) (S0 : Store) (sl : List (Nat × Ob)) (n : Nat) : goR C (some pr) k (⟨d, .mn xs, none⟩ :: l) fs (some (stA al S0 sl n)) = contR C (some pr) k l fs S0 (stepA d (.mn xs) al S0 sl n) := goR_op _ _ _ _ rfl _ _ _ _ _ _
theorem goN_mkf (k : List Kt) (d : Option Nat) (fn : Fn) (a b : List Opd) (l : List AI) (fs : List Fp) (al : List (Nat × V)) (S0 : Store) (sl : List (Nat × Ob)) (n : Nat) : goR C none k (⟨d, .mkf fn a b, none⟩ :: l) fs (some (stA al S0 sl n)) = contN C k l S0 (stepA d (.mkf fn a b) al S0 sl n) := goN_op _ _ _ rfl _ _ _ _ _ _
theorem goD_mkf (pr : List (Nat × Nat)) (k : List Kt) (d : Option Nat) (fn : Fn) (a b : List Opd) (l : List AI) (fs : List Fp) (al : List (Nat × V)) (S0 : Store) (sl : List (Nat × Ob)) (n : Nat) : goR C (some pr) k (⟨d, .mkf fn a b, none⟩ :: l) fs (some (stA al S0 sl n)) = contR C (some pr) k l fs S0 (stepA d (.mkf fn a b) al S0 sl n) := goR_op _ _ _ _ rfl _ _ _ _ _ _
theorem goN_mkmap (k : List Kt) (d : Option Nat)  (l : List AI) (fs : List Fp) (al : List (Nat × V)) (S0 : Store) (sl : List (Nat × Ob)) (n : Nat) : goR C none k (⟨d, .mkmap , none⟩ :: l) fs (some (stA al S0 sl n)) = contN C k l S0 (stepA d (.mkmap ) al S0 sl n) := goN_op _ _ _ rfl _ _ _ _ _ _
theorem goD_mkmap (pr : List (Nat × Nat)) (k : List Kt) (d : Option Nat)  (l : List AI) (fs : List Fp) (al : List (Nat × V)) (S0 : Store) (sl : List (Nat × Ob)) (n : Nat) : goR C (some pr) k (⟨d, .mkmap , none⟩ :: l) fs (some (stA al S0 sl n)) = contR C (some pr) k l fs S0 (stepA d (.mkmap ) al S0 sl n) := goR_op _ _ _ _ rfl _ _ _ _ _ _
theorem goN_lkp (k : List Kt) (d : Option Nat) (b : Bool) (kk : Nat) (zs : V) (m x : Opd) (l : List AI) (fs : List Fp) (al : List (Nat × V)) (S0 : Store) (sl : List (Nat × Ob)) (n : Nat) : goR C none k (⟨d, .lkp b kk zs m x, none⟩ :: l) fs (some (stA al S0 sl n)) = contN C k l S0 (stepA d (.lkp b kk zs m x) al S0 sl n) := goN_op _ _ _ rfl _ _ _ _ _ _
theorem goD_lkp (pr : List (Nat × Nat)) (k : List Kt) (d : Option Nat) (b : Bool) (kk : Nat) (zs : V) (m x : Opd) (l : List AI) (fs : List Fp) (al : List (Nat × V)) (S0 : Store) (sl : List (Nat × Ob)) (n : Nat) : goR C (some pr) k (⟨d, .lkp b kk zs m x, none⟩ :: l) fs (some (stA al S0 sl n)) = contR C (some pr) k l fs S0 (stepA d (.lkp b kk zs m x) al S0 sl n) := goR_op _ _ _ _ rfl _ _ _ _ _ _
theorem goN_mup (k : List Kt) (d : Option Nat) (kk : Nat) (m x v : Opd) (l : List AI) (fs : List Fp) (al : List (Nat × V)) (S0 : Store) (sl : List (Nat × Ob)) (n : Nat) : goR C none k (⟨d, .mup kk m x v, none⟩ :: l) fs (some (stA al S0 sl n)) = contN C k l S0 (stepA d (.mup kk m x v) al S0 sl n) := goN_op _ _ _ rfl _ _ _ _ _ _
theorem goD_mup (pr : List (Nat × Nat)) (k : List Kt) (d : Option Nat) (kk : Nat) (m x v : Opd) (l : List AI) (fs : List Fp) (al : List (Nat × V)) (S0 : Store) (sl : List (Nat × Ob)) (n : Nat) : goR C (some pr) k (⟨d, .mup kk m x v, none⟩ :: l) fs (some (stA al S0 sl n)) = contR C (some pr) k l fs S0 (stepA d (.mup kk m x v) al S0 sl n) := goR_op _ _ _ _ rfl _ _ _ _ _ _

/-- A call whose operands lead to nothing of the caller's own. -/
theorem goR_call (ps : Option (List (Nat × Nat))) (k : List Kt) (d : Option Nat) (f : Opd) (xs : List Opd) (l : List AI) (fs : List Fp) (al : List (Nat × V)) (S0 : Store) (sl : List (Nat × Ob)) (n : Nat) :
    goR C ps k (⟨d, .call f xs, none⟩ :: l) fs (some (stA al S0 sl n)) = match doCall (RUN C) (stA al S0 sl n) d (ev (look al) f) (xs.map (ev (look al))) with
      | some (st', p) => goR C ps k l (p :: fs) (some st')
      | none => none := rfl

/-- What a call does to a state that is written out, if it hands back data only. -/
theorem doCall_pure {al : List (Nat × V)} {S0 : Store} {sl : List (Nat × Ob)} {n : Nat} {d : Option Nat} {f : V} {xs : List V} {g : FuncId} {fst caps : List V} {ds : List D} {r : V} (hc : callee f = some (g, fst, caps)) (hds : mapO (lendV 8 (lookS S0 sl)) (fst ++ xs ++ caps) = some ds)
    (hids : (fst ++ xs ++ caps).flatMap (refsV 8 (lookS S0 sl)) = []) (hr : RUN C g ds = some (r, [])) : doCall (RUN C) (stA al S0 sl n) d f xs = some (stA (putA d (shV n r) al) S0 sl n, ⟨[], true, n, n⟩) := by
  simp only [doCall, hc, hds, hr, hids, List.all_nil, if_true, true_or, putNew, List.length_nil, Nat.add_zero, put_look, and_self, lentS]

end Go.R

namespace Go.R

theorem cellsV_agg (cs : List D) : cellsV (.d (.agg cs)) = some (cs.map .d) := rfl
theorem cellsV_vagg (cs : List V) : cellsV (.agg cs) = some cs := rfl
theorem cellsV_int (k : IntKind) (n : Int) : cellsV (.d (.int k n)) = some [.d (.int k n)] := rfl
theorem cellsV_bool (b : Bool) : cellsV (.d (.bool b)) = some [.d (.bool b)] := rfl
theorem cellsV_str (s : ByteArray) : cellsV (.d (.str s)) = some [.d (.str s)] := rfl
theorem cellsV_slice (g s : Nat) (es : List (List D)) : cellsV (.d (.slice g s es)) = some [.d (.slice g s es)] := rfl
theorem cellsV_cptr (g : Nat) (es : List D) (j : Nat) : cellsV (.d (.cptr g es j)) = some [.d (.cptr g es j)] := rfl
theorem cellsV_func (fn : Fn) (a b : List D) : cellsV (.d (.func fn a b)) = some [.d (.func fn a b)] := rfl
theorem cellsV_nilfunc : cellsV (.d .nilfunc) = some [.d .nilfunc] := rfl
theorem cellsV_nilptr : cellsV (.d .nilptr) = some [.d .nilptr] := rfl
theorem cellsV_nil (E s : Nat) : cellsV (.nil E s) = some [.nil E s] := rfl
theorem cellsV_own (k s N : Nat) : cellsV (.own k s N) = some [.own k s N] := rfl
theorem cellsV_loc (k N i j : Nat) : cellsV (.loc k N i j) = some [.loc k N i j] := rfl
theorem cellsV_mp (k : Nat) : cellsV (.mp k) = some [.mp k] := rfl
theorem cellsV_vfunc (fn : Fn) (a b : List V) : cellsV (.func fn a b) = some [.func fn a b] := rfl

theorem ownNils_nil (n : Nat) : ownNils n [] = ([], []) := rfl
theorem ownNils_n (n E s : Nat) (r : List V) : ownNils n (.nil E s :: r) = (.own n s 0 :: (ownNils (n + 1) r).1, .grow true E s [] :: (ownNils (n + 1) r).2) := rfl
theorem ownNils_d (n : Nat) (x : D) (r : List V) : ownNils n (.d x :: r) = (.d x :: (ownNils n r).1, (ownNils n r).2) := rfl
theorem ownNils_own (n k s N : Nat) (r : List V) : ownNils n (.own k s N :: r) = (.own k s N :: (ownNils n r).1, (ownNils n r).2) := rfl
theorem ownNils_loc (n k N i j : Nat) (r : List V) : ownNils n (.loc k N i j :: r) = (.loc k N i j :: (ownNils n r).1, (ownNils n r).2) := rfl
theorem ownNils_mp (n k : Nat) (r : List V) : ownNils n (.mp k :: r) = (.mp k :: (ownNils n r).1, (ownNils n r).2) := rfl
theorem ownNils_func (n : Nat) (fn : Fn) (a b : List V) (r : List V) : ownNils n (.func fn a b :: r) = (.func fn a b :: (ownNils n r).1, (ownNils n r).2) := rfl
theorem ownNils_ds (n : Nat) : ∀ l : List D, ownNils n (l.map .d) = (l.map .d, [])
  | [] => rfl
  | x :: l => by simp only [List.map_cons, ownNils_d, ownNils_ds n l]

theorem allD_nil : allD [] = some [] := rfl
theorem allD_d (x : D) (r : List V) : allD (.d x :: r) = (allD r).map (x :: ·) := by simp only [allD]; cases allD r <;> rfl

theorem binV_int (op : BinOp) (k : IntKind) (a b : Int) : binV op (.d (.int k a)) (.d (.int k b)) = (intBin op k a b).map .d := by simp [binV]
theorem pick_bb (x p q : Bool) : (if x = true then V.d (.bool p) else V.d (.bool q)) = V.d (.bool (if x = true then p else q)) := by cases x <;> rfl
theorem pick_t (x q : Bool) : (if x = true then true else q) = (x || q) := by cases x <;> rfl
theorem pick_f (x q : Bool) : (if x = true then q else false) = (x && q) := by cases x <;> rfl

theorem maxI_int (k : IntKind) (a b : Int) : maxI (.d (.int k a)) (.d (.int k b)) = some (.d (.int k (max a b))) := by
  have : (if b > a then b else a) = max a b := by rw [Int.max_def]; split <;> split <;> omega
  simp only [maxI, if_true, this]
theorem minI_int (k : IntKind) (a b : Int) : minI (.d (.int k a)) (.d (.int k b)) = some (.d (.int k (min a b))) := by
  have : (if b < a then b else a) = min a b := by rw [Int.min_def]; split <;> split <;> omega
  simp only [minI, if_true, this]

theorem lend_d (k : Nat) (S : Store) (x : D) : lendV k S (.d x) = some x := by cases k <;> rfl
theorem lend_nil (k : Nat) (S : Store) (E s : Nat) : lendV k S (.nil E s) = some (.slice 0 s []) := by cases k <;> rfl
theorem refs_nil (k : Nat) (S : Store) (E s : Nat) : refsV k S (.nil E s) = [] := by cases k <;> rfl
theorem lendR_d (k : Nat) (S : Store) (x : D) : lendR k S (.d x) = some (.d x) := by simp only [lendR, lend_d, Option.map_some]
theorem lendR_nil (k : Nat) (S : Store) (E s : Nat) : lendR k S (.nil E s) = some (.d (.slice 0 s [])) := by simp only [lendR, lend_nil, Option.map_some]
theorem lendR_tup (k : Nat) (S : Store) (vs : List V) : lendR k S (.tup vs) = (mapO (lendV k S) vs).map fun l => .tup (l.map .d) := rfl
theorem lendR_own (k : Nat) (S : Store) (o s N : Nat) : lendR k S (.own o s N) = (lendV k S (.own o s N)).map .d := rfl
theorem lendR_agg (k : Nat) (S : Store) (cs : List V) : lendR k S (.agg cs) = (lendV k S (.agg cs)).map .d := rfl
theorem lendR_func (k : Nat) (S : Store) (fn : Fn) (a b : List V) : lendR k S (.func fn a b) = (lendV k S (.func fn a b)).map .d := rfl
theorem lend_grow {k : Nat} {S : Store} {o s N : Nat} {m : Bool} {E : Nat} {ds : List (List D)} (h : S o = some (.grow m E s ds)) (hl : ds.length = N) : lendV (k + 1) S (.own o s N) = some (.slice 0 s ds) := by
  simp only [lendV, h, hl, and_self, if_true]

theorem isSt_mv (x : Opd) : isSt (.mv x) = false := rfl
theorem isSt_nilv (E s : Nat) : isSt (.nilv E s) = false := rfl
theorem isSt_pick (c a b : Opd) : isSt (.pick c a b) = false := rfl
theorem isSt_nbox (E : Nat) (zs : List V) : isSt (.nbox E zs) = false := rfl
theorem isSt_box (E m : Nat) (x : Opd) : isSt (.box E m x) = false := rfl
theorem isSt_build (zs : List V) (ps : List (Nat × Nat × Opd)) : isSt (.build zs ps) = false := rfl
theorem isSt_bsl (E s len : Nat) (zs : List V) (ps : List (Nat × Opd)) : isSt (.bsl E s len zs ps) = false := rfl
theorem isSt_ld (m : Nat) (b : Bool) (a : Opd) : isSt (.ld m b a) = false := rfl
theorem isSt_st (m : Nat) (a x : Opd) : isSt (.st m a x) = true := rfl
theorem isSt_bin (o : BinOp) (x y : Opd) : isSt (.bin o x y) = false := rfl
theorem isSt_beq (b : Bool) (x y : Opd) : isSt (.beq b x y) = false := rfl
theorem isSt_isn (b : Bool) (x : Opd) : isSt (.isn b x) = false := rfl
theorem isSt_eqa (b : Bool) (ks : List Nat) (x y : Opd) : isSt (.eqa b ks x y) = false := rfl
theorem isSt_un (o : UnOp) (x : Opd) : isSt (.un o x) = false := rfl
theorem isSt_fa (f : Nat) (a : Opd) : isSt (.fa f a) = false := rfl
theorem isSt_fld (f m : Nat) (b : Bool) (x : Opd) : isSt (.fld f m b x) = false := rfl
theorem isSt_ia (s : Nat) (x i : Opd) : isSt (.ia s x i) = false := rfl
theorem isSt_slc (s : Nat) (x : Opd) (lo hi : Option Opd) : isSt (.slc s x lo hi) = false := rfl
theorem isSt_mks (E s b : Nat) (zs : List V) (q c : Opd) : isSt (.mks E s b zs q c) = false := rfl
theorem isSt_ext (i : Nat) (x : Opd) : isSt (.ext i x) = false := rfl
theorem isSt_len (b : Bool) (x : Opd) : isSt (.len b x) = false := rfl
theorem isSt_app (E s b : Nat) (x y : Opd) : isSt (.app E s b x y) = true := rfl
theorem isSt_mx (xs : List Opd) : isSt (.mx xs) = false := rfl
theorem isSt_mn (xs : List Opd) : isSt (.mn xs) = false := rfl
theorem isSt_mkf (fn : Fn) (a b : List Opd) : isSt (.mkf fn a b) = false := rfl
theorem isSt_mkmap  : isSt (.mkmap ) = false := rfl
theorem isSt_lkp (b : Bool) (kk : Nat) (zs : V) (m x : Opd) : isSt (.lkp b kk zs m x) = false := rfl
theorem isSt_mup (kk : Nat) (m x v : Opd) : isSt (.mup kk m x v) = true := rfl
theorem done_ret (kr : Bool) (res : List Rs) (st : St) : done kr res (some (.ret, st)) = match fin res st with
      | some v => answer kr st.S v
      | none => none := rfl
theorem done_normal (kr : Bool) (res : List Rs) (st : St) : done kr res (some (.normal, st)) = match fin res st with
      | some v => answer kr st.S v
      | none => none := rfl
theorem answer_f (S : Store) (v : V) : answer false S v = (lendR 8 S v).map fun r => (r, []) := rfl
theorem answer_t (S : Store) (v : V) : answer true S v = retO S v := rfl
theorem retC_d (S : Store) (n : Nat) (x : D) : retC S n (.d x) = some (.d x, [], []) := rfl
theorem retC_nil (S : Store) (n E s : Nat) : retC S n (.nil E s) = some (.nil E s, [], []) := rfl
theorem retC_own (S : Store) (n k s N : Nat) : retC S n (.own k s N) = match S k with
    | some (.grow true _ s' ds) => if ds.length = N ∧ s' = s then some (.own n s N, [k], []) else none
    | _ => (lendV 8 S (.own k s N)).map fun d => (.d d, [], refsV 8 S (.own k s N)) := rfl

attribute [go_sem] isSt_mv isSt_nilv isSt_pick isSt_nbox isSt_box isSt_build isSt_bsl isSt_ld isSt_st isSt_bin isSt_beq isSt_isn isSt_eqa isSt_un isSt_fa isSt_fld isSt_ia isSt_slc isSt_mks isSt_ext isSt_len isSt_app isSt_mx isSt_mn isSt_mkf isSt_mkmap isSt_lkp isSt_mup go_seq go_lp go_back go_lp_r go_lp_e gcSl gcAl gcC gcV gcOb go_kl go_blk go_cond go_both boK_n bo_true bo_false bo_ub same_self go_exit go_ret go_skip go_blk_n go_blk_r go_blk_e go_code_r go_code_e go_nil go_rg go_rgd goR_nil goR_nild goR_skip contN_some contR_some cd_true cd_false sk_un sk_tt sk_ff sk_tf sk_ft
  goN_mv goN_nilv goN_pick goN_nbox goN_box goN_build goN_bsl goN_ld goN_st goN_bin goN_beq goN_eqa goN_un goN_isn goN_fa goN_fld goN_ia goN_slc goN_mks goN_ext goN_len goN_app goN_mx goN_mn goN_mkf goN_mkmap goN_lkp goN_mup
  goD_mv goD_nilv goD_pick goD_nbox goD_box goD_build goD_bsl goD_ld goD_st goD_bin goD_beq goD_eqa goD_un goD_isn goD_fa goD_fld goD_ia goD_slc goD_mks goD_ext goD_len goD_app goD_mx goD_mn goD_mkf goD_mkmap goD_lkp goD_mup
  stepA aop rq rqo ev look setA putA keepA mapO putNewS putAllS lookS setS initA
  intBin beqV isnV unV eqaV eqDs eqK lenV foldV mkFunc mkAgg sub subD faV slcV loV rdOb splice wrOb mkRow fillCells lookupE updateE isSc idsApp newRow appDs callee
  cellsV_agg cellsV_vagg cellsV_int cellsV_bool cellsV_str cellsV_slice cellsV_cptr cellsV_func cellsV_nilfunc cellsV_nilptr cellsV_nil cellsV_own cellsV_loc cellsV_mp cellsV_vfunc
  ownNils_nil ownNils_n ownNils_d ownNils_own ownNils_loc ownNils_mp ownNils_func ownNils_ds allD_nil allD_d allD_map binV_int pick_bb pick_t pick_f maxI_int minI_int
  lend_d lend_nil refs_d refs_nil lendR_d lendR_nil lendR_tup lendR_own lendR_agg lendR_func done_ret done_normal answer_f answer_t retC_d retC_nil retC_own retCs retA retAs retR noDup retO fin resV
  Option.map_some Option.map_none Option.bind_some List.map_cons List.map_nil List.length_cons List.length_nil List.flatMap_cons List.flatMap_nil List.append_nil List.nil_append List.cons_append List.contains_cons List.contains_nil List.reverse_cons List.reverse_nil
  List.take_zero List.take_succ_cons List.drop_zero List.drop_succ_cons List.take_nil List.drop_nil List.getElem?_cons_zero List.getElem?_cons_succ List.getElem?_nil List.getElem?_map List.set_cons_zero List.set_cons_succ List.length_map List.length_append List.length_replicate List.length_set
  Bool.or_true Bool.true_or Bool.false_or Bool.or_false Bool.and_true Bool.true_and Bool.false_and Bool.and_false Bool.not_true Bool.not_false Bool.false_eq_true Bool.not_eq_true Bool.or_self Bool.and_self
  if_true if_false and_self and_true true_and false_and and_false or_true true_or false_or or_false Nat.add_zero Nat.zero_add beq_self_eq_true Option.some.injEq Prod.mk.injEq

end Go.R

namespace Go.R

theorem wrap_in {x : Int} (h : -9223372036854775808 ≤ x) (h' : x ≤ 9223372036854775807) : IntKind.i64.wrap x = x := by
  simp only [IntKind.wrap, IntKind.bits, IntKind.signed]
  simp
  omega
theorem wrap_succ {i : Nat} (h : i < 9223372036854775807) : IntKind.i64.wrap ((i : Int) + 1) = ((i + 1 : Nat) : Int) := by
  rw [wrap_in (by omega) (by omega)]; omega

theorem ia_nat (g s : Nat) (es : List (List D)) (k : IntKind) (i : Nat) : iaV s (.d (.slice g s es)) (.d (.int k (i : Int))) = (es[i]?).map fun e => .d (.cptr g e 0) := by
  simp only [iaV, true_and, Int.natCast_nonneg, if_true, Int.toNat_natCast]
theorem ia_own (o s N : Nat) (k : IntKind) (i : Nat) : iaV s (.own o s N) (.d (.int k (i : Int))) = if i < N then some (.loc o N i 0) else none := by
  have h : ((0 : Int) ≤ (i : Int) ∧ (i : Int) < (N : Int)) ↔ i < N := by omega
  simp only [iaV, true_and, h, Int.toNat_natCast]

theorem pairsOk_nil (fs : List Fp) : pairsOk fs [] = true := rfl
theorem pairsOk_cons (fs : List Fp) (a b : Nat) (ps : List (Nat × Nat)) : pairsOk fs ((a, b) :: ps) = (apartF (fs.getD a ⟨[], false, 0, 0⟩) (fs.getD b ⟨[], false, 0, 0⟩) && pairsOk fs ps) := rfl

theorem map_range0 {α : Type} (f : Nat → α) : (List.range 0).map f = [] := rfl
theorem map_range1 {α : Type} (f : Nat → α) : (List.range 1).map f = [f 0] := rfl
theorem map_range2 {α : Type} (f : Nat → α) : (List.range 2).map f = [f 0, f 1] := rfl
theorem map_range3 {α : Type} (f : Nat → α) : (List.range 3).map f = [f 0, f 1, f 2] := rfl
theorem map_range4 {α : Type} (f : Nat → α) : (List.range 4).map f = [f 0, f 1, f 2, f 3] := rfl
theorem map_range5 {α : Type} (f : Nat → α) : (List.range 5).map f = [f 0, f 1, f 2, f 3, f 4] := rfl
theorem map_range6 {α : Type} (f : Nat → α) : (List.range 6).map f = [f 0, f 1, f 2, f 3, f 4, f 5] := rfl
theorem map_range7 {α : Type} (f : Nat → α) : (List.range 7).map f = [f 0, f 1, f 2, f 3, f 4, f 5, f 6] := rfl
theorem map_range8 {α : Type} (f : Nat → α) : (List.range 8).map f = [f 0, f 1, f 2, f 3, f 4, f 5, f 6, f 7] := rfl
theorem contR_none {C : Cfg} (ps : Option (List (Nat × Nat))) (k : List Kt) (l : List AI) (fs : List Fp) (S0 : Store) : contR C ps k l fs S0 none = none := rfl
theorem contN_none {C : Cfg} (k : List Kt) (l : List AI) (S0 : Store) : contN C k l S0 none = none := rfl
theorem nos_at (k : Nat) : nos k = none := rfl

attribute [go_sem] kp BB roomB Nat.zero_le appEs grown rowEs contR_none contN_none nos_at List.not_mem_nil List.mem_cons not_false_eq_true not_true_eq_false List.replicate_zero List.replicate_succ List.flatten_cons List.flatten_nil Nat.zero_mul Nat.one_mul gcB_nos
attribute [go_sem ↓] map_range0 map_range1 map_range2 map_range3 map_range4 map_range5 map_range6 map_range7 map_range8
attribute [go_sem] ia_nat ia_own pairsOk_nil pairsOk_cons apartF List.getD_cons_zero List.getD_cons_succ List.getD_nil List.all_cons List.all_nil decide_true decide_false
end Go.R

namespace Go.R
variable {C : Cfg}

/-- Behind a call's answer. -/
noncomputable def callR (C : Cfg) (ps : Option (List (Nat × Nat))) (k : List Kt) (d : Option Nat) (l : List AI) (fs : List Fp) (al : List (Nat × V)) (S0 : Store) (sl : List (Nat × Ob)) (n : Nat) (ids : List Nat) : Option (V × List Ob) → Option (Ex × St)
  | some (r, os) => if os.all isGrow = true ∧ (ids.all fun o => (lentS r os (lookS S0 sl) ids o).isSome) = true then
      goR C ps k l (⟨ids, true, n, n + os.length⟩ :: fs) (some ⟨putT (look al) d (shV n r), putNew (lentS r os (lookS S0 sl) ids) n os, n + os.length⟩) else none
  | none => none
noncomputable def callA (C : Cfg) (ps : Option (List (Nat × Nat))) (k : List Kt) (d : Option Nat) (l : List AI) (fs : List Fp) (al : List (Nat × V)) (S0 : Store) (sl : List (Nat × Ob)) (n : Nat) (g : FuncId) (ids : List Nat) : Option (List D) → Option (Ex × St)
  | some ds => callR C ps k d l fs al S0 sl n ids (RUN C g ds)
  | none => none
noncomputable def callK (C : Cfg) (ps : Option (List (Nat × Nat))) (k : List Kt) (d : Option Nat) (l : List AI) (fs : List Fp) (al : List (Nat × V)) (S0 : Store) (sl : List (Nat × Ob)) (n : Nat) (vs : List V) : Option (FuncId × List V × List V) → Option (Ex × St)
  | some (g, fst, caps) => callA C ps k d l fs al S0 sl n g ((fst ++ vs ++ caps).flatMap (refsV 8 (lookS S0 sl))) (mapO (lendV 8 (lookS S0 sl)) (fst ++ vs ++ caps))
  | none => none

theorem goR_callK (ps : Option (List (Nat × Nat))) (k : List Kt) (d : Option Nat) (f : Opd) (xs : List Opd) (l : List AI) (fs : List Fp) (al : List (Nat × V)) (S0 : Store) (sl : List (Nat × Ob)) (n : Nat) :
    goR C ps k (⟨d, .call f xs, none⟩ :: l) fs (some (stA al S0 sl n)) = callK C ps k d l fs al S0 sl n (xs.map (ev (look al))) (callee (ev (look al) f)) := by
  rw [goR_call]
  cases hc : callee (ev (look al) f) with
  | none => simp only [doCall, hc, callK]
  | some p =>
    obtain ⟨g, fst, caps⟩ := p
    simp only [doCall, hc, callK]
    cases hds : mapO (lendV 8 (lookS S0 sl)) (fst ++ xs.map (ev (look al)) ++ caps) with
    | none => simp only [callA, hds]
    | some ds =>
      simp only [callA, hds]
      cases hr : RUN C g ds with
      | none => simp only [callR, hr]
      | some q =>
        obtain ⟨r, os⟩ := q
        simp only [callR, hr]
        by_cases hq : os.all isGrow = true ∧ (((fst ++ xs.map (ev (look al)) ++ caps).flatMap (refsV 8 (lookS S0 sl))).all fun o => (lentS r os (lookS S0 sl) ((fst ++ xs.map (ev (look al)) ++ caps).flatMap (refsV 8 (lookS S0 sl))) o).isSome) = true
        · rw [if_pos hq, if_pos hq]
        · rw [if_neg hq, if_neg hq]
theorem callK_some (ps : Option (List (Nat × Nat))) (k : List Kt) (d : Option Nat) (l : List AI) (fs : List Fp) (al : List (Nat × V)) (S0 : Store) (sl : List (Nat × Ob)) (n : Nat) (vs : List V) (g : FuncId) (fst caps : List V) :
    callK C ps k d l fs al S0 sl n vs (some (g, fst, caps)) = callA C ps k d l fs al S0 sl n g ((fst ++ vs ++ caps).flatMap (refsV 8 (lookS S0 sl))) (mapO (lendV 8 (lookS S0 sl)) (fst ++ vs ++ caps)) := rfl
theorem callA_some (ps : Option (List (Nat × Nat))) (k : List Kt) (d : Option Nat) (l : List AI) (fs : List Fp) (al : List (Nat × V)) (S0 : Store) (sl : List (Nat × Ob)) (n : Nat) (g : FuncId) (ids : List Nat) (ds : List D) :
    callA C ps k d l fs al S0 sl n g ids (some ds) = callR C ps k d l fs al S0 sl n ids (RUN C g ds) := rfl
@[congr] theorem callK_congr {ps : Option (List (Nat × Nat))} {k : List Kt} {d : Option Nat} {l : List AI} {fs : List Fp} {al : List (Nat × V)} {S0 : Store} {sl : List (Nat × Ob)} {n : Nat} {vs vs' : List V} {x x' : Option (FuncId × List V × List V)} (h : vs = vs') (h2 : x = x') :
    callK C ps k d l fs al S0 sl n vs x = callK C ps k d l fs al S0 sl n vs' x' := by rw [h, h2]
@[congr] theorem callA_congr {ps : Option (List (Nat × Nat))} {k : List Kt} {d : Option Nat} {l : List AI} {fs : List Fp} {al : List (Nat × V)} {S0 : Store} {sl : List (Nat × Ob)} {n : Nat} {g : FuncId} {ids ids' : List Nat} {x x' : Option (List D)} (h : ids = ids') (h2 : x = x') :
    callA C ps k d l fs al S0 sl n g ids x = callA C ps k d l fs al S0 sl n g ids' x' := by rw [h, h2]
@[congr] theorem callR_congr {ps : Option (List (Nat × Nat))} {k : List Kt} {d : Option Nat} {l : List AI} {fs : List Fp} {al : List (Nat × V)} {S0 : Store} {sl : List (Nat × Ob)} {n : Nat} {ids : List Nat} {x x' : Option (V × List Ob)} (h2 : x = x') :
    callR C ps k d l fs al S0 sl n ids x = callR C ps k d l fs al S0 sl n ids x' := by rw [h2]

theorem callR_pure (ps : Option (List (Nat × Nat))) (k : List Kt) (d : Option Nat) (l : List AI) (fs : List Fp) (al : List (Nat × V)) (S0 : Store) (sl : List (Nat × Ob)) (n : Nat) (r : V) (os : List Ob) :
    callR C ps k d l fs al S0 sl n [] (some (r, os)) = if os.all isGrow = true then goR C ps k l (⟨[], true, n, n + os.length⟩ :: fs) (some (stA (putA d (shV n r) al) S0 (putNewS sl n os) (n + os.length))) else none := by
  simp only [callR, List.all_nil, and_true, lentS, true_or, if_true, put_look, putNew_look]

/-- What was lent is frozen. -/
def frzSl (S : Store) (ids : List Nat) : List (Nat × Ob) → List (Nat × Ob)
  | [] => []
  | (k, o) :: l => (if ids.contains k = true then (k, (freezeOb 8 S ids o).getD o) else (k, o)) :: frzSl S ids l
def frzB (S : Store) (ids : List Nat) (S0 : Store) : Store := fun k => if k ∈ ids then (S0 k).bind (freezeOb 8 S ids) else S0 k
theorem frzB_nos (S : Store) (ids : List Nat) : frzB S ids nos = nos := by funext k; simp [frzB, nos]

theorem frz_look {S : Store} {ids : List Nat} {S0 : Store} : ∀ {sl : List (Nat × Ob)} {i : Nat}, (i ∈ ids → ((lookS S0 sl i).bind (freezeOb 8 S ids)).isSome = true) →
    (if i ∈ ids then (lookS S0 sl i).bind (freezeOb 8 S ids) else lookS S0 sl i) = lookS (frzB S ids S0) (frzSl S ids sl) i
  | [], i, h => by simp [lookS, frzSl, frzB]
  | (k, o) :: l, i, h => by
    by_cases hik : i = k
    · subst hik
      simp only [frzSl, List.contains_eq_mem, decide_eq_true_eq]
      by_cases hi : i ∈ ids
      · rw [if_pos hi, if_pos hi]
        have := h hi
        simp only [lookS, if_true, Option.bind_some] at this ⊢
        cases hf : freezeOb 8 S ids o with
        | none => rw [hf] at this; cases this
        | some o' => rfl
      · rw [if_neg hi, if_neg hi]
        simp [lookS]
    · have : lookS S0 ((k, o) :: l) i = lookS S0 l i := by simp [lookS, hik]
      rw [this] at h ⊢
      rw [frz_look h]
      simp only [frzSl]
      split <;> simp [lookS, hik]

theorem callR_own (ps : Option (List (Nat × Nat))) (k : List Kt) (d : Option Nat) (l : List AI) (fs : List Fp) (al : List (Nat × V)) (S0 : Store) (sl : List (Nat × Ob)) (n : Nat) (i : Nat) (is : List Nat) (r : V) (os : List Ob) :
    callR C ps k d l fs al S0 sl n (i :: is) (some (r, os)) =
      if (scalV r && os.all scalOb) = true then
        (if os.all isGrow = true ∧ ((i :: is).all fun o => (lookS S0 sl o).isSome) = true then goR C ps k l (⟨i :: is, true, n, n + os.length⟩ :: fs) (some (stA (putA d (shV n r) al) S0 (putNewS sl n os) (n + os.length))) else none)
      else (if os.all isGrow = true ∧ ((i :: is).all fun o => ((lookS S0 sl o).bind (freezeOb 8 (lookS S0 sl) (i :: is))).isSome) = true then
        goR C ps k l (⟨i :: is, true, n, n + os.length⟩ :: fs) (some (stA (putA d (shV n r) al) (frzB (lookS S0 sl) (i :: is) S0) (putNewS (frzSl (lookS S0 sl) (i :: is) sl) n os) (n + os.length))) else none) := by
  simp only [callR]
  by_cases hs : (scalV r && os.all scalOb) = true
  · have : lentS r os (lookS S0 sl) (i :: is) = lookS S0 sl := by simp only [lentS, hs, or_true, if_true]
    simp only [this, hs, if_true, put_look, putNew_look]
  · have : lentS r os (lookS S0 sl) (i :: is) = freeze 8 (lookS S0 sl) (i :: is) := by
      simp only [lentS, hs, or_false, reduceCtorEq, if_false, Bool.false_eq_true]
    simp only [this, hs, if_false]
    have hc : ((i :: is).all fun o => (freeze 8 (lookS S0 sl) (i :: is) o).isSome) = ((i :: is).all fun o => ((lookS S0 sl o).bind (freezeOb 8 (lookS S0 sl) (i :: is))).isSome) := by
      have hh : ∀ o, o ∈ (i :: is) → (freeze 8 (lookS S0 sl) (i :: is) o).isSome = ((lookS S0 sl o).bind (freezeOb 8 (lookS S0 sl) (i :: is))).isSome := fun o ho => by simp only [freeze, if_pos ho]
      rw [Bool.eq_iff_iff, List.all_eq_true, List.all_eq_true]
      constructor
      · intro h o ho; rw [← hh o ho]; exact h o ho
      · intro h o ho; rw [hh o ho]; exact h o ho
    rw [hc]
    by_cases hall : ((i :: is).all fun o => ((lookS S0 sl o).bind (freezeOb 8 (lookS S0 sl) (i :: is))).isSome) = true
    · have hfr : freeze 8 (lookS S0 sl) (i :: is) = lookS (frzB (lookS S0 sl) (i :: is) S0) (frzSl (lookS S0 sl) (i :: is) sl) := by
        funext j
        rw [← frz_look fun hj => List.all_eq_true.1 hall j hj]
        rfl
      rw [hfr, put_look, putNew_look]
      rfl
    · simp only [hall, and_false, if_false, Bool.false_eq_true]

theorem allD_own (k s N : Nat) (r : List V) : allD (.own k s N :: r) = none := rfl
theorem allD_loc (k N i j : Nat) (r : List V) : allD (.loc k N i j :: r) = none := rfl
theorem allD_mp (k : Nat) (r : List V) : allD (.mp k :: r) = none := rfl
theorem allD_vnil (E s : Nat) (r : List V) : allD (.nil E s :: r) = none := rfl
theorem allD_vfunc (fn : Fn) (a b : List V) (r : List V) : allD (.func fn a b :: r) = none := rfl
theorem go_rets {C : Cfg} (k : List Kt) (st : St) : go C k (some (.ret, st)) = some (.ret, st) := by
  induction k with
  | nil => rfl
  | cons x k ih => cases x <;> simpa only [go] using ih
attribute [go_sem] go_rets cond_true cond_false
attribute [go_sem] allD_own allD_loc allD_mp allD_vnil allD_vfunc
theorem go_def {a b : AC} (h : a = b) {C : Cfg} {k : List Kt} {r : Option (Ex × St)} : go C (.code a :: k) r = go C (.code b :: k) r := by rw [h]

theorem isGrow_grow (m : Bool) (E s : Nat) (ds : List (List D)) : isGrow (.grow m E s ds) = m := rfl
theorem freezeOb_grow (k : Nat) (S : Store) (ids : List Nat) (m : Bool) (E s : Nat) (ds : List (List D)) : freezeOb k S ids (.grow m E s ds) = some (.grow false E s ds) := rfl
theorem freezeOb_row (k : Nat) (S : Store) (ids : List Nat) (m : Bool) (E s : Nat) (es : List (List V)) : freezeOb k S ids (.row m E s es) = if (es.all fun e => e.all fun x => (refsV k S x).all fun i => ids.contains i) = true then (mapO (mapO (lendV k S)) es).map fun ds => .grow false E s ds else none := rfl

theorem lendE_own (k : Nat) (S : Store) (o s N : Nat) : lendV (k + 1) S (.own o s N) = match S o with
    | some (.grow _ _ s' ds) => if ds.length = N ∧ s' = s then some (.slice 0 s ds) else none
    | some (.row _ _ s' es) => if es.length = N ∧ s' = s then (mapO (mapO (lendV k S)) es).map (.slice 0 s) else none
    | _ => none := rfl
theorem lendE_loc (k : Nat) (S : Store) (o N i j : Nat) : lendV (k + 1) S (.loc o N i j) = match S o with
    | some (.grow _ _ _ ds) => if ds.length = N then (ds[i]?).map fun e => .cptr 0 e j else none
    | some (.row _ _ _ es) => if es.length = N then (match es[i]? with | some e => (mapO (lendV k S) e).map fun e => .cptr 0 e j | none => none) else none
    | _ => none := rfl
theorem lendE_agg (k : Nat) (S : Store) (cs : List V) : lendV (k + 1) S (.agg cs) = (mapO (lendV k S) cs).map .agg := rfl
theorem lendE_func (k : Nat) (S : Store) (fn : Fn) (fst caps : List V) : lendV (k + 1) S (.func fn fst caps) = match mapO (lendV k S) fst, mapO (lendV k S) caps with
    | some a, some b => some (.func fn a b)
    | _, _ => none := rfl
theorem refsE_own (k : Nat) (S : Store) (o s N : Nat) : refsV (k + 1) S (.own o s N) = o :: (match S o with | some (.row _ _ _ es) => es.flatMap (·.flatMap (refsV k S)) | _ => []) := rfl
theorem refsE_loc (k : Nat) (S : Store) (o N i j : Nat) : refsV (k + 1) S (.loc o N i j) = o :: (match S o with | some (.row _ _ _ es) => es.flatMap (·.flatMap (refsV k S)) | _ => []) := rfl
theorem refsE_agg (k : Nat) (S : Store) (cs : List V) : refsV (k + 1) S (.agg cs) = cs.flatMap (refsV k S) := rfl
theorem refsE_func (k : Nat) (S : Store) (fn : Fn) (fst caps : List V) : refsV (k + 1) S (.func fn fst caps) = fst.flatMap (refsV k S) ++ caps.flatMap (refsV k S) := rfl
theorem mapO_lend_d (k : Nat) (S : Store) (l : List D) : mapO (lendV k S) (l.map V.d) = some l := mapO_d k S l
theorem refs_ds (k : Nat) (S : Store) (l : List D) : (l.map V.d).flatMap (refsV k S) = [] := by
  induction l with
  | nil => rfl
  | cons x l ih => simp only [List.map_cons, List.flatMap_cons, refs_d, List.nil_append, ih]

attribute [go_sem] goR_callK callK_some callA_some callR_pure callR_own frzB_nos frzSl isGrow_grow freezeOb_grow freezeOb_row lendE_own lendE_loc lendE_agg lendE_func refsE_own refsE_loc refsE_agg refsE_func mapO_lend_d refs_ds
  scalV scalVs scalD scalDs scalOb shV shVs Option.isSome_some Option.isSome_none Option.getD_some
end Go.R
