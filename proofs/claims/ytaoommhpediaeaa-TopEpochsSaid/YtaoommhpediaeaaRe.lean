/- Code and functions do what the evaluator says, and arguments are read. -/
import Derived.Test.YtaoommhpediaeaaRd
import Derived.LoopN
import GoSem.ClaimChange
set_option linter.unusedVariables false
set_option linter.unusedSimpArgs false
set_option linter.defProp false

namespace Go.R

/-- The state with the numbers from m on dropped. -/
def Cx.drop (c : Cx) (m : Nat) : Cx :=
  { w := c.w, F := c.F, S := fun k => if kp m k = true then (c.S k).map (gcOb c.S m) else none, U := fun k => c.U k ∧ kp m k = true, σ := c.σ }

section
variable {c : Cx} {m : Nat}

theorem drop_S {k : Nat} {o : Ob} (h : (c.drop m).S k = some o) : kp m k = true ∧ ∃ o0, c.S k = some o0 ∧ o = gcOb c.S m o0 := by
  simp only [Cx.drop] at h
  split at h
  · rename_i hk
    simp only [Option.map_eq_some_iff] at h
    obtain ⟨o0, h1, h2⟩ := h
    exact ⟨hk, o0, h1, h2.symm⟩
  · cases h
theorem drop_of {k : Nat} {o : Ob} (hk : kp m k = true) (h : c.S k = some o) : (c.drop m).S k = some (gcOb c.S m o) := by simp [Cx.drop, hk, h]

theorem gcOb_mut {S : Store} (o : Ob) : isMut (gcOb S m o) = isMut o := by cases o <;> rfl

theorem gcOb_rowEs {S : Store} {o : Ob} {b : Bool} {E s : Nat} {es : List (List V)} (h : rowEs o = some (b, E, s, es)) : ∃ es', rowEs (gcOb S m o) = some (b, E, s, es') ∧ es'.length = es.length := by
  cases o with
  | grow b' E' s' ds => simp [rowEs] at h; obtain ⟨rfl, rfl, rfl, rfl⟩ := h; exact ⟨_, rfl, by simp⟩
  | row b' E' s' es' => simp [rowEs] at h; obtain ⟨rfl, rfl, rfl, rfl⟩ := h; exact ⟨_, rfl, by simp⟩
  | map _ => simp [rowEs] at h

theorem drop_M {b : Nat} (h : (c.drop m).M b) : c.M b := by
  obtain ⟨k, o, h1, h2, h3⟩ := h
  obtain ⟨_, o0, h4, rfl⟩ := drop_S h1
  exact ⟨k, o0, h4, by rw [← gcOb_mut (S := c.S) (m := m)]; exact h2, h3⟩

theorem drop_fb {g b : Nat} (h : (c.drop m).fb g b) : c.FL (fun i => kp m i = false) g b := by
  rcases h with ⟨k, o, h1, h2, h3⟩ | hF
  · obtain ⟨hk, o0, h4, rfl⟩ := drop_S h1
    exact .inl ⟨k, o0, h4, by rw [← gcOb_mut (S := c.S) (m := m)]; exact h2, h3, by simp [hk]⟩
  · exact .inr hF

theorem drop_keeps : Keeps c.w (c.FL fun i => kp m i = false) (c.drop m).w (c.drop m).fb := ⟨Nat.le_refl _, fun g b _ hn => ⟨rfl, fun h => hn (drop_fb h)⟩⟩
theorem drop_keeps' : Keeps c.w c.fb (c.drop m).w (c.drop m).fb := ⟨Nat.le_refl _, fun g b _ hn => ⟨rfl, fun h => hn (h.elim (fun h => .inl (drop_M h)) .inr)⟩⟩

theorem drop_dead {k N : Nat} (hk : kp m k = true) (h : Dead c k N) : Dead (c.drop m) k N := by
  obtain ⟨h1, h2⟩ := h
  refine ⟨⟨h1, hk⟩, ?_⟩
  rcases h2 with h2 | ⟨o, b, E, s, es, ho, hr, hl⟩
  · exact .inl (by simp [Cx.drop, h2])
  · obtain ⟨es', hr', hl'⟩ := gcOb_rowEs (S := c.S) (m := m) hr
    exact .inr ⟨_, b, E, s, es', drop_of hk ho, hr', by omega⟩

theorem gcV_ok (hsr : SR c) {x : V} {v : Value} (h : VRep c x v) : VRep (c.drop m) (gcV c.S m x) v := by
  cases x with
  | d x => simp only [gcV, VRep] at h ⊢; exact DRep.keep drop_keeps' _ _ h
  | nil E s => simp only [gcV, VRep] at h ⊢; exact h
  | nilmp => simp only [gcV, VRep] at h ⊢; exact h
  | own k s N =>
    simp only [gcV]
    split
    · rename_i hk
      simp only [VRep] at h ⊢
      refine ⟨?_, h.2⟩
      rcases h.1 with ⟨o, b, E, es, ho, hr, hl, hv⟩ | hd
      · obtain ⟨es', hr', hl'⟩ := gcOb_rowEs (S := c.S) (m := m) hr
        exact .inl ⟨_, b, E, es', drop_of hk ho, hr', by omega, hv⟩
      · exact .inr (drop_dead hk hd)
    · split
      · rename_i hall
        split
        · rename_i y hy
          simp only [VRep]
          rw [List.all_eq_true] at hall
          exact DRep.keep drop_keeps _ _ (lend_ok hsr 8 _ v y h hy fun i hi => by simpa using hall i hi)
        · simp [VRep]
      · simp [VRep]
  | loc k N i j =>
    simp only [gcV]
    split
    · rename_i hk
      simp only [VRep] at h ⊢
      refine ⟨?_, h.2⟩
      rcases h.1 with ⟨o, b, E, s, es, ho, hr, hl, g, q, cap, h1, h2⟩ | hd
      · obtain ⟨es', hr', hl'⟩ := gcOb_rowEs (S := c.S) (m := m) hr
        exact .inl ⟨_, b, E, s, es', drop_of hk ho, hr', by omega, g, q, cap, h1, h2⟩
      · exact .inr (drop_dead hk hd)
    · simp [VRep]
  | mp k =>
    simp only [gcV]
    split
    · rename_i hk
      simp only [VRep] at h ⊢
      refine ⟨?_, h.2⟩
      rcases h.1 with ⟨ents, ho, hv⟩ | ⟨hu, hn⟩
      · exact .inl ⟨_, by have := drop_of (c := c) hk ho; simpa only [gcOb] using this, hv⟩
      · exact .inr ⟨⟨hu, hk⟩, by simp [Cx.drop, hn]⟩
    · simp [VRep]
  | agg => simp [gcV, VRep]
  | tup => simp [gcV, VRep]
  | func => simp [gcV, VRep]
  | junk => simp [gcV, VRep]
  | ub => simp [gcV, VRep]
  | un => simp [gcV, VRep]

theorem gcVs_ok (hsr : SR c) : ∀ {xs : List V} {vs : List Value}, VVals c xs vs → VVals (c.drop m) (xs.map (gcV c.S m)) vs
  | [], vs, h => by simp only [List.map_nil, VVals] at h ⊢; exact h
  | x :: xs, vs, h => by
    simp only [List.map_cons, VVals] at h ⊢
    obtain ⟨v, r, rfl, h1, h2⟩ := h
    exact ⟨v, r, rfl, gcV_ok hsr h1, gcVs_ok hsr h2⟩

theorem gcC_ok (hsr : SR c) {x : V} {v : Value} (h : VRep c x v) : VRep (c.drop m) (gcC c.S m x) v := by
  cases x with
  | agg cs =>
    simp only [gcC]
    simp only [VRep] at h
    obtain ⟨vs, rfl, h1, h2⟩ := h
    exact mkAgg_ok (gcVs_ok hsr h1) h2
  | _ => exact gcV_ok hsr h

theorem gcM_ok (hsr : SR c) : ∀ {ents : List (D × V)} {es : List MapEntry}, MapR c ents es → MapR (c.drop m) (ents.map fun p => (p.1, gcC c.S m p.2)) es
  | [], es, h => by simp only [List.map_nil, MapR] at h ⊢; exact h
  | p :: r, es, h => by
    simp only [List.map_cons, MapR] at h ⊢
    obtain ⟨e, q, he, h1, h2, h3⟩ := h
    exact ⟨e, q, he, DRep.keep drop_keeps' _ _ h1, gcC_ok hsr h2, gcM_ok hsr h3⟩

theorem drop_sr (hsr : SR c) : SR (c.drop m) where
  fresh := fun k hk => by
    simp only [Cx.drop] at hk ⊢
    split
    · rename_i hlt
      rw [hsr.fresh k fun h => hk ⟨h, hlt⟩]
      rfl
    · rfl
  ob := fun k o ho => by
    obtain ⟨hk, o0, h0, rfl⟩ := drop_S ho
    have hob := hsr.ob k o0 h0
    cases o0 with
    | grow b E s ds =>
      cases b with
      | true =>
        obtain ⟨flat, h1, h2, h3, h4⟩ := hob
        exact ⟨flat, h1, h2, DVals.keep drop_keeps' _ _ h3, h4⟩
      | false => exact ⟨DRep.keep drop_keeps' _ _ hob.1, hob.2⟩
    | row b E s es =>
      cases b with
      | true =>
        obtain ⟨flat, h1, h2, h3, h4⟩ := hob
        refine ⟨flat, by rw [List.length_map]; exact h1, fun e he => ?_, ?_, h4⟩
        · obtain ⟨e0, he0, rfl⟩ := List.mem_map.1 he
          rw [List.length_map]; exact h2 e0 he0
        · have : (es.map (·.map (gcV c.S m))).flatten = es.flatten.map (gcV c.S m) := List.map_flatten.symm
          rw [this]
          exact gcVs_ok hsr h3
      | false => exact hob
    | map ents =>
      obtain ⟨r, es, cl, h1, h2, h3⟩ := hob
      exact ⟨r, es, cl, h1, h2, gcM_ok hsr h3⟩
  inj := fun k k' o o' b h1 m1 h2 m2 b1 b2 => by
    obtain ⟨_, o1, e1, rfl⟩ := drop_S h1
    obtain ⟨_, o2, e2, rfl⟩ := drop_S h2
    rw [gcOb_mut] at m1 m2
    exact hsr.inj k k' o1 o2 b e1 m1 e2 m2 b1 b2
  mnf := fun g b hM => hsr.mnf g b (drop_M hM)
  bound := hsr.bound

theorem gc_ok {c0 c : Cx} {m n : Nat} (hg : Go1 c0 c) (hm : HU c0 m) {st : St} {a : Act} {nt : Nat} (hU : HU c n) (hR : Rel c st a nt) : Go1 c0 (c.drop m) ∧ Rel (c.drop m) (gc m st) a nt ∧ HU (c.drop m) m := by
  have hlt : ∀ k, c0.U k → kp m k = true := fun k hk => by
    simp only [kp, Bool.or_eq_true, Bool.and_eq_true, decide_eq_true_eq]
    rcases hm.2 k hk with h | ⟨h1, h2, _⟩
    · exact .inl h
    · exact .inr ⟨h1, h2⟩
  have hp := hg.pres
  refine ⟨⟨drop_sr hg.sr, {
    keeps := ⟨hp.keeps.1, fun g b hlt hn => ⟨(hp.keeps.2 g b hlt hn).1, fun h => (hp.keeps.2 g b hlt hn).2 (h.elim (fun h => .inl (drop_M h)) .inr)⟩⟩
    n := fun k hk => ⟨hp.n k hk, hlt k hk⟩
    gone := fun k hk hn => by simp only [Cx.drop, hp.gone k hk hn]; split <;> rfl
    row := fun k o b E s es ho hr => by
      have hk := hlt k (hp.lt k o ho)
      rcases hp.row k o b E s es ho hr with hn | ⟨o', b', E', es', h1, h2, h3, h4⟩
      · exact .inl (by simp [Cx.drop, hn])
      · obtain ⟨es2, h5, h6⟩ := gcOb_rowEs (S := c.S) (m := m) h2
        exact .inr ⟨_, b', E', es2, drop_of hk h1, h5, by omega, fun he => h4 (by omega)⟩
    map := fun k ents ho => by
      have hk := hlt k (hp.lt k _ ho)
      rcases hp.map k ents ho with hn | ⟨e', h1, h2⟩
      · exact .inl (by simp [Cx.drop, hn])
      · exact .inr ⟨_, by have := drop_of (c := c) hk h1; simpa only [gcOb] using this, h2⟩
    lt := hp.lt }, hg.ext, fun b hb => hg.mb b (drop_M hb), hg.F⟩, ⟨drop_sr hg.sr, ?_, fun i => ?_, hR.sz, hR.df⟩, hm.1, fun k hk => ?_⟩
  · simp only [Cx.drop, gc, hR.S]
  · have := gcC_ok (m := m) hg.sr (hR.T i)
    simp only [gc]
    rw [hR.S] at this
    exact this
  · have h2 := hk.2
    simp only [kp, Bool.or_eq_true, Bool.and_eq_true, decide_eq_true_eq] at h2
    by_cases hkm : k < m
    · exact .inl hkm
    · have h3 := h2.resolve_left hkm
      refine .inr ⟨h3.1, h3.2, ?_⟩
      rcases hU.2 k hk.1 with h4 | ⟨_, _, h4⟩
      · have := hU.1; omega
      · simp only [Cx.drop, hk.2, if_true]
        intro he
        simp only [Option.map_eq_none_iff] at he
        exact h4 he

/-! ### the drawn count does not matter -/
def Cx.drew (c : Cx) : Cx := { c with w := { c.w with drawn := c.w.drawn + 1 } }

theorem drew_pres {c : Cx} (h : SR c) : Pres c c.drew where
  keeps := ⟨Nat.le_refl _, fun _ _ _ hn => ⟨rfl, hn⟩⟩
  n := fun _ h => h
  gone := fun _ _ hn => hn
  row := fun _ o m E _ es ho hr => .inr ⟨o, m, E, es, ho, hr, Nat.le_refl _, fun _ => rfl⟩
  map := fun _ ents ho => .inr ⟨ents, ho, rfl⟩
  lt := fun _ _ ho => h.lt ho

theorem drew_ok {c : Cx} {st : St} {a : Act} {nt : Nat} (hR : Rel c st a nt) : Go1 c c.drew ∧ Rel c.drew st a nt := by
  have hs : SR c.drew := ⟨hR.sr.fresh, fun k o ho => ObOK.same (drew_pres hR.sr) rfl (fun _ _ _ => rfl) (hR.sr.ob k o ho), hR.sr.inj, hR.sr.mnf, hR.sr.bound⟩
  exact ⟨⟨hs, drew_pres hR.sr, ⟨rfl, rfl, rfl, Nat.le_refl _, fun _ _ _ => rfl⟩, fun _ hb => .inl hb, rfl⟩, hs, hR.S, fun i => VRep.keep (drew_pres hR.sr) _ _ (hR.T i), hR.sz, hR.df⟩

end
end Go.R

namespace Go.R
section
variable {c : Cx}

def Cx.mv (c : Cx) (q k z : Nat) (o ok' : Ob) : Cx :=
  { w := c.w, F := c.F, S := upd (upd (upd c.S q none) z (some o)) k (some ok'), U := fun j => c.U j ∨ j = z, σ := upd c.σ z (c.σ q) }

theorem ObOK.moved {c c' : Cx} (hp : Pres c c') {q j : Nat} (h4 : c'.σ j = c.σ q) (hw : c'.w = c.w) {x : Ob} (hrow : ∃ m E s es, rowEs x = some (m, E, s, es)) (hx : ObOK c q x) : ObOK c' j x := by
  obtain ⟨m, E, s, es, hr⟩ := hrow
  cases x with
  | map _ => simp [rowEs] at hr
  | grow m' E' s' ds =>
    cases m' with
    | true => obtain ⟨flat, f1, f2, f3, f4⟩ := hx; exact ⟨flat, by rw [h4, hw]; exact f1, f2, DVals.keep hp.keeps _ _ f3, f4⟩
    | false => exact ⟨by rw [h4]; exact DRep.keep hp.keeps _ _ hx.1, hx.2⟩
  | row m' E' s' es' =>
    cases m' with
    | true => obtain ⟨flat, f1, f2, f3, f4⟩ := hx; exact ⟨flat, by rw [h4, hw]; exact f1, f2, VVals.keep hp _ _ f3, f4⟩
    | false => exact hx

theorem mv_get {q k z : Nat} {o ok' : Ob} (hkz : k ≠ z) {j : Nat} {x : Ob} (h : (c.mv q k z o ok').S j = some x) : (j = k ∧ x = ok' ∧ (c.mv q k z o ok').σ j = c.σ k) ∨ (j = z ∧ x = o ∧ (c.mv q k z o ok').σ j = c.σ q) ∨ (j ≠ k ∧ j ≠ z ∧ j ≠ q ∧ c.S j = some x ∧ (c.mv q k z o ok').σ j = c.σ j) := by
  simp only [Cx.mv] at h ⊢
  by_cases h1 : j = k
  · subst h1
    rw [upd_same] at h
    cases h
    exact .inl ⟨rfl, rfl, by rw [upd_ne _ _ hkz]⟩
  · rw [upd_ne _ _ h1] at h
    by_cases h2 : j = z
    · subst h2
      rw [upd_same] at h
      cases h
      exact .inr (.inl ⟨rfl, rfl, by rw [upd_same]⟩)
    · rw [upd_ne _ _ h2] at h
      by_cases h3 : j = q
      · subst h3; rw [upd_same] at h; cases h
      · rw [upd_ne _ _ h3] at h
        exact .inr (.inr ⟨h1, h2, h3, h, by rw [upd_ne _ _ h2]⟩)

theorem move_ok (hsr : SR c) {q k z : Nat} {o ok ok' : Ob} (hq : c.S q = some o) (hk : c.S k = some ok) (hqk : q ≠ k) (hz : ¬ c.U z) (hrow : ∃ m E s es, rowEs o = some (m, E, s, es)) (hmut : isMut ok' = isMut ok)
    (hkind : (∃ b E s es es', rowEs ok = some (b, E, s, es) ∧ rowEs ok' = some (b, E, s, es') ∧ es'.length = es.length) ∨ (∃ e e', ok = .map e ∧ ok' = .map e'))
    (hob : Pres c (c.mv q k z o ok') → ObOK (c.mv q k z o ok') k ok') : Go1 c (c.mv q k z o ok') := by
  have hqz : q ≠ z := by rintro rfl; exact hz (hsr.lt hq)
  have hkz : k ≠ z := by rintro rfl; exact hz (hsr.lt hk)
  have hM : ∀ b, (c.mv q k z o ok').M b → c.M b := by
    rintro b ⟨j, x, h1, h2, h3⟩
    rcases mv_get hkz h1 with ⟨rfl, rfl, h4⟩ | ⟨rfl, rfl, h4⟩ | ⟨_, _, _, h5, h4⟩
    · exact ⟨_, ok, hk, by rw [← hmut]; exact h2, by rw [← h4]; exact h3⟩
    · exact ⟨q, _, hq, h2, by rw [← h4]; exact h3⟩
    · exact ⟨j, x, h5, h2, by rw [← h4]; exact h3⟩
  have hp : Pres c (c.mv q k z o ok') := {
    keeps := ⟨Nat.le_refl _, fun g b _ hn => ⟨rfl, fun h => hn (h.elim (fun h => .inl (hM b h)) .inr)⟩⟩
    n := fun _ h => .inl h
    gone := fun j hj hn => by
      simp only [Cx.mv]
      rw [upd_ne _ _ (by rintro rfl; rw [hk] at hn; cases hn), upd_ne _ _ (by rintro rfl; exact hz hj)]
      by_cases h3 : j = q
      · subst h3; rw [upd_same]
      · rw [upd_ne _ _ h3]; exact hn
    row := fun j x m E s es hj hr => by
      have hjz : j ≠ z := by rintro rfl; exact hz (hsr.lt hj)
      by_cases h1 : j = k
      · subst h1
        rw [hk] at hj
        cases hj
        rcases hkind with ⟨b, E', s', es0, es', g1, g2, g3⟩ | ⟨e, e', rfl, _⟩
        · rw [g1] at hr
          cases hr
          exact .inr ⟨ok', m, E, es', by simp [Cx.mv, upd_same], g2, by omega, fun _ => by simp only [Cx.mv]; rw [upd_ne _ _ hjz]⟩
        · simp [rowEs] at hr
      · by_cases h3 : j = q
        · subst h3
          exact .inl (by simp only [Cx.mv]; rw [upd_ne _ _ h1, upd_ne _ _ hjz, upd_same])
        · exact .inr ⟨x, m, E, es, by simp only [Cx.mv]; rw [upd_ne _ _ h1, upd_ne _ _ hjz, upd_ne _ _ h3]; exact hj, hr, Nat.le_refl _, fun _ => by simp only [Cx.mv]; rw [upd_ne _ _ hjz]⟩
    map := fun j ents hj => by
      have hjz : j ≠ z := by rintro rfl; exact hz (hsr.lt hj)
      by_cases h1 : j = k
      · subst h1
        rw [hk] at hj
        cases hj
        rcases hkind with ⟨b, E', s', es0, es', g1, g2, g3⟩ | ⟨e, e', _, rfl⟩
        · simp [rowEs] at g1
        · exact .inr ⟨e', by simp [Cx.mv, upd_same], by simp only [Cx.mv]; rw [upd_ne _ _ hjz]⟩
      · by_cases h3 : j = q
        · subst h3
          rw [hq] at hj
          cases hj
          obtain ⟨_, _, _, _, hr⟩ := hrow
          simp [rowEs] at hr
        · exact .inr ⟨ents, by simp only [Cx.mv]; rw [upd_ne _ _ h1, upd_ne _ _ hjz, upd_ne _ _ h3]; exact hj, by simp only [Cx.mv]; rw [upd_ne _ _ hjz]⟩
    lt := fun j x hj => hsr.lt hj }
  refine ⟨{
    fresh := fun j hj => by
      simp only [Cx.mv, not_or] at hj ⊢
      rw [upd_ne _ _ (by rintro rfl; exact hj.1 (hsr.lt hk)), upd_ne _ _ hj.2, upd_ne _ _ (by rintro rfl; exact hj.1 (hsr.lt hq))]
      exact hsr.fresh j hj.1
    ob := fun j x hj => by
      rcases mv_get hkz hj with ⟨rfl, rfl, h4⟩ | ⟨rfl, rfl, h4⟩ | ⟨_, _, _, h5, h4⟩
      · exact hob hp
      · exact ObOK.moved hp h4 rfl hrow (hsr.ob q _ hq)
      · exact ObOK.same hp h4 (fun _ _ _ => rfl) (hsr.ob j x h5)
    inj := fun j j' x x' b h1 m1 h2 m2 b1 b2 => by
      rcases mv_get hkz h1 with ⟨e1, e2, e3⟩ | ⟨e1, e2, e3⟩ | ⟨e1, e1', e1'', e2, e3⟩ <;> rcases mv_get hkz h2 with ⟨d1, d2, d3⟩ | ⟨d1, d2, d3⟩ | ⟨d1, d1', d1'', d2, d3⟩ <;> rw [e3] at b1 <;> rw [d3] at b2
      · rw [e1, d1]
      · exact absurd (hsr.inj k q ok o b hk (by rw [← hmut, ← e2]; exact m1) hq (by rw [← d2]; exact m2) b1 b2) (fun h => hqk h.symm)
      · exact absurd (hsr.inj k j' ok x' b hk (by rw [← hmut, ← e2]; exact m1) d2 m2 b1 b2) (fun h => d1 h.symm)
      · exact absurd (hsr.inj q k o ok b hq (by rw [← e2]; exact m1) hk (by rw [← hmut, ← d2]; exact m2) b1 b2) hqk
      · rw [e1, d1]
      · exact absurd (hsr.inj q j' o x' b hq (by rw [← e2]; exact m1) d2 m2 b1 b2) (fun h => d1'' h.symm)
      · exact absurd (hsr.inj j k x ok b e2 m1 hk (by rw [← hmut, ← d2]; exact m2) b1 b2) e1
      · exact absurd (hsr.inj j q x o b e2 m1 hq (by rw [← d2]; exact m2) b1 b2) e1''
      · exact hsr.inj j j' x x' b e2 m1 d2 m2 b1 b2
    mnf := fun g b hb => hsr.mnf g b (hM b hb)
    bound := hsr.bound }, hp, Ext.refl _ _, fun b hb => .inl (hM b hb), rfl⟩

theorem BB_pos : 0 < BB := by decide
theorem cid_div {k p : Nat} (h : p < BB) : cid k p / BB - 1 = k := by
  unfold cid
  rw [Nat.mul_add_div BB_pos, Nat.div_eq_of_lt h]
  omega
theorem cid_ge (k p : Nat) : BB ≤ cid k p := by
  unfold cid
  have : BB * 1 ≤ BB * (k + 1) := Nat.mul_le_mul_left _ (by omega)
  omega

/-- A reference to an object that is there: what it says of the cell. -/
theorem own_cell {q s N z k : Nat} {o ok' : Ob} {v : Value} (hsr : SR c) (h : VRep c (.own q s N) v) (hq : c.S q = some o) {m : Bool} {E : Nat} {es : List (List V)} (hr : rowEs o = some (m, E, s, es)) (hl : es.length = N) (hkz : k ≠ z) : VRep (c.mv q k z o ok') (.own z s N) v := by
  have hv := own_sigma h hq hr hl
  simp only [VRep] at h ⊢
  refine ⟨.inl ⟨o, m, E, es, ?_, hr, hl, ?_⟩, h.2⟩
  · simp only [Cx.mv]; rw [upd_ne _ _ (fun e => hkz e.symm), upd_same]
  · simp only [Cx.mv]; rw [upd_same]; exact hv

theorem set_splice {α : Type} {e : List α} {j : Nat} {x : α} (h : j < e.length) : e.set j x = splice e j [x] := by
  unfold splice
  rw [List.set_eq_take_append_cons_drop, if_pos h]
  simp
theorem splice_same {α : Type} {e : List α} {j : Nat} {x : α} (h : e[j]? = some x) : splice e j [x] = e := by
  obtain ⟨hj, rfl⟩ := List.getElem?_eq_some_iff.1 h
  rw [← set_splice hj]
  exact List.set_getElem_self hj

theorem MapR_move {c c' : Cx} (hp : Pres c c') {x : D} {y z : V} (hz : ∀ v, VRep c y v → VRep c' z v) : ∀ {ents : List (D × V)} {es : List MapEntry} {p : Nat}, MapR c ents es → ents[p]? = some (x, y) → MapR c' (ents.set p (x, z)) es
  | [], es, p, _, h => by simp at h
  | (k, v) :: r, es, 0, hm, h => by
    simp at h
    obtain ⟨rfl, rfl⟩ := h
    simp only [MapR, List.set_cons_zero] at hm ⊢
    obtain ⟨e, q, he, h1, h2, h3⟩ := hm
    exact ⟨e, q, he, DRep.keep hp.keeps _ _ h1, hz _ h2, MapR.keep hp _ _ h3⟩
  | (k, v) :: r, es, p + 1, hm, h => by
    simp only [MapR, List.set_cons_succ] at hm ⊢
    obtain ⟨e, q, he, h1, h2, h3⟩ := hm
    exact ⟨e, q, he, DRep.keep hp.keeps _ _ h1, VRep.keep hp _ _ h2, MapR_move hp hz h3 (by simpa using h)⟩

theorem HU.mv {n q k z : Nat} {o ok' : Ob} (hU : HU c n) (hqB : q < BB) (hq : c.U q) (hk : c.U k) (hkB : k < BB) (hz : BB ≤ z) (hzk : z / BB - 1 = k) : HU (c.mv q k z o ok') n := by
  have hkn : k < n := by
    rcases hU.2 k hk with h | h
    · exact h
    · omega
  refine ⟨hU.1, fun j hj => ?_⟩
  simp only [Cx.mv] at hj ⊢
  rcases hj with hj | rfl
  · rcases hU.2 j hj with h | ⟨h1, h2, h3⟩
    · exact .inl h
    · refine .inr ⟨h1, h2, ?_⟩
      by_cases e1 : j = k
      · omega
      · rw [upd_ne _ _ e1]
        by_cases e2 : j = z
        · subst e2; rw [upd_same]; simp
        · rw [upd_ne _ _ e2, upd_ne _ _ (by omega)]; exact h3
  · refine .inr ⟨hz, by omega, ?_⟩
    rw [upd_ne _ _ (by omega), upd_same]
    simp

theorem attRow_ok (hsr : SR c) {n k p : Nat} (hU : HU c n) {m : Bool} {E s : Nat} {es : List (List V)} (hk : c.S k = some (.row m E s es)) (hs : p % s < s) :
    ∃ c', Go1 c c' ∧ c'.S = attRow c.S k p m E s es ∧ HU c' n ∧ c'.w = c.w := by
  have triv : ∃ c', Go1 c c' ∧ c'.S = c.S ∧ HU c' n ∧ c'.w = c.w := ⟨c, .refl hsr, rfl, hU, rfl⟩
  unfold attRow
  split
  · exact triv
  · rename_i e he
    split
    · rename_i q s' N hx
      split
      · rename_i o ho
        split
        · rename_i m2 E2 s2 es2 hr
          split
          · rename_i hc
            obtain ⟨rfl, hqB, hqk, hkB, hpB, hl, rfl, hnone⟩ := hc
            have hz : ¬ c.U (cid k p) := fun h => by
              have hge := cid_ge k p
              rcases hU.2 _ h with h | ⟨_, _, h⟩
              · have := hU.1; omega
              · simp at hnone; exact h hnone
            have hkz : k ≠ cid k p := by have := cid_ge k p; omega
            refine ⟨c.mv q k (cid k p) o (.row true E s (es.set (p / s) (e.set (p % s) (.own (cid k p) s2 N)))), ?_, rfl, hU.mv hqB (hsr.lt ho) (hsr.lt hk) hkB (cid_ge k p) (cid_div hpB), rfl⟩
            refine move_ok hsr ho hk hqk hz ⟨_, _, _, _, hr⟩ rfl (.inl ⟨_, _, _, _, _, rfl, rfl, by simp⟩) fun hp => ?_
            obtain ⟨flat, f1, f2, f3, f4⟩ := hsr.ob k _ hk
            have hel : e.length = s := f2 e (List.mem_of_getElem? he)
            have hflat : es.flatten[p / s * s + p % s]? = some (.own q s2 N) := by
              obtain ⟨g1, g2, g3, _⟩ := flatten_split f2 he
              rw [g1, List.getElem?_append_right (by omega), g2, Nat.add_sub_cancel_left, List.getElem?_append_left (by omega)]
              exact hx
            obtain ⟨v0, hv0, hv1⟩ := VVals_get _ f3 hflat
            have hnew := own_cell (k := k) (z := cid k p) (ok' := .row true E s (es.set (p / s) (e.set (p % s) (.own (cid k p) s2 N)))) hsr hv1 ho hr hl hkz
            refine ⟨flat, ?_, set_lens (p / s) f2 (by rw [List.length_set]; exact hel), ?_, f4⟩
            · simp only [Cx.mv, List.length_set]
              rw [upd_ne _ _ hkz]
              exact f1
            · have hset : e.set (p % s) (.own (cid k p) s2 N) = splice e (p % s) [.own (cid k p) s2 N] := set_splice (by omega)
              have hfl : (es.set (p / s) (e.set (p % s) (.own (cid k p) s2 N))).flatten = splice es.flatten (p / s * s + p % s) [.own (cid k p) s2 N] := by
                rw [hset, flatten_set f2 he (by simp; omega)]
              rw [hfl]
              have := VVals_splice (p / s * s + p % s) (VVals.keep hp _ _ f3) (ys := [.own (cid k p) s2 N]) (vs := [v0]) ⟨v0, [], rfl, hnew, rfl⟩
              rw [splice_same hv0] at this
              exact this
          · exact triv
        · exact triv
      · exact triv
    · exact triv

theorem attMap_ok (hsr : SR c) {n k p : Nat} (hU : HU c n) {ents : List (D × V)} (hk : c.S k = some (.map ents)) :
    ∃ c', Go1 c c' ∧ c'.S = attMap c.S k p ents ∧ HU c' n ∧ c'.w = c.w := by
  have triv : ∃ c', Go1 c c' ∧ c'.S = c.S ∧ HU c' n ∧ c'.w = c.w := ⟨c, .refl hsr, rfl, hU, rfl⟩
  unfold attMap
  split
  · rename_i x q s' N hx
    split
    · rename_i o ho
      split
      · rename_i m2 E2 s2 es2 hr
        split
        · rename_i hc
          obtain ⟨hqB, hqk, hkB, hpB, hl, rfl, hnone⟩ := hc
          have hz : ¬ c.U (cid k p) := fun h => by
            have hge := cid_ge k p
            rcases hU.2 _ h with h | ⟨_, _, h⟩
            · have := hU.1; omega
            · simp at hnone; exact h hnone
          have hkz : k ≠ cid k p := by have := cid_ge k p; omega
          refine ⟨c.mv q k (cid k p) o (.map (ents.set p (x, .own (cid k p) s2 N))), ?_, rfl, hU.mv hqB (hsr.lt ho) (hsr.lt hk) hkB (cid_ge k p) (cid_div hpB), rfl⟩
          refine move_ok hsr ho hk hqk hz ⟨_, _, _, _, hr⟩ rfl (.inr ⟨_, _, rfl, rfl⟩) fun hp => ?_
          obtain ⟨r, es, cl, h1, h2, h3⟩ := hsr.ob k _ hk
          refine ⟨r, es, cl, ?_, h2, MapR_move hp (fun v hv => own_cell hsr hv ho hr hl hkz) h3 hx⟩
          simp only [Cx.mv]
          rw [upd_ne _ _ hkz]
          exact h1
        · exact triv
      · exact triv
    · exact triv
  · exact triv

theorem attach_ok (hsr : SR c) {n : Nat} (hU : HU c n) (x : V) (kk : Nat) (key : V) : ∃ c', Go1 c c' ∧ c'.S = attach c.S x kk key ∧ HU c' n ∧ c'.w = c.w := by
  have triv : ∃ c', Go1 c c' ∧ c'.S = c.S ∧ HU c' n ∧ c'.w = c.w := ⟨c, .refl hsr, rfl, hU, rfl⟩
  unfold attach
  split
  · split
    · rename_i k N i j m E s es hk
      split
      · rename_i hj
        exact attRow_ok hsr hU hk (Nat.mod_lt _ (by omega))
      · exact triv
    · exact triv
  · split
    · rename_i k y ents hk
      exact attMap_ok hsr hU hk
    · exact triv
  · exact triv

end
end Go.R

namespace Go.R

def exOf : Ex → Exit
  | .normal => .normal
  | .exit id => .exit id
  | .ret => .ret

section
variable {P : Program} {call : CallF} {nt : Nat}

theorem rg_ok (hm : P.follows .mixedOrders = true) (hcall : FnOK P call) {opsA : Array Oper} {draw : Bool} {id lf : Nat} {ac : AC} (ht : trRg P nt opsA draw = some ac) {c : Cx} {st st' : St} {e : Ex} {a : Act} {Q : Exit → Act → World → Prop} (h : exec call lf ac st = some (e, st'))
    (hR : Rel c st a nt) (hU : HU c st.n) (hQ : ∀ c' a', Go1 c c' → Rel c' st' a' nt → HU c' st'.n → Q (exOf e) a' c'.w) : (Code.region id opsA draw).wp P Q a c.w := by
  unfold trRg at ht
  split at ht
  · cases ht
  · rename_i l hl
    have hlen : l.length = opsA.size := by rw [mapO_length hl, Array.length_toList]
    cases draw with
    | false =>
      simp at ht
      subst ht
      simp only [exec] at h
      split at h
      · rename_i st1 fs h1
        split at h
        · rename_i hB
          simp only [Option.some.injEq, Prod.mk.injEq] at h
          obtain ⟨rfl, rfl⟩ := h
          refine wp_region ?_
          rw [List.range_eq_range']
          exact region_ok hcall hl opsA.size 0 (by omega) hR hU hB (by simpa using h1) fun c' a' hg hR' hU' => hQ c' a' hg hR' hU'
        · cases h
      · cases h
    | true =>
      simp only [if_true] at ht
      split at ht
      · rename_i hc
        simp only [Bool.and_eq_true] at hc
        simp only [Option.some.injEq] at ht
        subst ht
        simp only [exec] at h
        split at h
        · rename_i st1 fs hops
          split at h
          · rename_i hpB
            obtain ⟨hp, hB⟩ := hpB
            simp only [Option.some.injEq, Prod.mk.injEq] at h
            obtain ⟨rfl, rfl⟩ := h
            obtain ⟨r1, r2, r3, r4, r5⟩ := ops_run 0 hops
            obtain ⟨hg0, hR0⟩ := drew_ok hR
            refine wp_region_any hm ?_
            have := any_ok (c := c.drew) (T' := st1.T) (S' := st1.S) (N := st1.n) (Q := Q) hcall hl hc.1 hc.2 hp opsA.size (Array.replicate opsA.size false) (items 0 l fs) (T := st.T) (S := st.S) (a := a) ⟨hR0.sr, hR0.S, hR0.T, hR0.sz, hR0.df⟩ r2 ?_ (by simp) ?_ r5 ?_ ?_ ?_ ?_
            · exact this
            · have : ∀ (k : Nat) (l : List AI) (fs : List Fp), (items k l fs).length ≤ l.length := by
                intro k l
                induction l generalizing k with
                | nil => intro fs; simp [items]
                | cons x l ih => intro fs; cases fs with
                  | nil => simp [items]
                  | cons f fs => simp only [items, List.length_cons]; have := ih (k + 1) fs; omega
              rw [← hlen]; exact this 0 l fs
            · intro x hx
              obtain ⟨j, h1, h2, h3⟩ := items_get hx
              obtain ⟨h4, h5, h6, h7⟩ := r4 x hx
              simp only [Nat.zero_add] at h1
              subst h1
              have hj : x.idx < opsA.size := by rw [← hlen]; exact (List.getElem?_eq_some_iff.1 h2).1
              refine ⟨h2, h3, by simp [Array.getD, hj], fun k k1 k2 hk => by
                rcases hU.2 k hk with h | h <;> omega, h6, h7⟩
            · intro i hi hli
              obtain ⟨x, h1, h2⟩ := items_has (k := 0) r1 (j := i) (by omega)
              exact ⟨x, h1, by omega⟩
            · intro i j hli
              simp only [Array.getD] at hli
              split at hli <;> simp at hli
            · refine ⟨hB, fun k hk => ?_⟩
              rcases hU.2 k hk with h | ⟨e1, e2, e3⟩
              · exact .inl (by omega)
              · exact .inr ⟨e1, by omega, e3⟩
            · intro c' a' hg hR' hU'
              exact hQ c' a' (hg0.trans hg) ⟨hR'.sr, hR'.S, hR'.T, hR'.sz, hR'.df⟩ hU'
          · cases h
        · cases h
      · cases ht

theorem loop_ok {body : Code} {f : St → Option (Ex × St)}
    (ih : ∀ {c : Cx} {st st' : St} {e : Ex} {a : Act} {Q : Exit → Act → World → Prop}, f st = some (e, st') → Rel c st a nt → HU c st.n →
      (∀ c' a', Go1 c c' → Rel c' st' a' nt → HU c' st'.n → Q (exOf e) a' c'.w) → body.wp P Q a c.w) {Q : Exit → Act → World → Prop} {m : Nat} :
    ∀ (k : Nat) {c : Cx} {st st' : St} {e : Ex} {a : Act}, loopN f m k st = some (e, st') → st.n = m → Rel c st a nt → HU c st.n →
      (∀ c' a', Go1 c c' → Rel c' st' a' nt → HU c' st'.n → Q (exOf e) a' c'.w) → Code.rounds P body Q k a c.w := by
  intro k
  induction k with
  | zero => intro c st st' e a h; simp [loopN] at h
  | succ k ihk =>
    intro c st st' e a h hn hR hU hQ
    simp only [loopN] at h
    rw [rounds_succ]
    split at h
    · cases h
    · rename_i st1 hf
      refine ih hf hR hU fun c' a' hg hR' hU' => ?_
      obtain ⟨g1, g2, g3⟩ := gc_ok hg (m := m) (by rw [← hn]; exact hU) hU' hR'
      exact ihk (c := c'.drop m) h rfl g2 g3 fun c2 a2 hg2 hR2 hU2 => hQ c2 a2 (g1.trans hg2) hR2 hU2
    · rename_i e1 st1 hne hf
      simp only [Option.some.injEq, Prod.mk.injEq] at h
      obtain ⟨rfl, rfl⟩ := h
      refine ih hf hR hU fun c' a' hg hR' hU' => ?_
      have := hQ c' a' hg hR' hU'
      cases e1 with
      | normal => exact (hne rfl).elim
      | exit id => exact this
      | ret => exact this

theorem trRg_kind {ops : Array Oper} {draw : Bool} {ac : AC} (h : trRg P nt ops draw = some ac) : (∃ l, ac = .rg l) ∨ ∃ l ps, ac = .rgd l ps := by
  unfold trRg at h
  split at h
  · cases h
  · split at h
    · simp only at h
      split at h
      · simp at h; exact .inr ⟨_, _, h.symm⟩
      · cases h
    · simp at h; exact .inl ⟨_, h.symm⟩

theorem tr_rg {code : Code} {ac : AC} (h : trC P nt code = some ac) (hk : (∃ l, ac = .rg l) ∨ ∃ l ps, ac = .rgd l ps) : ∃ id ops draw, code = .region id ops draw ∧ trRg P nt ops draw = some ac := by
  cases code with
  | region id ops draw => exact ⟨id, ops, draw, rfl, h⟩
  | _ =>
    exfalso
    simp only [trC] at h
    repeat' split at h
    all_goals first
      | (cases h; done)
      | (simp only [Option.some.injEq] at h; subst h; rcases hk with ⟨_, hk⟩ | ⟨_, _, hk⟩ <;> cases hk)
      | (simp only [Option.map_eq_some_iff] at h; obtain ⟨_, _, rfl⟩ := h; rcases hk with ⟨_, hk⟩ | ⟨_, _, hk⟩ <;> cases hk)

theorem tr_inv {code : Code} {ac : AC} (h : trC P nt code = some ac) : (∃ id ops draw, code = .region id ops draw ∧ ((∃ l, ac = .rg l) ∨ ∃ l ps, ac = .rgd l ps)) ∨ (code = .skip ∧ ac = .skip) ∨ (∃ x y a b, code = .seq x y ∧ ac = .seq a b ∧ trC P nt x = some a ∧ trC P nt y = some b) ∨
    (∃ k x y c a b, code = .cond k x y ∧ ac = .cond c a b ∧ trOpd (0, 0) k = some c ∧ trC P nt x = some a ∧ trC P nt y = some b) ∨ (∃ id x a, code = .block id x ∧ ac = .blk id a ∧ trC P nt x = some a) ∨
    (∃ x a, code = .loop x ∧ ac = .lp a ∧ trC P nt x = some a) ∨ (∃ id, code = .exit id ∧ ac = .exit id) ∨ (code = .ret ∧ ac = .ret) := by
  cases code with
  | region id ops draw => exact .inl ⟨id, ops, draw, rfl, trRg_kind h⟩
  | skip => simp [trC] at h; subst h; simp
  | seq x y =>
    simp only [trC] at h
    split at h
    · rename_i a b h1 h2; simp at h; subst h; exact .inr (.inr (.inl ⟨x, y, a, b, rfl, rfl, h1, h2⟩))
    · cases h
  | cond k x y =>
    simp only [trC] at h
    split at h
    · rename_i c a b h0 h1 h2; simp at h; subst h; exact .inr (.inr (.inr (.inl ⟨k, x, y, c, a, b, rfl, rfl, h0, h1, h2⟩)))
    · cases h
  | block id x =>
    simp only [trC, Option.map_eq_some_iff] at h
    obtain ⟨a, h1, rfl⟩ := h
    exact .inr (.inr (.inr (.inr (.inl ⟨id, x, a, rfl, rfl, h1⟩))))
  | loop x =>
    simp only [trC, Option.map_eq_some_iff] at h
    obtain ⟨a, h1, rfl⟩ := h
    exact .inr (.inr (.inr (.inr (.inr (.inl ⟨x, a, rfl, rfl, h1⟩)))))
  | exit id => simp [trC] at h; subst h; simp
  | ret => simp [trC] at h; subst h; simp
  | _ => simp [trC] at h

theorem Rel.kl {c : Cx} {st : St} {a : Act} (h : Rel c st a nt) (live : List Nat) : Rel c { st with T := keepT live st.T } a nt :=
  ⟨h.sr, h.S, fun i => by simp only [keepT]; split; exact h.T i; simp [VRep], h.sz, h.df⟩

theorem code_ok (hm : P.follows .mixedOrders = true) (hcall : FnOK P call) {lf : Nat} : ∀ (ac : AC) (code : Code), trC P nt code = some (erase ac) → ∀ {c : Cx} {st st' : St} {e : Ex} {a : Act} {Q : Exit → Act → World → Prop}, exec call lf ac st = some (e, st') →
    Rel c st a nt → HU c st.n → (∀ c' a', Go1 c c' → Rel c' st' a' nt → HU c' st'.n → Q (exOf e) a' c'.w) → code.wp P Q a c.w := by
  intro ac
  induction ac with
  | kl live x ih =>
    intro code ht c st st' e a Q h hR hU hQ
    simp only [erase] at ht
    simp only [exec] at h
    exact ih code ht h (hR.kl live) hU hQ
  | att x kk key y ih =>
    intro code ht c st st' e a Q h hR hU hQ
    simp only [erase] at ht
    simp only [exec] at h
    obtain ⟨c1, g1, g2, g3, g4⟩ := attach_ok hR.sr hU (ev st.T x) kk (ev st.T key)
    rw [← g4]
    refine ih code ht h ⟨g1.sr, by rw [g2, hR.S], fun i => VRep.keep g1.pres _ _ (hR.T i), hR.sz, hR.df⟩ g3 fun c2 a2 hg2 hR2 hU2 => hQ c2 a2 (g1.trans hg2) hR2 hU2
  | skip =>
    intro code ht c st st' e a Q h hR hU hQ
    obtain ⟨_, _, _, _, h | h⟩ | ⟨rfl, hs⟩ | h | h | h | h | h | h := tr_inv ht
    case inr.inl =>
      simp [exec] at h; obtain ⟨rfl, rfl⟩ := h
      exact wp_skip (hQ c a (.refl hR.sr) hR hU)
    all_goals simp [erase] at h
  | rg l =>
    intro code ht c st st' e a Q h hR hU hQ
    obtain ⟨id, ops, draw, rfl, hr⟩ := tr_rg ht (.inl ⟨l, rfl⟩)
    exact rg_ok hm hcall hr h hR hU hQ
  | rgd l ps =>
    intro code ht c st st' e a Q h hR hU hQ
    obtain ⟨id, ops, draw, rfl, hr⟩ := tr_rg ht (.inr ⟨l, ps, rfl⟩)
    exact rg_ok hm hcall hr h hR hU hQ
  | seq a1 a2 ih1 ih2 =>
    intro code ht c st st' e a Q h hR hU hQ
    obtain ⟨_, _, _, _, h | h⟩ | h | ⟨x, y, b1, b2, rfl, hs, h1, h2⟩ | h | h | h | h | h := tr_inv ht
    case inr.inr.inl =>
      simp only [erase, AC.seq.injEq] at hs
      obtain ⟨rfl, rfl⟩ := hs
      simp only [exec] at h
      refine wp_seq ?_
      split at h
      · cases h
      · rename_i st1 hx
        refine ih1 x h1 hx hR hU fun c' a' hg hR' hU' => ?_
        exact ih2 y h2 h hR' hU' fun c2 a2 hg2 hR2 hU2 => hQ c2 a2 (hg.trans hg2) hR2 hU2
      · rename_i e1 st1 hne hx
        simp only [Option.some.injEq, Prod.mk.injEq] at h
        obtain ⟨rfl, rfl⟩ := h
        refine ih1 x h1 hx hR hU fun c' a' hg hR' hU' => ?_
        have := hQ c' a' hg hR' hU'
        cases e1 with
        | normal => exact (hne rfl).elim
        | exit id => exact this
        | ret => exact this
    all_goals simp [erase] at h
  | cond c0 a1 a2 ih1 ih2 =>
    intro code ht c st st' e a Q h hR hU hQ
    obtain ⟨_, _, _, _, h | h⟩ | h | h | ⟨k, x, y, c1, b1, b2, rfl, hs, hk, h1, h2⟩ | h | h | h | h := tr_inv ht
    case inr.inr.inr.inl =>
      simp only [erase, AC.cond.injEq] at hs
      obtain ⟨rfl, rfl, rfl⟩ := hs
      simp only [exec] at h
      have hv := ev_ok hR.T hk
      split at h
      · rename_i b hb
        rw [hb] at hv
        simp only [VRep, DRep] at hv
        refine wp_cond hv ?_
        cases b with
        | true => simp only [if_true] at h ⊢; exact ih1 x h1 h hR hU hQ
        | false => simp only [Bool.false_eq_true, if_false] at h ⊢; exact ih2 y h2 h hR hU hQ
      · cases h
    all_goals simp [erase] at h
  | both a0 c0 a1 a2 a3 ih0 ih1 ih2 ih3 =>
    intro code ht c st0 st' e a Q h hR hU hQ
    simp only [erase] at ht
    obtain ⟨_, _, _, _, h' | h'⟩ | h' | ⟨x0, z, b0, b3, rfl, hs, h0, h3⟩ | h' | h' | h' | h' | h' := tr_inv ht
    case inr.inr.inl =>
      simp only [AC.seq.injEq] at hs
      obtain ⟨rfl, rfl⟩ := hs
      obtain ⟨_, _, _, _, h' | h'⟩ | h' | ⟨xp, xc, bp, bc, rfl, hs, hxp, hxc⟩ | h' | h' | h' | h' | h' := tr_inv h0
      case inr.inr.inl =>
        simp only [AC.seq.injEq] at hs
        obtain ⟨rfl, rfl⟩ := hs
        obtain ⟨_, _, _, _, h' | h'⟩ | h' | h' | ⟨k, x, y, c1, b1, b2, rfl, hs, hk, h1, h2⟩ | h' | h' | h' | h' := tr_inv hxc
        case inr.inr.inr.inl =>
          simp only [AC.cond.injEq] at hs
          obtain ⟨rfl, rfl, rfl⟩ := hs
          simp only [exec] at h
          split at h
          · rename_i st hp
            refine wp_seq (wp_seq (ih0 xp hxp hp hR hU fun c' a' hg hR hU => ?_))
            have hQ' : ∀ c2 a2, Go1 c' c2 → Rel c2 st' a2 nt → HU c2 st'.n → Q (exOf e) a2 c2.w := fun c2 a2 hg2 hR2 hU2 => hQ c2 a2 (hg.trans hg2) hR2 hU2
            have hv := ev_ok hR.T hk
            have one : ∀ (b : Bool), a'.eval k = .bool b → thenX (if b then exec call lf a1 else exec call lf a2) (exec call lf a3) st = some (e, st') → (Code.cond k x y).wp P (Exit.then (z.wp P Q) Q) a' c'.w := by
              intro b hb h
              refine wp_cond hb ?_
              simp only [thenX] at h
              have hgo : ∀ (f : St → Option (Ex × St)) (xx : Code), (∀ {st1 : St} {e1 : Ex} {Q : Exit → Act → World → Prop}, f st = some (e1, st1) → (∀ c2 a2, Go1 c' c2 → Rel c2 st1 a2 nt → HU c2 st1.n → Q (exOf e1) a2 c2.w) → xx.wp P Q a' c'.w) →
                  (match f st with | none => none | some (.normal, st') => exec call lf a3 st' | some (e, st') => some (e, st')) = some (e, st') → xx.wp P (Exit.then (z.wp P Q) Q) a' c'.w := by
                intro f xx hf h
                split at h
                · cases h
                · rename_i st1 hx
                  exact hf hx fun c2 a2 hg hR' hU' => ih3 z h3 h hR' hU' fun c3 a3 hg2 hR2 hU2 => hQ' c3 a3 (hg.trans hg2) hR2 hU2
                · rename_i e1 st1 hne hx
                  simp only [Option.some.injEq, Prod.mk.injEq] at h
                  obtain ⟨rfl, rfl⟩ := h
                  refine hf hx fun c2 a2 hg hR' hU' => ?_
                  have := hQ' c2 a2 hg hR' hU'
                  cases e1 with
                  | normal => exact (hne rfl).elim
                  | exit id => exact this
                  | ret => exact this
              cases b with
              | true => exact hgo (exec call lf a1) x (fun hx hq => ih1 x h1 hx hR hU hq) h
              | false => exact hgo (exec call lf a2) y (fun hx hq => ih2 y h2 hx hR hU hq) h
            have fin : (Code.cond k x y).wp P (Exit.then (z.wp P Q) Q) a' c'.w := by
              split at h
              · rename_i b hb
                rw [hb] at hv
                simp only [VRep, DRep] at hv
                exact one b hv h
              · rename_i hb
                rw [hb] at hv
                simp only [VRep] at hv
                obtain ⟨b, hv⟩ := hv
                unfold same at h
                split at h
                · rename_i heq
                  cases b with
                  | true => exact one true hv h
                  | false => exact one false hv (by rw [heq] at h; exact h)
                · cases h
              · cases h
            exact fin
          · cases h
        all_goals simp at h'
      all_goals simp at h'
    all_goals simp at h'
  | blk id a1 ih =>
    intro code ht c st st' e a Q h hR hU hQ
    obtain ⟨_, _, _, _, h | h⟩ | h | h | h | ⟨id', x, b1, rfl, hs, h1⟩ | h | h | h := tr_inv ht
    case inr.inr.inr.inr.inl =>
      simp only [erase, AC.blk.injEq] at hs
      obtain ⟨rfl, rfl⟩ := hs
      simp only [exec] at h
      refine wp_block ?_
      split at h
      · cases h
      · rename_i i st1 hx
        refine ih x h1 hx hR hU fun c' a' hg hR' hU' => ?_
        simp only [exOf, Exit.inBlock]
        split at h
        · rename_i hi
          simp only [Option.some.injEq, Prod.mk.injEq] at h
          obtain ⟨rfl, rfl⟩ := h
          rw [if_pos hi]
          exact hQ c' a' hg hR' hU'
        · rename_i hi
          simp only [Option.some.injEq, Prod.mk.injEq] at h
          obtain ⟨rfl, rfl⟩ := h
          rw [if_neg hi]
          exact hQ c' a' hg hR' hU'
      · rename_i e1 st1 hne hx
        simp only [Option.some.injEq, Prod.mk.injEq] at h
        obtain ⟨rfl, rfl⟩ := h
        refine ih x h1 hx hR hU fun c' a' hg hR' hU' => ?_
        have := hQ c' a' hg hR' hU'
        cases e1 with
        | normal => exact this
        | exit id => exact (hne _ rfl).elim
        | ret => exact this
    all_goals simp [erase] at h
  | lp a1 ih =>
    intro code ht c st st' e a Q h hR hU hQ
    obtain ⟨_, _, _, _, h | h⟩ | h | h | h | h | ⟨x, b1, rfl, hs, h1⟩ | h | h := tr_inv ht
    case inr.inr.inr.inr.inr.inl =>
      simp only [erase, AC.lp.injEq] at hs
      subst hs
      simp only [exec] at h
      exact wp_loop_rounds lf (loop_ok (fun hf => ih x h1 hf) lf h rfl hR hU hQ)
    all_goals simp [erase] at h
  | exit id =>
    intro code ht c st st' e a Q h hR hU hQ
    obtain ⟨_, _, _, _, h | h⟩ | h | h | h | h | h | ⟨id', rfl, hs⟩ | h := tr_inv ht
    case inr.inr.inr.inr.inr.inr.inl =>
      simp only [erase, AC.exit.injEq] at hs
      subst hs
      simp [exec] at h; obtain ⟨rfl, rfl⟩ := h
      exact wp_exit (hQ c a (.refl hR.sr) hR hU)
    all_goals simp [erase] at h
  | ret =>
    intro code ht c st st' e a Q h hR hU hQ
    obtain ⟨_, _, _, _, h | h⟩ | h | h | h | h | h | h | ⟨rfl, hs⟩ := tr_inv ht
    case inr.inr.inr.inr.inr.inr.inr =>
      simp [exec] at h; obtain ⟨rfl, rfl⟩ := h
      exact wp_ret (hQ c a (.refl hR.sr) hR hU)
    all_goals simp [erase] at h

/-! ### functions -/
def resG (a : Act) : ResultVar → Sem Value
  | .tmp t => pure (a.tmps.getD t undef)
  | .cell q t => do loadVar t (← asAddr (a.tmps.getD q undef))

theorem results_eq (fn : Func) (a : Act) : results fn a.tmps = (do
    let vs ← fn.results.mapM (resG a)
    pure (if h : vs.size = 1 then vs[0] else .tuple vs)) := by
  unfold results
  congr 2

theorem res_ok {c : Cx} {st : St} {a : Act} (hR : Rel c st a nt) {r : ResultVar} {s : Rs} (ht : trRes P r = some s) {v : V} (h : resV st s = some v) :
    ∃ u, (resG a r).run P c.w = .ok u c.w ∧ VRep c v u := by
  unfold resG
  cases r with
  | tmp t =>
    simp [trRes] at ht; subst ht
    simp [resV] at h; subst h
    exact ⟨_, rfl, hR.T t⟩
  | cell q t =>
    simp only [trRes] at ht
    split at ht
    · rename_i n b hn hb
      split at ht
      · simp at ht; subst ht
        simp only [resV] at h
        have hq := hR.T q
        split at h
        · rename_i k N i j hk
          rw [hk] at hq
          split at h
          · rename_i o ho
            rw [← hR.S] at ho
            obtain ⟨ad, u, hu, hr, hv⟩ := rd_run (P := P) hR.sr hq ho hn hb h
            exact ⟨u, by simp [hu, asAddr, hr], hv⟩
          · cases h
        · cases h
      · cases ht
    · cases ht

theorem ress_ok {c : Cx} {st : St} {a : Act} (hR : Rel c st a nt) : ∀ {rs : List ResultVar} {ss : List Rs} {vs : List V}, mapO (trRes P) rs = some ss → mapO (resV st) ss = some vs →
    ∃ us : List Value, (rs.mapM (resG a)).run P c.w = .ok us c.w ∧ VVals c vs us
  | [], ss, vs, h1, h2 => by
    simp [mapO] at h1; subst h1
    simp [mapO] at h2; subst h2
    exact ⟨[], by simp, by simp [VVals]⟩
  | r :: rs, ss, vs, h1, h2 => by
    obtain ⟨s, q, hs, hq, rfl⟩ := mapO_cons h1
    obtain ⟨v, w, hv, hw, rfl⟩ := mapO_cons h2
    obtain ⟨u, e1, e2⟩ := res_ok hR hs hv
    obtain ⟨us, e3, e4⟩ := ress_ok hR hq hw
    refine ⟨u :: us, ?_, ?_⟩
    · rw [List.mapM_cons]
      simp only [Sem.run_bind, e1, Result.andThen_ok, e3, Sem.run_pure]
    · simp only [VVals]; exact ⟨u, us, rfl, e2, e4⟩

theorem fin_ok {c : Cx} {st : St} {a : Act} (hR : Rel c st a nt) {fn : Func} {ss : List Rs} (ht : mapO (trRes P) fn.results.toList = some ss) {v : V} (h : fin ss st = some v) : ∃ u, (results fn a.tmps).run P c.w = .ok u c.w ∧ VRep c v u := by
  unfold fin at h
  split at h
  · rename_i v' hv
    simp only [Option.some.injEq] at h
    subst h
    obtain ⟨us, h1, h2⟩ := ress_ok hR ht hv
    simp only [VVals] at h2
    obtain ⟨u, r, rfl, h3, rfl⟩ := h2
    refine ⟨u, ?_, h3⟩
    rw [results_eq, Array.mapM_eq_mapM_toList]
    simp only [Sem.run_bind, Sem.run_map, h1, Result.andThen_ok, Sem.run_pure]
    rfl
  · rename_i vs hne hv
    simp only [Option.some.injEq] at h
    subst h
    obtain ⟨us, h1, h2⟩ := ress_ok hR ht hv
    have hl := VVals_length h2
    refine ⟨.tuple us.toArray, ?_, ?_⟩
    · rw [results_eq, Array.mapM_eq_mapM_toList]
      simp only [Sem.run_bind, Sem.run_map, h1, Result.andThen_ok, Sem.run_pure]
      rw [dif_neg]
      simp only [List.size_toArray]
      intro h1
      rw [hl] at h1
      cases vs with
      | nil => simp at h1
      | cons x r => cases r with
        | nil => exact hne x rfl
        | cons _ _ => simp at h1
    · simp only [VRep]; exact ⟨us, rfl, h2⟩
  · cases h

/-- The state with nothing of its own. -/
def Cx.bare (c : Cx) : Cx := { w := c.w, F := c.F, S := fun _ => none, U := fun _ => False, σ := c.σ }

theorem bare_M {c : Cx} {b : Nat} : ¬ c.bare.M b := by rintro ⟨k, o, h, _⟩; simp [Cx.bare] at h
theorem bare_fb {c : Cx} {g b : Nat} (h : c.bare.fb g b) : c.F g b := h.elim (fun h => absurd h bare_M) id
theorem bare_sr {c : Cx} (h : ∀ g b, c.F g b → b < c.w.heap.size) : SR c.bare where
  fresh := fun _ _ => rfl
  ob := fun k o h => by simp [Cx.bare] at h
  inj := fun k k' o o' b h => by simp [Cx.bare] at h
  mnf := fun g b h => absurd h bare_M
  bound := h

theorem lendD_ok {c : Cx} (hsr : SR c) {k : Nat} {x : V} {v : Value} {d : D} (h : VRep c x v) (hd : lendV k c.S x = some d) : DRep c.w c.bare.fb d v :=
  DRep.keep ⟨Nat.le_refl _, fun g b _ hn => ⟨rfl, fun h => hn (.inr (bare_fb h))⟩⟩ _ _ (lend_ok hsr (L := fun _ => True) k x v d h hd fun _ _ => trivial)

theorem lendDs_ok {c : Cx} (hsr : SR c) {k : Nat} : ∀ {xs : List V} {vs : List Value} {ds : List D}, VVals c xs vs → mapO (lendV k c.S) xs = some ds → DVals c.w c.bare.fb ds vs
  | [], vs, ds, h, hd => by
    simp [mapO] at hd; subst hd
    simp only [VVals] at h
    simpa [DVals] using h
  | x :: xs, vs, ds, h, hd => by
    obtain ⟨d, q, h1, h2, rfl⟩ := mapO_cons hd
    simp only [VVals] at h
    obtain ⟨v, r, rfl, h3, h4⟩ := h
    simp only [DVals]
    exact ⟨v, r, rfl, lendD_ok hsr h3 h1, lendDs_ok hsr h4 h2⟩

theorem lendR_ok {c : Cx} (hsr : SR c) {k : Nat} {x r : V} {v : Value} (h : VRep c x v) (hd : lendR k c.S x = some r) : VRep c.bare r v := by
  unfold lendR at hd
  split at hd
  · rename_i vs
    simp only [Option.map_eq_some_iff] at hd
    obtain ⟨l, hl, rfl⟩ := hd
    simp only [VRep] at h ⊢
    obtain ⟨us, rfl, h1⟩ := h
    exact ⟨us, rfl, (DVals_map _ _).2 (lendDs_ok hsr h1 hl)⟩
  · simp only [Option.map_eq_some_iff] at hd
    obtain ⟨d, hd, rfl⟩ := hd
    simp only [VRep]
    exact lendD_ok hsr h hd

theorem DVals_at {w : World} {fb : Forb} : ∀ {ds : List D} {vs : List Value} {i : Nat} {d : D}, DVals w fb ds vs → ds[i]? = some d → ∃ v, vs[i]? = some v ∧ DRep w fb d v
  | [], vs, i, d, _, h => by simp at h
  | x :: ds, vs, i, d, h, hd => by
    simp only [DVals] at h
    obtain ⟨v, r, rfl, h1, h2⟩ := h
    cases i with
    | zero => simp at hd; subst hd; exact ⟨v, rfl, h1⟩
    | succ i => simpa using DVals_at h2 (i := i) (d := d) (by simpa using hd)

/-- What a configuration says of its program. -/
structure CfgOK (P : Program) (C : Cfg) : Prop where
  fn : ∀ f F, C.fn f = some F → ∃ fn, P.funcs[f]? = some fn ∧ trF P fn = some { F with code := erase F.code } ∧ (fn.name == "runtime.NumGoroutine") = false
  intr : ∀ f I, C.intr f = some I → FnOK P fun g ds => if g = f then I ds else none

theorem run_ok (hm : P.follows .mixedOrders = true) {C : Cfg} (hC : CfgOK P C) : ∀ k, FnOK P (run C k) := by
  intro k
  induction k with
  | zero => intro f ds r os h; simp [run] at h
  | succ k ih =>
    intro f ds r os h
    simp only [run] at h
    split at h
    · rename_i I hI
      exact hC.intr f I hI f ds r os (by simpa using h)
    · split at h
      · cases h
      · rename_i F hF
        split at h
        · rename_i hnp
          split at h
          · rename_i e st he
            split at h
            · rename_i hend
              split at h
              · rename_i v hv
                obtain ⟨fn, hfn, htr, hname⟩ := hC.fn f F hF
                unfold trF at htr
                split at htr
                · cases htr
                · rename_i code hbody
                  split at htr
                  · rename_i ac rs hac hrs
                    split at htr
                    · rename_i hsz
                      simp only [Option.some.injEq, FnI.mk.injEq] at htr
                      obtain ⟨hac', hnp', hnt', hres'⟩ := htr
                      rw [hac'] at hac
                      rw [hres'] at hrs
                      refine ⟨⟨fn, hfn, by simp [hbody], hname⟩, fun w F0 cargs hF0 hargs => ?_⟩
                      refine calls_of_wp hfn hbody ?_
                      let c0 : Cx := Cx.bare { w := w, F := F0, S := fun _ => none, U := fun _ => False, σ := fun _ => undef }
                      have hlen := DVals_length hargs
                      have hR0 : Rel c0 (init ds) { tmps := cargs.toArray ++ Array.replicate (fn.ntmps - cargs.toArray.size) undef, defers := [] } fn.ntmps := by
                        refine ⟨bare_sr hF0, rfl, fun i => ?_, ?_, rfl⟩
                        · simp only [init]
                          cases hi : ds[i]? with
                          | none => simp only [VRep]
                          | some x =>
                            simp only [VRep]
                            obtain ⟨v, h1, h2⟩ := DVals_at hargs hi
                            have : (cargs.toArray ++ Array.replicate (fn.ntmps - cargs.toArray.size) undef).getD i undef = v := by
                              rw [Array.getD_eq_getD_getElem?, Array.getElem?_append_left (by
                                have := (List.getElem?_eq_some_iff.1 h1).1
                                simpa using this)]
                              simp [h1]
                            rw [this]
                            exact DRep.keep ⟨Nat.le_refl _, fun g b _ hn => ⟨rfl, fun h => hn (bare_fb h)⟩⟩ _ _ h2
                        · simp
                          omega
                      refine code_ok hm ih F.code code hac he hR0 ⟨Nat.zero_le _, fun _ h => h.elim⟩ fun c' a' hg hR' _ => ?_
                      obtain ⟨u, hu, hvu⟩ := fin_ok hR' hrs hv
                      have hpost : bodyPost P fn (fun e w' => ∃ v c', e = .returned v ∧ Left F0 w w' os c' ∧ VRep c' r v) .normal a' c'.w := by
                        have hext : Ext (fun _ => False) w c'.w := hg.ext.mono fun b hb => absurd hb bare_M
                        rw [← hR'.S] at h
                        unfold answer at h
                        split at h
                        · obtain ⟨c2, g1, g2, g3, g4, g5, g6, g7⟩ := retO_ok hR'.sr hvu h
                          exact ⟨hR'.df, u, hu, u, c2, rfl, ⟨g1, g2.trans hg.F, g3, g4, g5, hext, fun b hb => (hg.mb b (g6 b hb)).elim (fun h => absurd h bare_M) id⟩, g7⟩
                        · simp only [Option.map_eq_some_iff, Prod.mk.injEq] at h
                          obtain ⟨r', hr, rfl, rfl⟩ := h
                          exact ⟨hR'.df, u, hu, u, c'.bare, rfl, ⟨rfl, hg.F, bare_sr hg.sr.bound, rfl, fun _ h => h.elim, hext, fun b hb => absurd hb bare_M⟩, lendR_ok hR'.sr hvu hr⟩
                      cases e with
                      | normal => exact hpost
                      | ret => exact hpost
                      | exit id => simp [endOk] at hend
                    · cases htr
                  · cases htr
              · cases h
            · cases h
          · cases h
        · cases h

end
end Go.R

namespace Go.R

theorem mapM_some {α β : Type} {f : α → Option β} : ∀ {l : List α} {r : List β}, l.mapM f = some r → r.length = l.length ∧ ∀ {i : Nat} {x : α}, l[i]? = some x → ∃ y, r[i]? = some y ∧ f x = some y
  | [], r, h => by
    simp at h; subst h
    exact ⟨rfl, fun h => by simp at h⟩
  | a :: l, r, h => by
    rw [List.mapM_cons] at h
    cases ha : f a with
    | none => rw [ha] at h; simp at h
    | some b =>
      cases hl : l.mapM f with
      | none => rw [ha, hl] at h; simp at h
      | some q =>
        rw [ha, hl] at h
        simp at h
        subst h
        obtain ⟨h1, h2⟩ := mapM_some hl
        refine ⟨by simp [h1], fun {i x} hx => ?_⟩
        cases i with
        | zero => simp at hx; subst hx; exact ⟨b, rfl, ha⟩
        | succ i => simpa using h2 (i := i) (x := x) (by simpa using hx)

theorem cells_some {w : World} {base n : Nat} {a : Addr} {cs : List Value} (h : w.cells? base a n = some cs) : cs.length = n ∧ ∀ j, j < n → ∃ v, cs[j]? = some v ∧ w.cell? (a.add j) = some v := by
  unfold World.cells? at h
  split at h
  · obtain ⟨h1, h2⟩ := mapM_some h
    refine ⟨by simpa using h1, fun j hj => ?_⟩
    exact h2 (i := j) (x := j) (by simp [hj])
  · cases h

variable {H : Type} {enc : TypeId × Value → H} {P : Program} {w : World} {base : Nat} {spare : Nat → Bool} {held : Bool} {fb : Forb}

theorem dcells_of {b : Nat} : ∀ {xs : List D} {cs : List Value} {o : Nat}, DVals w fb xs cs → (∀ v ∈ cs, v.oneCell' = true) → (∀ j v, cs[j]? = some v → w.cell? ⟨b, o + j, none⟩ = some v) → DCells w fb b xs o
  | [], cs, o, _, _, _ => by simp [DCells]
  | x :: xs, cs, o, h, h1, h2 => by
    simp only [DVals] at h
    obtain ⟨v, r, rfl, h3, h4⟩ := h
    simp only [DCells]
    refine ⟨⟨v, by simpa using h2 0 v rfl, h1 v (by simp), h3⟩, ?_⟩
    refine dcells_of h4 (fun u hu => h1 u (by simp [hu])) fun j u hu => ?_
    have := h2 (j + 1) u (by simpa using hu)
    rwa [show o + (j + 1) = o + 1 + j by omega] at this

/-- A slice of what is read as rows of cells. -/
theorem trod_slice {α : Type} {t e : TypeId} {s : Nat} (hu : P.underlying t = some (.slice e)) (hs : P.cellsOf e = s) (hs0 : 0 < s) (encd : α → List D) (ok : α → Prop) (hlen : ∀ x, (encd x).length = s) (hfb : ∀ g b, ¬ fb g b)
    (hel : ∀ fuel cs d ps, DataW.trod enc P w base spare held fuel e cs = some (d, ps) → ∃ x, DVals w fb (encd x) cs ∧ (∀ v ∈ cs, v.oneCell' = true) ∧ ok x)
    {fuel : Nat} {cs : List Value} {d : DataW H} {ps : List MemPlace} (h : DataW.trod enc P w base spare held fuel t cs = some (d, ps)) :
    ∃ (xs : List α) (v : Value), cs = [v] ∧ DRep w fb (.slice 0 s (xs.map encd)) v ∧ v.oneCell' = true ∧ xs.length ≤ maxLen ∧ ∀ x ∈ xs, ok x := by
  cases fuel with
  | zero => simp [DataW.trod] at h
  | succ fuel =>
    have hform : (cs = [.slice none 0 0]) ∨ ∃ a len cap, cs = [.slice (some a) len cap] := by
      cases cs with
      | nil => simp [DataW.trod, hu] at h
      | cons v r =>
        cases r with
        | cons _ _ => simp [DataW.trod, hu] at h
        | nil =>
          cases v with
          | slice a len cap =>
            cases a with
            | some a => exact .inr ⟨a, len, cap, rfl⟩
            | none =>
              cases len with
              | succ _ => simp [DataW.trod, hu] at h
              | zero => cases cap with
                | succ _ => simp [DataW.trod, hu] at h
                | zero => exact .inl rfl
          | _ => simp [DataW.trod, hu] at h
    rcases hform with rfl | ⟨a, len, cap, rfl⟩
    · refine ⟨[], _, rfl, ?_, rfl, Nat.zero_le _, by simp⟩
      simp only [DRep]
      exact ⟨none, 0, rfl, Nat.le_refl _, by simp⟩
    · simp only [DataW.trod, hu] at h
      split at h
      · rename_i hc
        obtain ⟨_, hlc, hcm⟩ := hc
        simp only [Option.bind_eq_some_iff] at h
        obtain ⟨elems, hel1, _⟩ := h
        obtain ⟨hl, hat⟩ := mapM_some hel1
        simp only [List.length_range] at hl
        have each : ∀ i, i < len → ∃ cs x, w.cells? base (a.add (i * s)) s = some cs ∧ DVals w fb (encd x) cs ∧ (∀ v ∈ cs, v.oneCell' = true) ∧ ok x := by
          intro i hi
          obtain ⟨y, _, hy⟩ := hat (i := i) (x := i) (by simp [hi])
          simp only [Option.bind_eq_some_iff, hs] at hy
          obtain ⟨cs, h1, h2⟩ := hy
          obtain ⟨x, h3, h4, h5⟩ := hel _ _ _ _ h2
          exact ⟨cs, x, h1, h3, h4, h5⟩
        -- the elements, from the i-th on
        have rows : ∀ m i, i + m = len → ∃ xs : List α, xs.length = m ∧ (∀ x ∈ xs, ok x) ∧ (m ≠ 0 → a.spot = none) ∧ (a.spot = none → DRows w fb a.block s (xs.map encd) (a.off + i * s)) := by
          intro m
          induction m with
          | zero => intro i _; exact ⟨[], rfl, by simp, by simp, by simp [DRows]⟩
          | succ m ih =>
            intro i hi
            obtain ⟨xs, x1, x2, x3, x4⟩ := ih (i + 1) (by omega)
            obtain ⟨cs, x, h1, h2, h3, h4⟩ := each i (by omega)
            obtain ⟨c1, c2⟩ := cells_some h1
            have hspot : a.spot = none := by
              obtain ⟨cs0, x0, g1, _⟩ := each 0 (by omega)
              obtain ⟨_, g3⟩ := cells_some g1
              obtain ⟨v, _, g5⟩ := g3 0 hs0
              simp only [Nat.zero_mul, Addr.add, if_true, World.cell?] at g5
              split at g5
              · split at g5
                · cases g5
                · rename_i hsp; simpa using hsp
              · cases g5
            refine ⟨x :: xs, by simp [x1], by simp only [List.mem_cons, forall_eq_or_imp]; exact ⟨h4, x2⟩, fun _ => hspot, fun hsp => ?_⟩
            simp only [List.map_cons, DRows]
            have ha : a = ⟨a.block, a.off, none⟩ := by cases a; simp_all
            refine ⟨hlen x, dcells_of h2 h3 fun j v hv => ?_, ?_⟩
            · have hj : j < s := by rw [← c1]; exact (List.getElem?_eq_some_iff.1 hv).1
              obtain ⟨v', g1, g2⟩ := c2 j hj
              rw [hv] at g1
              cases g1
              rw [ha, add_eq, add_eq] at g2
              exact g2
            · have := x4 hsp
              rwa [show a.off + (i + 1) * s = a.off + i * s + s by rw [Nat.add_mul]; omega] at this
        obtain ⟨xs, x1, x2, x3, x4⟩ := rows len 0 (by omega)
        refine ⟨xs, _, rfl, ?_, rfl, by omega, x2⟩
        simp only [DRep]
        refine ⟨some a, cap, by simp [x1], by simpa [x1] using hlc, fun hne => ?_⟩
        have hl0 : len ≠ 0 := by
          intro h0
          apply hne
          have : xs = [] := List.eq_nil_of_length_eq_zero (by omega)
          simp [this]
        have hspot := x3 hl0
        refine ⟨a.block, a.off, by cases a; simp_all, hfb _ _, ?_, by simpa using x4 hspot⟩
        obtain ⟨cs0, x0, g1, _⟩ := each 0 (by omega)
        obtain ⟨_, g3⟩ := cells_some g1
        obtain ⟨v, _, g5⟩ := g3 0 hs0
        have := World.block_lt_of_cell? w _ g5
        simpa [Addr.add] using this
      · cases h

theorem trod_int {t : TypeId} {k : IntKind} (hu : P.underlying t = some (.int k)) {fuel : Nat} {cs : List Value} {d : DataW H} {ps : List MemPlace} (h : DataW.trod enc P w base spare held fuel t cs = some (d, ps)) : ∃ n, cs = [.int k n] := by
  cases fuel with
  | zero => simp [DataW.trod] at h
  | succ fuel =>
    cases cs with
    | nil => simp [DataW.trod, hu] at h
    | cons v r =>
      cases r with
      | cons _ _ => simp [DataW.trod, hu] at h
      | nil =>
        cases v with
        | int k' n =>
          simp only [DataW.trod, hu] at h
          split at h
          · rename_i hc; rw [hc.1]; exact ⟨_, rfl⟩
          · cases h
        | _ => simp [DataW.trod, hu] at h
theorem trod_bool {t : TypeId} (hu : P.underlying t = some .bool) {fuel : Nat} {cs : List Value} {d : DataW H} {ps : List MemPlace} (h : DataW.trod enc P w base spare held fuel t cs = some (d, ps)) : ∃ b, cs = [.bool b] := by
  cases fuel with
  | zero => simp [DataW.trod] at h
  | succ fuel =>
    cases cs with
    | nil => simp [DataW.trod, hu] at h
    | cons v r =>
      cases r with
      | cons _ _ => simp [DataW.trod, hu] at h
      | nil =>
        cases v with
        | bool b => exact ⟨b, rfl⟩
        | _ => simp [DataW.trod, hu] at h

/-- A struct: each field is read in its place. -/
theorem trod_struct {t : TypeId} {fs : Array Field} (hu : P.underlying t = some (.struct fs)) {fuel : Nat} {cs : List Value} {d : DataW H} {ps : List MemPlace} (h : DataW.trod enc P w base spare held fuel t cs = some (d, ps)) :
    cs.length = P.cellsOf t ∧ ∀ (i ft off : Nat), fs[i]?.map (fun f => (f.type, f.offset)) = some (ft, off) → ∃ (fuel' : Nat) (d' : DataW H) (ps' : List MemPlace), DataW.trod enc P w base spare held fuel' ft ((cs.drop off).take (P.cellsOf ft)) = some (d', ps') := by
  cases fuel with
  | zero => simp [DataW.trod] at h
  | succ fuel =>
    simp only [DataW.trod, hu] at h
    split at h
    · rename_i hl
      refine ⟨hl, fun i ft off hf => ?_⟩
      simp only [Option.map_eq_some_iff, Prod.mk.injEq] at h hf
      obtain ⟨f, hf, rfl, rfl⟩ := hf
      obtain ⟨xs, hx, _⟩ := h
      obtain ⟨_, h2⟩ := mapM_some hx
      obtain ⟨y, _, hy⟩ := h2 (i := i) (x := f) (by simpa using hf)
      obtain ⟨d', ps'⟩ := y
      exact ⟨fuel, d', ps', hy⟩
    · cases h
end Go.R
