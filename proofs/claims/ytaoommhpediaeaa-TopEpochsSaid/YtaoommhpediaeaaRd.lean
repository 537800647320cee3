/- Calls, steps and regions do what the evaluator says. -/
import Derived.Test.YtaoommhpediaeaaRc
import Derived.Orders
set_option linter.unusedVariables false
set_option linter.unusedSimpArgs false
set_option linter.defProp false

namespace Go.R
section
variable {c : Cx}

/-- The blocks that data may not lie in while some objects are lent. -/
def Cx.FL (c : Cx) (L : Nat → Prop) : Forb := fun g b => (∃ k o, c.S k = some o ∧ isMut o = true ∧ blkOf (c.σ k) = some b ∧ ¬ L k) ∨ c.F g b

theorem FL_sub {L : Nat → Prop} : Keeps c.w c.fb c.w (c.FL L) :=
  ⟨Nat.le_refl _, fun g b _ hn => ⟨rfl, fun h => hn (h.elim (fun ⟨k, o, h1, h2, h3, _⟩ => .inl ⟨k, o, h1, h2, h3⟩) .inr)⟩⟩

theorem FL_lent (hsr : SR c) {L : Nat → Prop} {k : Nat} {o : Ob} (hk : c.S k = some o) (hm : isMut o = true) (hL : L k) {g b : Nat} (hb : blkOf (c.σ k) = some b) : ¬ c.FL L g b := by
  rintro (⟨k', o', h1, h2, h3, h4⟩ | hF)
  · exact h4 (by rw [hsr.inj k' k o' o b h1 h2 hk hm h3 hb]; exact hL)
  · exact hsr.mnf g b ⟨k, o, hk, hm, hb⟩ hF

theorem mapO_cons {α β : Type} {f : α → Option β} {x : α} {l : List α} {r : List β} (h : mapO f (x :: l) = some r) : ∃ y q, f x = some y ∧ mapO f l = some q ∧ r = y :: q := by
  simp only [mapO] at h
  split at h
  · rename_i y q hy hq
    simp at h
    exact ⟨y, q, hy, hq, h.symm⟩
  · cases h

theorem lend_vals {L : Nat → Prop} {k : Nat} {fb : Forb} (ih : ∀ x v d, VRep c x v → lendV k c.S x = some d → (∀ i ∈ refsV k c.S x, L i) → DRep c.w fb d v) :
    ∀ (xs : List V) (vs : List Value) (ds : List D), VVals c xs vs → mapO (lendV k c.S) xs = some ds → (∀ x ∈ xs, ∀ i ∈ refsV k c.S x, L i) → DVals c.w fb ds vs
  | [], vs, ds, hv, h, _ => by
    simp [mapO] at h; subst h
    simpa [VVals, DVals] using hv
  | x :: xs, vs, ds, hv, h, hL => by
    obtain ⟨y, q, hy, hq, rfl⟩ := mapO_cons h
    simp only [VVals] at hv
    obtain ⟨v, r, rfl, h1, h2⟩ := hv
    simp only [DVals]
    exact ⟨v, r, rfl, ih x v y h1 hy (hL x (by simp)), lend_vals ih xs r q h2 hq fun z hz => hL z (by simp [hz])⟩

theorem lend_cells {L : Nat → Prop} {k : Nat} {fb : Forb} (ih : ∀ x v d, VRep c x v → lendV k c.S x = some d → (∀ i ∈ refsV k c.S x, L i) → DRep c.w fb d v) {b : Nat} :
    ∀ (xs : List V) (vs : List Value) (ds : List D) (o : Nat), VVals c xs vs → mapO (lendV k c.S) xs = some ds → (∀ x ∈ xs, ∀ i ∈ refsV k c.S x, L i) → (∀ u ∈ vs, u.oneCell' = true) → (∀ p u, vs[p]? = some u → c.w.cell? ⟨b, o + p, none⟩ = some u) → DCells c.w fb b ds o
  | [], vs, ds, o, hv, h, _, _, _ => by
    simp [mapO] at h; subst h
    simp [DCells]
  | x :: xs, vs, ds, o, hv, h, hL, h1, hc => by
    obtain ⟨y, q, hy, hq, rfl⟩ := mapO_cons h
    simp only [VVals] at hv
    obtain ⟨v, r, rfl, g1, g2⟩ := hv
    simp only [DCells]
    refine ⟨⟨v, by simpa using hc 0 v rfl, h1 v (by simp), ih x v y g1 hy (hL x (by simp))⟩, lend_cells ih xs r q (o + 1) g2 hq (fun z hz => hL z (by simp [hz])) (fun u hu => h1 u (by simp [hu])) fun p u hp => ?_⟩
    have := hc (p + 1) u (by simpa using hp)
    rwa [show o + (p + 1) = o + 1 + p by omega] at this

theorem lend_rows {L : Nat → Prop} {k : Nat} {fb : Forb} (ih : ∀ x v d, VRep c x v → lendV k c.S x = some d → (∀ i ∈ refsV k c.S x, L i) → DRep c.w fb d v) {b s : Nat} :
    ∀ (es : List (List V)) (vs : List Value) (ds : List (List D)) (o : Nat), VVals c es.flatten vs → mapO (mapO (lendV k c.S)) es = some ds → (∀ e ∈ es, e.length = s) → (∀ e ∈ es, ∀ x ∈ e, ∀ i ∈ refsV k c.S x, L i) → (∀ u ∈ vs, u.oneCell' = true) → (∀ p u, vs[p]? = some u → c.w.cell? ⟨b, o + p, none⟩ = some u) → DRows c.w fb b s ds o
  | [], vs, ds, o, hv, h, _, _, _, _ => by
    simp [mapO] at h; subst h
    simp [DRows]
  | e :: es, vs, ds, o, hv, h, hl, hL, h1, hc => by
    obtain ⟨y, q, hy, hq, rfl⟩ := mapO_cons h
    have he : e.length = s := hl e (by simp)
    rw [List.flatten_cons] at hv
    have hv1 := VVals_take e.length hv
    have hv2 := VVals_drop e.length hv
    rw [List.take_left] at hv1
    rw [List.drop_left] at hv2
    have hlen := VVals_length hv
    simp only [DRows]
    refine ⟨by rw [mapO_length hy]; exact he, lend_cells ih e _ y o hv1 hy (hL e (by simp)) (fun u hu => h1 u (List.mem_of_mem_take hu)) (fun p u hp => ?_), lend_rows ih es _ q (o + s) hv2 hq (fun x hx => hl x (by simp [hx])) (fun x hx => hL x (by simp [hx])) (fun u hu => h1 u (List.mem_of_mem_drop hu)) fun p u hp => ?_⟩
    · rw [List.getElem?_take] at hp
      split at hp
      · exact hc p u hp
      · cases hp
    · rw [List.getElem?_drop] at hp
      have := hc _ u hp
      rwa [show o + (e.length + p) = o + s + p by omega] at this

theorem own_sigma {k s N : Nat} {v : Value} (h : VRep c (.own k s N) v) {o : Ob} (hk : c.S k = some o) {m : Bool} {E : Nat} {es : List (List V)} (hr : rowEs o = some (m, E, s, es)) (hl : es.length = N) : v = c.σ k := by
  simp only [VRep] at h
  rcases h.1 with ⟨o', m', E', es', h1, h2, h3, h4⟩ | ⟨_, hd | ⟨o', m', E', s', es', h1, h2, h3⟩⟩
  · exact h4
  · rw [hk] at hd; cases hd
  · rw [hk] at h1; cases h1; rw [hr] at h2; cases h2; omega

/-- A row's header with its cells as data. -/
theorem lend_row (hsr : SR c) {L : Nat → Prop} {k q : Nat} (ih : ∀ x v d, VRep c x v → lendV k c.S x = some d → (∀ i ∈ refsV k c.S x, L i) → DRep c.w (c.FL L) d v) {o : Ob} {E s : Nat} {es : List (List V)} {ds : List (List D)}
    (hq : c.S q = some o) (hr : rowEs o = some (true, E, s, es)) (hL : L q) (h : mapO (mapO (lendV k c.S)) es = some ds) (hLc : ∀ e ∈ es, ∀ x ∈ e, ∀ i ∈ refsV k c.S x, L i) :
    DRep c.w (c.FL L) (.slice 0 s ds) (c.σ q) := by
  obtain ⟨flat, f1, f2, f3, f4⟩ := (obOK_row hr).1 (hsr.ob q o hq)
  have hlen : ds.length = es.length := mapO_length h
  rcases f1.2 with ⟨hn, h0⟩ | ⟨g, cap, cur, hv, _, hg, hnc, hcm, hcs, htake⟩
  · have : es = [] := List.eq_nil_of_length_eq_zero h0
    subst this
    simp [mapO] at h
    subst h
    simp only [DRep]
    exact ⟨none, 0, by simpa using hn, by simp, by simp⟩
  · simp only [DRep]
    refine ⟨_, cap, by rw [hv, hlen], by omega, fun _ => ⟨g, 0, rfl, FL_lent hsr hq (rowEs_mut hr).1 hL (by rw [hv]; rfl), (Array.getElem?_eq_some_iff.1 hg).1, ?_⟩⟩
    refine lend_rows ih es flat ds 0 f3 h f2 hLc f4 fun p u hp => ?_
    have f1' := f1
    rw [hv] at f1'
    have := f1'.cells (g := g) rfl p u hp
    rwa [add_eq] at this

theorem mapO_d (k : Nat) (S : Store) : ∀ l : List D, mapO (lendV k S) (l.map V.d) = some l
  | [] => rfl
  | x :: l => by
    have : lendV k S (.d x) = some x := by cases k <;> rfl
    simp [mapO, this, mapO_d k S l]
theorem mapO_dd (k : Nat) (S : Store) : ∀ l : List (List D), mapO (mapO (lendV k S)) (l.map (·.map V.d)) = some l
  | [] => rfl
  | x :: l => by simp [mapO, mapO_d, mapO_dd k S l]
theorem refs_d (k : Nat) (S : Store) (x : D) : refsV k S (.d x) = [] := by cases k <;> rfl

theorem lend_ok (hsr : SR c) {L : Nat → Prop} : ∀ (k : Nat) (x : V) (v : Value) (d : D), VRep c x v → lendV k c.S x = some d → (∀ i ∈ refsV k c.S x, L i) → DRep c.w (c.FL L) d v := by
  intro k
  induction k with
  | zero =>
    intro x v d hx h _
    cases x <;> simp [lendV] at h
    · subst h; simp only [VRep] at hx; exact DRep.keep FL_sub _ _ hx
    · subst h; simp only [VRep] at hx; subst hx; simp [DRep]
  | succ k ih =>
    intro x v d hx h hL
    cases x with
    | d y => simp [lendV] at h; subst h; simp only [VRep] at hx; exact DRep.keep FL_sub _ _ hx
    | nil E s => simp [lendV] at h; subst h; simp only [VRep] at hx; subst hx; simp [DRep]
    | own q s N =>
      simp only [lendV] at h
      have hLq : L q := hL q (by simp [refsV])
      split at h
      · rename_i m E s' ds hS
        split at h
        · rename_i hc
          obtain ⟨hl, rfl⟩ := hc
          simp at h
          subst h
          have hv := own_sigma hx hS (m := m) (E := E) (es := ds.map (·.map V.d)) rfl (by simpa using hl)
          rw [hv]
          cases m with
          | true => exact lend_row hsr (k := k) ih hS (E := E) (es := ds.map (·.map V.d)) rfl hLq (mapO_dd k c.S ds) (by
              intro e he x hx i hi
              obtain ⟨l, _, rfl⟩ := List.mem_map.1 he
              obtain ⟨y, _, rfl⟩ := List.mem_map.1 hx
              rw [refs_d] at hi
              cases hi)
          | false => exact DRep.keep FL_sub _ _ (hsr.ob q _ hS).1
        · cases h
      · rename_i m E s' es hS
        split at h
        · rename_i hc
          obtain ⟨hl, rfl⟩ := hc
          simp only [Option.map_eq_some_iff] at h
          obtain ⟨ds, hds, rfl⟩ := h
          have hv := own_sigma hx hS (m := m) (E := E) (es := es) rfl hl
          rw [hv]
          cases m with
          | true => exact lend_row hsr (k := k) ih hS (E := E) (es := es) rfl hLq hds (by
              intro e he x hx i hi
              refine hL i ?_
              simp only [refsV, hS, List.mem_cons, List.mem_flatMap]
              exact .inr ⟨e, he, x, hx, hi⟩)
          | false => exact (hsr.ob q _ hS).elim
        · cases h
      · cases h
    | loc q N i j =>
      simp only [lendV] at h
      have hLq : L q := hL q (by simp [refsV])
      split at h
      · rename_i m E s' ds hS
        split at h
        · rename_i hl
          simp only [Option.map_eq_some_iff] at h
          obtain ⟨e, he, rfl⟩ := h
          obtain ⟨g, p, cap, hσ, hv⟩ := loc_valid hx hS (m := m) (E := E) (s := s') (es := ds.map (·.map V.d)) rfl (by simpa using hl)
          have he' : (ds.map (·.map V.d))[i]? = some (e.map V.d) := by simp [he]
          obtain ⟨vs, g1, g2, g3⟩ := row_cells hsr hS (m := m) (E := E) (s := s') (es := ds.map (·.map V.d)) rfl he' hσ
          simp only [DRep]
          refine ⟨g, p + i * s', by rw [hv]; simp [Nat.add_assoc], ?_, ?_, ?_⟩
          · cases m with
            | true => exact FL_lent hsr hS rfl hLq (by rw [hσ]; rfl)
            | false =>
              have h0 := (hsr.ob q _ hS).1
              rw [hσ] at h0
              simp only [DRep] at h0
              obtain ⟨A, c', hA, _, hr⟩ := h0
              obtain ⟨b, o, ha, hf, _⟩ := hr (by rintro rfl; simp at he)
              simp at hA
              obtain ⟨rfl, _⟩ := hA
              simp at ha
              obtain ⟨rfl, _⟩ := ha
              exact (FL_sub.2 0 g (by
                have := hr (by rintro rfl; simp at he)
                obtain ⟨b2, o2, ha2, _, hb2, _⟩ := this
                simp at ha2
                obtain ⟨rfl, _⟩ := ha2
                exact hb2) hf).2
          · cases m with
            | true => exact (hsr.ob q _ hS).mut_lt rfl (by rw [hσ]; rfl)
            | false =>
              have h0 := (hsr.ob q _ hS).1
              rw [hσ] at h0
              simp only [DRep] at h0
              obtain ⟨A, c', hA, _, hr⟩ := h0
              obtain ⟨b, o, ha, hf, hb, _⟩ := hr (by rintro rfl; simp at he)
              simp at hA
              obtain ⟨rfl, _⟩ := hA
              simp at ha
              obtain ⟨rfl, _⟩ := ha
              exact hb
          · exact lend_cells (k := k) (L := L) ih (e.map V.d) vs e _ g1 (mapO_d k c.S e) (by
              intro x hx i hi
              obtain ⟨y, _, rfl⟩ := List.mem_map.1 hx
              rw [refs_d] at hi
              cases hi) g2 g3
        · cases h
      · rename_i m E s' es hS
        split at h
        · rename_i hl
          split at h
          · rename_i e he
            simp only [Option.map_eq_some_iff] at h
            obtain ⟨ds, hds, rfl⟩ := h
            obtain ⟨g, p, cap, hσ, hv⟩ := loc_valid hx hS (m := m) (E := E) (s := s') (es := es) rfl hl
            obtain ⟨vs, g1, g2, g3⟩ := row_cells hsr hS (m := m) (E := E) (s := s') (es := es) rfl he hσ
            cases m with
            | false => exact (hsr.ob q _ hS).elim
            | true =>
              simp only [DRep]
              refine ⟨g, p + i * s', by rw [hv]; simp [Nat.add_assoc], FL_lent hsr hS rfl hLq (by rw [hσ]; rfl), (hsr.ob q _ hS).mut_lt rfl (by rw [hσ]; rfl), ?_⟩
              refine lend_cells (k := k) (L := L) ih e vs ds _ g1 hds (fun x hx i hi => hL i ?_) g2 g3
              simp only [refsV, hS, List.mem_cons, List.mem_flatMap]
              exact .inr ⟨e, List.mem_of_getElem? he, x, hx, hi⟩
          · cases h
        · cases h
      · cases h
    | mp q => simp [lendV] at h
    | nilmp => simp [lendV] at h
    | agg cs =>
      simp only [lendV, Option.map_eq_some_iff] at h
      obtain ⟨ds, hds, rfl⟩ := h
      simp only [VRep] at hx
      obtain ⟨vs, rfl, h1, h2⟩ := hx
      simp only [DRep]
      refine ⟨vs, rfl, lend_vals (k := k) (L := L) ih cs vs ds h1 hds fun x hx i hi => hL i ?_, h2⟩
      simp only [refsV, List.mem_flatMap]
      exact ⟨x, hx, hi⟩
    | tup cs => simp [lendV] at h
    | func fn fst caps =>
      simp only [lendV] at h
      split at h
      · rename_i p q hp hq
        simp at h
        subst h
        simp only [VRep] at hx
        obtain ⟨f, u, rfl, h1, h2⟩ := hx
        simp only [DRep]
        refine ⟨f, u, rfl, lend_vals (k := k) (L := L) ih fst f p h1 hp fun x hx i hi => hL i ?_, lend_vals (k := k) (L := L) ih caps u q h2 hq fun x hx i hi => hL i ?_⟩
        · simp only [refsV, List.mem_append, List.mem_flatMap]; exact .inl ⟨x, hx, hi⟩
        · simp only [refsV, List.mem_append, List.mem_flatMap]; exact .inr ⟨x, hx, hi⟩
      · cases h
    | junk => simp [lendV] at h
    | ub => simp [lendV] at h
    | un => simp [lendV] at h

end
end Go.R

namespace Go.R
section
variable {c : Cx}

def Cx.frz (c : Cx) (k : Nat) (ids : List Nat) : Cx := { c with S := freeze k c.S ids }

theorem freezeOb_some {k : Nat} {S : Store} {ids : List Nat} {o o' : Ob} (h : freezeOb k S ids o = some o') : ∃ m E s es ds, rowEs o = some (m, E, s, es) ∧ o' = .grow false E s ds ∧ mapO (mapO (lendV k S)) es = some ds ∧ ∀ e ∈ es, ∀ x ∈ e, ∀ i ∈ refsV k S x, i ∈ ids := by
  cases o with
  | grow m E s ds =>
    simp [freezeOb] at h
    subst h
    refine ⟨m, E, s, _, ds, rfl, rfl, mapO_dd k S ds, ?_⟩
    intro e he x hx i hi
    obtain ⟨l, _, rfl⟩ := List.mem_map.1 he
    obtain ⟨y, _, rfl⟩ := List.mem_map.1 hx
    rw [refs_d] at hi
    cases hi
  | row m E s es =>
    simp only [freezeOb] at h
    split at h
    · rename_i hc
      simp only [Option.map_eq_some_iff] at h
      obtain ⟨ds, hds, rfl⟩ := h
      refine ⟨m, E, s, es, ds, rfl, rfl, hds, fun e he x hx i hi => ?_⟩
      simp only [List.all_eq_true] at hc
      simpa using hc e he x hx i hi
    · cases h
  | map _ => simp [freezeOb] at h

theorem frz_S {k : Nat} {ids : List Nat} {q : Nat} {o : Ob} (h : (c.frz k ids).S q = some o) : (q ∉ ids ∧ c.S q = some o) ∨ (q ∈ ids ∧ ∃ o0, c.S q = some o0 ∧ freezeOb k c.S ids o0 = some o) := by
  simp only [Cx.frz, freeze] at h
  split at h
  · rename_i hq
    simp only [Option.bind_eq_some_iff] at h
    exact .inr ⟨hq, h⟩
  · rename_i hq; exact .inl ⟨hq, h⟩

theorem frz_mut {k : Nat} {ids : List Nat} {q : Nat} {o : Ob} (h : (c.frz k ids).S q = some o) (hm : isMut o = true) : q ∉ ids ∧ c.S q = some o := by
  rcases frz_S h with h1 | ⟨_, o0, _, h2⟩
  · exact h1
  · obtain ⟨_, _, _, _, _, _, rfl, _⟩ := freezeOb_some h2
    simp [isMut] at hm

theorem frz_fb {k : Nat} {ids : List Nat} {g b : Nat} : (c.frz k ids).fb g b ↔ c.FL (· ∈ ids) g b := by
  constructor
  · rintro (⟨q, o, h1, h2, h3⟩ | hF)
    · obtain ⟨h4, h5⟩ := frz_mut h1 h2
      exact .inl ⟨q, o, h5, h2, h3, h4⟩
    · exact .inr hF
  · rintro (⟨q, o, h1, h2, h3, h4⟩ | hF)
    · exact .inl ⟨q, o, by simp only [Cx.frz, freeze, if_neg h4]; exact h1, h2, h3⟩
    · exact .inr hF

theorem frz_ok (hsr : SR c) (k : Nat) (ids : List Nat) : Go1 c (c.frz k ids) := by
  have hM : ∀ b, (c.frz k ids).M b → c.M b := by
    rintro b ⟨q, o, h1, h2, h3⟩
    exact ⟨q, o, (frz_mut h1 h2).2, h2, h3⟩
  have hp : Pres c (c.frz k ids) := {
    keeps := ⟨Nat.le_refl _, fun g b _ hn => ⟨rfl, fun h => hn (h.elim (fun h => .inl (hM b h)) .inr)⟩⟩
    n := fun _ h => h
    gone := fun q _ hq => by simp only [Cx.frz, freeze, hq]; split <;> rfl
    row := fun q o m E s es ho hr => by
      by_cases hq : q ∈ ids
      · cases hf : freezeOb k c.S ids o with
        | none => exact .inl (by simp [Cx.frz, freeze, hq, ho, hf])
        | some o' =>
          obtain ⟨m', E', s', es', ds, h1, rfl, h3, _⟩ := freezeOb_some hf
          rw [hr] at h1
          cases h1
          exact .inr ⟨.grow false E s ds, false, E, ds.map (·.map V.d), by simp [Cx.frz, freeze, hq, ho, hf], rfl, by rw [List.length_map, mapO_length h3]; exact Nat.le_refl _, fun _ => rfl⟩
      · exact .inr ⟨o, m, E, es, by simp only [Cx.frz, freeze, if_neg hq]; exact ho, hr, Nat.le_refl _, fun _ => rfl⟩
    map := fun q ents ho => by
      by_cases hq : q ∈ ids
      · exact .inl (by simp [Cx.frz, freeze, hq, ho, freezeOb])
      · exact .inr ⟨ents, by simp only [Cx.frz, freeze, if_neg hq]; exact ho, rfl⟩
    lt := fun q o ho => hsr.lt ho }
  have hkeep : Keeps c.w (c.FL (· ∈ ids)) (c.frz k ids).w (c.frz k ids).fb := ⟨Nat.le_refl _, fun g b _ hn => ⟨rfl, fun h => hn (frz_fb.1 h)⟩⟩
  refine ⟨⟨fun q hq => ?_, fun q o ho => ?_, ?_, fun g b hb => hsr.mnf g b (hM b hb), hsr.bound⟩, hp, Ext.refl _ _, fun b hb => .inl (hM b hb), rfl⟩
  · have := hsr.fresh q hq
    simp only [Cx.frz, freeze, this]
    split <;> rfl
  · rcases frz_S ho with ⟨hq, ho⟩ | ⟨hq, o0, ho0, hf⟩
    · exact ObOK.same hp rfl (fun _ _ _ => rfl) (hsr.ob q o ho)
    · obtain ⟨m, E, s, es, ds, h1, rfl, h3, h4⟩ := freezeOb_some hf
      cases m with
      | true =>
        refine ⟨DRep.keep hkeep _ _ (lend_row hsr (k := k) (L := (· ∈ ids)) (fun x v d hx hd hL => lend_ok hsr k x v d hx hd hL) ho0 h1 hq h3 h4), fun e he => ?_⟩
        obtain ⟨flat, f1, f2, f3, f4⟩ := (obOK_row h1).1 (hsr.ob q o0 ho0)
        have : ∀ {es : List (List V)} {ds : List (List D)}, mapO (mapO (lendV k c.S)) es = some ds → (∀ e ∈ es, e.length = s) → ∀ e ∈ ds, e.length = s := by
          intro es
          induction es with
          | nil => intro ds h _ e he; simp [mapO] at h; subst h; cases he
          | cons x r ih =>
            intro ds h hl e he
            obtain ⟨y, z, hy, hz, rfl⟩ := mapO_cons h
            rcases List.mem_cons.1 he with rfl | he
            · rw [mapO_length hy]; exact hl x (by simp)
            · exact ih hz (fun e he => hl e (by simp [he])) e he
        exact this h3 f2 e he
      | false =>
        obtain ⟨ds', rfl, rfl, g1, g2⟩ := rowEs_frozen h1 (hsr.ob q o0 ho0)
        rw [mapO_dd] at h3
        cases h3
        exact ⟨DRep.keep hp.keeps _ _ g1, g2⟩
  · intro q q' o o' b h1 m1 h2 m2 b1 b2
    exact hsr.inj q q' o o' b (frz_mut h1 m1).2 m1 (frz_mut h2 m2).2 m2 b1 b2

/-! ### scalars say the same anywhere -/
mutual
theorem scal_any {w w' : World} {fb fb' : Forb} : ∀ (x : D) (v : Value), scalD x = true → DRep w fb x v → DRep w' fb' x v
  | .bool _, _, _, h => by simp only [DRep] at h ⊢; exact h
  | .int _ _, _, _, h => by simp only [DRep] at h ⊢; exact h
  | .str _, _, _, h => by simp only [DRep] at h ⊢; exact h
  | .slice _ _ _, _, hs, _ => by simp [scalD] at hs
  | .agg cs, v, hs, h => by
    simp only [scalD] at hs
    simp only [DRep] at h ⊢
    obtain ⟨vs, hv, h1, h2⟩ := h
    exact ⟨vs, hv, scals_any cs vs hs h1, h2⟩
  | .cptr _ _ _, _, hs, _ => by simp [scalD] at hs
  | .func _ _ _, _, hs, _ => by simp [scalD] at hs
  | .nilfunc, _, _, h => by simp only [DRep] at h ⊢; exact h
  | .nilptr, _, _, h => by simp only [DRep] at h ⊢; exact h
theorem scals_any {w w' : World} {fb fb' : Forb} : ∀ (xs : List D) (vs : List Value), scalDs xs = true → DVals w fb xs vs → DVals w' fb' xs vs
  | [], _, _, h => by simp only [DVals] at h ⊢; exact h
  | x :: xs, vs, hs, h => by
    simp only [scalDs, Bool.and_eq_true] at hs
    simp only [DVals] at h ⊢
    obtain ⟨v, r, hv, h1, h2⟩ := h
    exact ⟨v, r, hv, scal_any x v hs.1 h1, scals_any xs r hs.2 h2⟩
end

theorem scals_flatten {w w' : World} {fb fb' : Forb} : ∀ (ds : List (List D)) (vs : List Value), ds.all scalDs = true → DVals w fb ds.flatten vs → DVals w' fb' ds.flatten vs := by
  intro ds vs hs
  have : scalDs ds.flatten = true := by
    have hap : ∀ a b : List D, scalDs a = true → scalDs b = true → scalDs (a ++ b) = true := by
      intro a
      induction a with
      | nil => intro b _ h; exact h
      | cons x r ih => intro b h h'; simp only [List.cons_append, scalDs, Bool.and_eq_true] at h ⊢; exact ⟨h.1, ih b h.2 h'⟩
    induction ds with
    | nil => rfl
    | cons e r ih =>
      simp only [List.all_cons, Bool.and_eq_true] at hs
      simp only [List.flatten_cons]
      exact hap _ _ hs.1 (ih hs.2)
  exact scals_any _ _ this

/-! ### the callee's objects become the caller's -/
/-- What a call leaves. -/
structure Left (F : Forb) (w w' : World) (os : List Ob) (c' : Cx) : Prop where
  wd : c'.w = w'
  F : c'.F = F
  sr : SR c'
  S : c'.S = putNew (fun _ => none) 0 os
  U : ∀ k, c'.U k → k < os.length
  ext : Ext (fun _ => False) w w'
  mb : ∀ b, c'.M b → w.heap.size ≤ b

def Cx.merge (c c' : Cx) (n : Nat) (os : List Ob) : Cx :=
  { w := c'.w, F := c.F, S := putNew c.S n os, U := fun k => c.U k ∨ (n ≤ k ∧ k < n + os.length), σ := fun k => if n ≤ k ∧ k < n + os.length then c'.σ (k - n) else c.σ k }

theorem putNew_in : ∀ (l : List Ob) (S : Store) {n k : Nat}, n ≤ k → k < n + l.length → putNew S n l k = l[k - n]?
  | [], S, n, k, h, h' => by simp at h'; omega
  | o :: r, S, n, k, h, h' => by
    simp only [List.length_cons] at h'
    simp only [putNew]
    by_cases hk : k = n
    · subst hk
      rw [putNew_out k r _ _ (by omega), upd_same]
      simp
    · rw [putNew_in r _ (by omega) (by omega)]
      rw [show k - n = (k - (n + 1)) + 1 by omega]
      simp

theorem merge_ok (hsr : SR c) {c' : Cx} {F : Forb} {w' : World} {os : List Ob} {n : Nat} (hf : c.Fr n (n + os.length)) (h : Left F c.w w' os c') (hgrow : os.all isGrow = true)
    (hfb : (∀ g b, c.fb g b → F g b) ∨ os.all scalOb = true) :
    Go1 c (c.merge c' n os) ∧ (∀ g b, (c.merge c' n os).fb g b ↔ c'.M b ∨ c.fb g b) ∧ Gave c (c.merge c' n os) n (n + os.length) := by
  obtain ⟨rfl, hF', hs', hS, hn, hext, hmb⟩ := h
  have hget : ∀ k o, (c.merge c' n os).S k = some o → (c.U k ∧ c.S k = some o ∧ (c.merge c' n os).σ k = c.σ k) ∨ ((n ≤ k ∧ k < n + os.length) ∧ c'.S (k - n) = some o ∧ (c.merge c' n os).σ k = c'.σ (k - n)) := by
    intro k o ho
    simp only [Cx.merge] at ho ⊢
    by_cases hk : n ≤ k ∧ k < n + os.length
    · rw [putNew_in _ _ hk.1 hk.2] at ho
      refine .inr ⟨hk, ?_, by simp [hk]⟩
      rw [hS, putNew_in _ _ (by omega) (by omega)]
      simpa using ho
    · rw [putNew_out k _ _ _ (by omega)] at ho
      exact .inl ⟨hsr.lt ho, ho, by simp [hk]⟩
  have hold : ∀ k, c.U k → (c.merge c' n os).S k = c.S k ∧ (c.merge c' n os).σ k = c.σ k := by
    intro k hk
    have := hf.out hk
    exact ⟨by simp only [Cx.merge]; rw [putNew_out k _ _ _ this], by simp only [Cx.merge]; rw [if_neg (by omega)]⟩
  have hM : ∀ b, (c.merge c' n os).M b ↔ c'.M b ∨ c.M b := by
    intro b
    constructor
    · rintro ⟨k, o, ho, hm, hb⟩
      rcases hget k o ho with ⟨_, h1, h2⟩ | ⟨_, h1, h2⟩
      · exact .inr ⟨k, o, h1, hm, by rw [← h2]; exact hb⟩
      · exact .inl ⟨_, o, h1, hm, by rw [← h2]; exact hb⟩
    · rintro (⟨k, o, ho, hm, hb⟩ | ⟨k, o, ho, hm, hb⟩)
      · have hk := hn k (hs'.lt ho)
        refine ⟨n + k, o, ?_, hm, ?_⟩
        · simp only [Cx.merge]
          rw [putNew_in _ _ (by omega) (by omega)]
          rw [hS, putNew_in _ _ (by omega) (by omega)] at ho
          simpa using ho
        · simp only [Cx.merge]
          rw [if_pos (by omega)]
          simpa using hb
      · obtain ⟨e1, e2⟩ := hold k (hsr.lt ho)
        exact ⟨k, o, by rw [e1]; exact ho, hm, by rw [e2]; exact hb⟩
  have hfbm : ∀ g b, (c.merge c' n os).fb g b ↔ c'.M b ∨ c.fb g b := by
    intro g b
    simp only [Cx.fb, hM]
    constructor
    · rintro ((h | h) | h)
      · exact .inl h
      · exact .inr (.inl h)
      · exact .inr (.inr h)
    · rintro (h | h | h)
      · exact .inl (.inl h)
      · exact .inl (.inr h)
      · exact .inr h
  have hp : Pres c (c.merge c' n os) := {
    keeps := ⟨hext.size, fun g b hlt hn => ⟨hext.block b hlt id, fun hh => by
      rcases (hfbm g b).1 hh with h1 | h1
      · have := hmb b h1; omega
      · exact hn h1⟩⟩
    n := fun k hk => .inl hk
    gone := fun k hk hn => by rw [(hold k hk).1]; exact hn
    row := fun k o m E s es ho hr => .inr ⟨o, m, E, es, by rw [(hold k (hsr.lt ho)).1]; exact ho, hr, Nat.le_refl _, fun _ => (hold k (hsr.lt ho)).2⟩
    map := fun k ents ho => .inr ⟨ents, by rw [(hold k (hsr.lt ho)).1]; exact ho, (hold k (hsr.lt ho)).2⟩
    lt := fun k o ho => hsr.lt ho }
  refine ⟨⟨⟨fun k hk => ?_, fun k o ho => ?_, ?_, fun g b hb hFb => ?_, fun g b hb => Nat.lt_of_lt_of_le (hsr.bound g b hb) hext.size⟩, hp, hext.mono fun _ h => h.elim, fun b hb => ?_, rfl⟩, hfbm, fun k => Iff.rfl⟩
  · simp only [Cx.merge, not_or] at hk ⊢
    rw [putNew_out k _ _ _ (by omega)]
    exact hsr.fresh k hk.1
  · rcases hget k o ho with ⟨_, h1, h2⟩ | ⟨hk, h1, h2⟩
    · exact ObOK.same hp h2 (fun hm b hb => hext.block b ((hsr.ob k o h1).mut_lt hm hb) id) (hsr.ob k o h1)
    · have hob := hs'.ob _ _ h1
      have hmem : o ∈ os := by
        rw [hS, putNew_in _ _ (by omega) (by omega)] at h1
        exact List.mem_of_getElem? h1
      have hg : isGrow o = true := by simp only [List.all_eq_true] at hgrow; exact hgrow o hmem
      have hdv : ∀ (ds : List (List D)) (vs : List Value), (os.all scalOb = true → ds.all scalDs = true) → DVals c'.w c'.fb ds.flatten vs → DVals c'.w (c.merge c' n os).fb ds.flatten vs := by
        intro ds vs hsc hv
        rcases hfb with h0 | h0
        · refine DVals.keep ⟨Nat.le_refl _, fun g b hlt hn => ⟨rfl, fun hh => hn ?_⟩⟩ _ _ hv
          rcases (hfbm g b).1 hh with h3 | h3
          · exact .inl h3
          · exact .inr (by rw [hF']; exact h0 g b h3)
        · exact scals_flatten _ _ (hsc h0) hv
      cases o with
      | grow m E s ds =>
        have hsc : os.all scalOb = true → ds.all scalDs = true := by
          intro h0
          simp only [List.all_eq_true] at h0
          have := h0 _ hmem
          simpa only [scalOb, List.all_eq_true] using this
        cases m with
        | true =>
          obtain ⟨flat, f1, f2, f3, f4⟩ := hob
          exact ⟨flat, by rw [h2]; exact f1, f2, hdv ds flat hsc f3, f4⟩
        | false => simp [isGrow] at hg
      | row _ _ _ _ => simp [isGrow] at hg
      | map _ => simp [isGrow] at hg
  · intro k k' o o' b h1 m1 h2 m2 b1 b2
    rcases hget k o h1 with ⟨l1, s1, e1⟩ | ⟨l1, s1, e1⟩ <;> rcases hget k' o' h2 with ⟨l2, s2, e2⟩ | ⟨l2, s2, e2⟩
    · rw [e1] at b1; rw [e2] at b2
      exact hsr.inj k k' o o' b s1 m1 s2 m2 b1 b2
    · rw [e1] at b1; rw [e2] at b2
      have h3 := (hsr.ob k o s1).mut_lt m1 b1
      have h4 := hmb b ⟨_, o', s2, m2, b2⟩
      omega
    · rw [e1] at b1; rw [e2] at b2
      have h3 := (hsr.ob k' o' s2).mut_lt m2 b2
      have h4 := hmb b ⟨_, o, s1, m1, b1⟩
      omega
    · rw [e1] at b1; rw [e2] at b2
      have := hs'.inj _ _ o o' b s1 m1 s2 m2 b1 b2
      omega
  · rcases (hM b).1 hb with h1 | h1
    · have h3 := hmb b h1
      have h4 := hsr.bound g b hFb
      omega
    · exact hsr.mnf g b h1 hFb
  · rcases (hM b).1 hb with h1 | h1
    · exact .inr (hmb b h1)
    · exact .inl h1

/-- What the callee's references say in the caller's state. -/
structure Moved (n : Nat) (c' c2 : Cx) (sc : Prop) : Prop where
  w : c2.w = c'.w
  sr : SR c'
  S : ∀ k, c'.U k → c2.S (n + k) = c'.S k
  U : ∀ k, c'.U k → c2.U (n + k)
  σ : ∀ k, c'.U k → c2.σ (n + k) = c'.σ k
  fb : sc ∨ ∀ g b, c2.fb g b → c'.fb g b

mutual
theorem moved_val {n : Nat} {c' c2 : Cx} {sc : Prop} (h : Moved n c' c2 sc) : ∀ (x : V) (v : Value), (sc → scalV x = true) → VRep c' x v → VRep c2 (shV n x) v
  | .d x, v, hsc, hx => by
    simp only [shV, VRep] at hx ⊢
    rcases h.fb with h0 | h0
    · exact scal_any x v (by simpa only [scalV] using hsc h0) hx
    · refine DRep.keep ⟨by rw [h.w]; exact Nat.le_refl _, fun g b _ hn => ⟨by rw [h.w], fun hh => hn (h0 g b hh)⟩⟩ _ _ hx
  | .nil _ _, v, _, hx => by simp only [shV, VRep] at hx ⊢; exact hx
  | .own k s N, v, _, hx => by
    simp only [shV, VRep] at hx ⊢
    refine ⟨?_, hx.2⟩
    rcases hx.1 with ⟨o, m, E, es, h1, h2, h3, h4⟩ | ⟨hk, hd⟩
    · exact .inl ⟨o, m, E, es, by rw [h.S _ (h.sr.lt h1)]; exact h1, h2, h3, by rw [h.σ _ (h.sr.lt h1)]; exact h4⟩
    · refine .inr ⟨h.U _ hk, ?_⟩
      rcases hd with hd | ⟨o, m, E, s', es, h1, h2, h3⟩
      · exact .inl (by rw [h.S _ hk]; exact hd)
      · exact .inr ⟨o, m, E, s', es, by rw [h.S _ hk]; exact h1, h2, h3⟩
  | .loc k N i j, v, _, hx => by
    simp only [shV, VRep] at hx ⊢
    refine ⟨?_, hx.2⟩
    rcases hx.1 with ⟨o, m, E, s, es, h1, h2, h3, g, q, cap, h4, h5⟩ | ⟨hk, hd⟩
    · exact .inl ⟨o, m, E, s, es, by rw [h.S _ (h.sr.lt h1)]; exact h1, h2, h3, g, q, cap, by rw [h.σ _ (h.sr.lt h1)]; exact h4, h5⟩
    · refine .inr ⟨h.U _ hk, ?_⟩
      rcases hd with hd | ⟨o, m, E, s', es, h1, h2, h3⟩
      · exact .inl (by rw [h.S _ hk]; exact hd)
      · exact .inr ⟨o, m, E, s', es, by rw [h.S _ hk]; exact h1, h2, h3⟩
  | .mp k, v, _, hx => by
    simp only [shV, VRep] at hx ⊢
    refine ⟨?_, hx.2⟩
    rcases hx.1 with ⟨e, h1, h2⟩ | ⟨hk, hd⟩
    · exact .inl ⟨e, by rw [h.S _ (h.sr.lt h1)]; exact h1, by rw [h.σ _ (h.sr.lt h1)]; exact h2⟩
    · exact .inr ⟨h.U _ hk, by rw [h.S _ hk]; exact hd⟩
  | .nilmp, v, _, hx => by simp only [shV, VRep] at hx ⊢; exact hx
  | .agg cs, v, hsc, hx => by
    simp only [shV, VRep] at hx ⊢
    obtain ⟨vs, hv, h1, h2⟩ := hx
    exact ⟨vs, hv, moved_vals h cs vs (fun h0 => by simpa only [scalV] using hsc h0) h1, h2⟩
  | .tup cs, v, hsc, hx => by
    simp only [shV, VRep] at hx ⊢
    obtain ⟨vs, hv, h1⟩ := hx
    exact ⟨vs, hv, moved_vals h cs vs (fun h0 => by simpa only [scalV] using hsc h0) h1⟩
  | .func fn a b, v, hsc, hx => by
    simp only [shV, VRep] at hx ⊢
    obtain ⟨f, q, hv, h1, h2⟩ := hx
    exact ⟨f, q, hv, moved_vals h a f (fun h0 => by have := hsc h0; simp [scalV] at this) h1, moved_vals h b q (fun h0 => by have := hsc h0; simp [scalV] at this) h2⟩
  | .junk, v, _, _ => by simp only [shV, VRep]
  | .ub, v, _, hx => by simp only [shV, VRep] at hx ⊢; exact hx
  | .un, v, _, hx => by simp only [shV, VRep] at hx ⊢; exact hx
theorem moved_vals {n : Nat} {c' c2 : Cx} {sc : Prop} (h : Moved n c' c2 sc) : ∀ (xs : List V) (vs : List Value), (sc → scalVs xs = true) → VVals c' xs vs → VVals c2 (shVs n xs) vs
  | [], vs, _, hx => by simp only [shVs, VVals] at hx ⊢; exact hx
  | x :: xs, vs, hsc, hx => by
    simp only [shVs, VVals] at hx ⊢
    obtain ⟨v, r, hv, h1, h2⟩ := hx
    exact ⟨v, r, hv, moved_val h x v (fun h0 => by have := hsc h0; simp only [scalVs, Bool.and_eq_true] at this; exact this.1) h1, moved_vals h xs r (fun h0 => by have := hsc h0; simp only [scalVs, Bool.and_eq_true] at this; exact this.2) h2⟩
end

end
end Go.R

namespace Go.R
section
variable {c : Cx}

theorem noDup_get : ∀ {l : List Nat}, noDup l = true → ∀ {i j k : Nat}, l[i]? = some k → l[j]? = some k → i = j
  | [], _, i, j, k, h, _ => by simp at h
  | x :: r, hn, i, j, k, h1, h2 => by
    simp only [noDup, Bool.and_eq_true, Bool.not_eq_true', List.contains_eq_mem, decide_eq_false_iff_not] at hn
    cases i with
    | zero =>
      cases j with
      | zero => rfl
      | succ j =>
        simp at h1 h2
        subst h1
        exact absurd (List.mem_of_getElem? h2) hn.1
    | succ i =>
      cases j with
      | zero =>
        simp at h1 h2
        subst h2
        exact absurd (List.mem_of_getElem? h1) hn.1
      | succ j =>
        simp at h1 h2
        rw [noDup_get hn.2 h1 h2]

/-- The state that holds some of the objects only, numbered anew. -/
def Cx.ren (c : Cx) (ids : List Nat) (os : List Ob) : Cx :=
  { w := c.w, F := c.F, S := putNew (fun _ => none) 0 os, U := fun k => k < os.length, σ := fun j => c.σ (ids.getD j 0) }

/-- What is kept: rows of data that may be written. -/
def KeepOK (c : Cx) (k : Nat) : Prop := ∃ E s ds, c.S k = some (.grow true E s ds)

theorem mapO_at {α β : Type} {f : α → Option β} : ∀ {l : List α} {r : List β}, mapO f l = some r → ∀ {i : Nat} {y : β}, r[i]? = some y → ∃ x, l[i]? = some x ∧ f x = some y
  | [], r, h, i, y, hy => by simp [mapO] at h; subst h; simp at hy
  | x :: l, r, h, i, y, hy => by
    obtain ⟨z, q, h1, h2, rfl⟩ := mapO_cons h
    cases i with
    | zero => simp at hy; subst hy; exact ⟨x, rfl, h1⟩
    | succ i => exact mapO_at h2 (by simpa using hy)

theorem mapO_len {α β : Type} {f : α → Option β} : ∀ {l : List α} {r : List β}, mapO f l = some r → r.length = l.length
  | [], r, h => by simp [mapO] at h; subst h; rfl
  | x :: l, r, h => by
    obtain ⟨z, q, h1, h2, rfl⟩ := mapO_cons h
    simp [mapO_len h2]

theorem putNew_none : ∀ (l : List Ob) (S : Store) {n k : Nat}, k < n ∨ n + l.length ≤ k → putNew S n l k = S k
  | [], S, n, k, _ => rfl
  | o :: l, S, n, k, h => by
    simp only [putNew]
    rw [putNew_none l _ (by simp at h; omega)]
    exact upd_ne _ _ (by simp at h; omega)

section
variable {ids : List Nat} {os : List Ob}

theorem ren_get (hos : mapO c.S ids = some os) {j : Nat} {o : Ob} (h : (c.ren ids os).S j = some o) : ∃ k, ids[j]? = some k ∧ c.S k = some o ∧ (c.ren ids os).σ j = c.σ k := by
  have hj : j < os.length := by
    by_cases hj : j < os.length
    · exact hj
    · simp only [Cx.ren] at h
      rw [putNew_none os _ (by omega)] at h
      cases h
  have h' : os[j]? = some o := by
    simp only [Cx.ren] at h
    rw [putNew_in os _ (Nat.zero_le _) (by omega)] at h
    simpa using h
  obtain ⟨k, h1, h2⟩ := mapO_at hos h'
  exact ⟨k, h1, h2, by simp [Cx.ren, List.getD, h1]⟩

theorem ren_at (hos : mapO c.S ids = some os) {j k : Nat} (h : ids[j]? = some k) : ∃ o, c.S k = some o ∧ (c.ren ids os).S j = some o ∧ (c.ren ids os).σ j = c.σ k := by
  have hl := mapO_len hos
  have hj : j < os.length := by rw [hl]; exact (List.getElem?_eq_some_iff.1 h).1
  obtain ⟨k', h1, h2⟩ := mapO_at hos (List.getElem?_eq_getElem hj)
  rw [h] at h1
  cases h1
  refine ⟨_, h2, ?_, by simp [Cx.ren, List.getD, h]⟩
  simp only [Cx.ren]
  rw [putNew_in os _ (Nat.zero_le _) (by omega)]
  simp [List.getElem?_eq_getElem hj]

theorem ren_M (hos : mapO c.S ids = some os) {b : Nat} (h : (c.ren ids os).M b) : ∃ k o, k ∈ ids ∧ c.S k = some o ∧ isMut o = true ∧ blkOf (c.σ k) = some b := by
  obtain ⟨j, o, h1, h2, h3⟩ := h
  obtain ⟨k, h4, h5, h6⟩ := ren_get hos h1
  exact ⟨k, o, List.mem_of_getElem? h4, h5, h2, by rw [← h6]; exact h3⟩

theorem ren_fb (hos : mapO c.S ids = some os) {L : Nat → Prop} (hL : ∀ k ∈ ids, ¬ L k) {g b : Nat} (h : (c.ren ids os).fb g b) : c.FL L g b := by
  rcases h with h | h
  · obtain ⟨k, o, h1, h2, h3, h4⟩ := ren_M hos h
    exact .inl ⟨k, o, h2, h3, h4, hL k h1⟩
  · exact .inr h

theorem ren_keeps (hos : mapO c.S ids = some os) {L : Nat → Prop} (hL : ∀ k ∈ ids, ¬ L k) : Keeps c.w (c.FL L) (c.ren ids os).w (c.ren ids os).fb :=
  ⟨Nat.le_refl _, fun g b _ hn => ⟨rfl, fun h => hn (ren_fb hos hL h)⟩⟩

theorem ren_keeps' (hos : mapO c.S ids = some os) : Keeps c.w c.fb (c.ren ids os).w (c.ren ids os).fb :=
  ⟨Nat.le_refl _, fun g b _ hn => ⟨rfl, fun h => hn (by
    rcases h with h | h
    · obtain ⟨k, o, h1, h2, h3, h4⟩ := ren_M hos h
      exact .inl ⟨k, o, h2, h3, h4⟩
    · exact .inr h)⟩⟩

theorem ren_sr (hsr : SR c) (hos : mapO c.S ids = some os) (hk : ∀ k ∈ ids, KeepOK c k) (hd : noDup ids = true) : SR (c.ren ids os) where
  fresh := fun k hk => by
    simp only [Cx.ren] at hk ⊢
    rw [putNew_none os _ (by omega)]
  ob := fun j o h => by
    obtain ⟨k, h1, h2, h3⟩ := ren_get hos h
    obtain ⟨E, s, ds, h4⟩ := hk k (List.mem_of_getElem? h1)
    rw [h2] at h4
    cases h4
    obtain ⟨flat, g1, g2, g3, g4⟩ := hsr.ob k _ h2
    exact ⟨flat, by rw [h3]; exact g1, g2, DVals.keep (ren_keeps' hos) _ _ g3, g4⟩
  inj := fun j j' o o' b h1 h2 h3 h4 h5 h6 => by
    obtain ⟨k, e1, e2, e3⟩ := ren_get hos h1
    obtain ⟨k', f1, f2, f3⟩ := ren_get hos h3
    rw [e3] at h5
    rw [f3] at h6
    have := hsr.inj k k' o o' b e2 h2 f2 h4 h5 h6
    subst this
    exact noDup_get hd e1 f1
  mnf := fun g b h => by
    obtain ⟨k, o, h1, h2, h3, h4⟩ := ren_M hos h
    exact hsr.mnf g b ⟨k, o, h2, h3, h4⟩
  bound := hsr.bound

/-- Where a part of the kept ids stands. -/
def Part (ids : List Nat) (n : Nat) (l : List Nat) : Prop := ∀ i k, l[i]? = some k → ids[n + i]? = some k

theorem Part.left {n : Nat} {l r : List Nat} (h : Part ids n (l ++ r)) : Part ids n l := fun i k hk => h i k (by
  rw [List.getElem?_append_left (List.getElem?_eq_some_iff.1 hk).1]; exact hk)
theorem Part.right {n : Nat} {l r : List Nat} (h : Part ids n (l ++ r)) : Part ids (n + l.length) r := fun i k hk => by
  have := h (l.length + i) k (by rw [List.getElem?_append_right (by omega)]; simpa using hk)
  rwa [← Nat.add_assoc] at this

theorem lent_ok (hsr : SR c) (hos : mapO c.S ids = some os) {x : V} {v : Value} {d : D} {L : List Nat} (hx : VRep c x v) (hd : lendV 8 c.S x = some d) (hL : ∀ i ∈ refsV 8 c.S x, i ∈ L) (hLi : ∀ k ∈ ids, ¬ k ∈ L) : VRep (c.ren ids os) (.d d) v := by
  simp only [VRep]
  exact DRep.keep (ren_keeps hos hLi) _ _ (lend_ok hsr (L := (· ∈ L)) 8 x v d hx hd hL)

theorem retC_ok (hsr : SR c) (hos : mapO c.S ids = some os) {L : List Nat} (hLi : ∀ k ∈ ids, ¬ k ∈ L) {n : Nat} {x y : V} {i l : List Nat} {v : Value} (hx : VRep c x v) (h : retC c.S n x = some (y, i, l)) (hp : Part ids n i) (hl : ∀ k ∈ l, k ∈ L) :
    VRep (c.ren ids os) y v ∧ (∀ k ∈ i, KeepOK c k) := by
  unfold retC at h
  split at h
  · simp only [Option.some.injEq, Prod.mk.injEq] at h
    obtain ⟨rfl, rfl, rfl⟩ := h
    exact ⟨by simpa only [VRep] using hx, by simp⟩
  · rename_i k s N
    split at h
    · rename_i E s' ds hS
      split at h
      · rename_i hc
        obtain ⟨rfl, rfl⟩ := hc
        simp only [Option.some.injEq, Prod.mk.injEq] at h
        obtain ⟨rfl, rfl, rfl⟩ := h
        obtain ⟨o, h1, h2, h3⟩ := ren_at hos (by simpa using hp 0 k (by simp))
        rw [hS] at h1
        cases h1
        have hs := own_sigma hx hS (m := true) (E := E) (es := ds.map (·.map V.d)) rfl (by simp)
        refine ⟨?_, by simp only [List.mem_singleton, forall_eq]; exact ⟨E, s', ds, hS⟩⟩
        simp only [VRep] at hx ⊢
        exact ⟨.inl ⟨_, true, E, ds.map (·.map V.d), h2, rfl, by simp, by rw [h3]; exact hs⟩, hx.2⟩
      · cases h
    · simp only [Option.map_eq_some_iff, Prod.mk.injEq] at h
      obtain ⟨d, hd, rfl, rfl, rfl⟩ := h
      exact ⟨lent_ok hsr hos hx hd hl hLi, by simp⟩
  · simp only [Option.map_eq_some_iff, Prod.mk.injEq] at h
    obtain ⟨d, hd, rfl, rfl, rfl⟩ := h
    exact ⟨lent_ok hsr hos hx hd hl hLi, by simp⟩

theorem retCs_ok (hsr : SR c) (hos : mapO c.S ids = some os) {L : List Nat} (hLi : ∀ k ∈ ids, ¬ k ∈ L) : ∀ {xs : List V} {n : Nat} {ys : List V} {i l : List Nat} {vs : List Value}, VVals c xs vs → retCs c.S n xs = some (ys, i, l) → Part ids n i → (∀ k ∈ l, k ∈ L) →
    VVals (c.ren ids os) ys vs ∧ (∀ k ∈ i, KeepOK c k)
  | [], n, ys, i, l, vs, hx, h, hp, hl => by
    simp only [retCs, Option.some.injEq, Prod.mk.injEq] at h
    obtain ⟨rfl, rfl, rfl⟩ := h
    exact ⟨by simpa only [VVals] using hx, by simp⟩
  | x :: xs, n, ys, i, l, vs, hx, h, hp, hl => by
    simp only [retCs] at h
    split at h
    · cases h
    · rename_i y i1 l1 h1
      split at h
      · cases h
      · rename_i ys' i2 l2 h2
        simp only [Option.some.injEq, Prod.mk.injEq] at h
        obtain ⟨rfl, rfl, rfl⟩ := h
        simp only [VVals] at hx
        obtain ⟨v, r, rfl, hv, hr⟩ := hx
        obtain ⟨g1, g2⟩ := retC_ok hsr hos hLi hv h1 hp.left (fun k hk => hl k (by simp [hk]))
        obtain ⟨g3, g4⟩ := retCs_ok hsr hos hLi hr h2 hp.right (fun k hk => hl k (by simp [hk]))
        refine ⟨?_, fun k hk => ?_⟩
        · simp only [VVals]; exact ⟨v, r, rfl, g1, g3⟩
        · rcases List.mem_append.1 hk with hk | hk
          · exact g2 k hk
          · exact g4 k hk

theorem retA_ok (hsr : SR c) (hos : mapO c.S ids = some os) {L : List Nat} (hLi : ∀ k ∈ ids, ¬ k ∈ L) {n : Nat} {x y : V} {i l : List Nat} {v : Value} (hx : VRep c x v) (h : retA c.S n x = some (y, i, l)) (hp : Part ids n i) (hl : ∀ k ∈ l, k ∈ L) :
    VRep (c.ren ids os) y v ∧ (∀ k ∈ i, KeepOK c k) := by
  unfold retA at h
  split at h
  · simp only [Option.map_eq_some_iff] at h
    obtain ⟨⟨ys, i', l'⟩, h1, h2⟩ := h
    simp only [Prod.mk.injEq] at h2
    obtain ⟨rfl, rfl, rfl⟩ := h2
    simp only [VRep] at hx
    obtain ⟨vs, rfl, h3, h4⟩ := hx
    obtain ⟨g1, g2⟩ := retCs_ok hsr hos hLi h3 h1 hp hl
    exact ⟨mkAgg_ok g1 h4, g2⟩
  · exact retC_ok hsr hos hLi hx h hp hl

theorem retAs_ok (hsr : SR c) (hos : mapO c.S ids = some os) {L : List Nat} (hLi : ∀ k ∈ ids, ¬ k ∈ L) : ∀ {xs : List V} {n : Nat} {ys : List V} {i l : List Nat} {vs : List Value}, VVals c xs vs → retAs c.S n xs = some (ys, i, l) → Part ids n i → (∀ k ∈ l, k ∈ L) →
    VVals (c.ren ids os) ys vs ∧ (∀ k ∈ i, KeepOK c k)
  | [], n, ys, i, l, vs, hx, h, hp, hl => by
    simp only [retAs, Option.some.injEq, Prod.mk.injEq] at h
    obtain ⟨rfl, rfl, rfl⟩ := h
    exact ⟨by simpa only [VVals] using hx, by simp⟩
  | x :: xs, n, ys, i, l, vs, hx, h, hp, hl => by
    simp only [retAs] at h
    split at h
    · cases h
    · rename_i y i1 l1 h1
      split at h
      · cases h
      · rename_i ys' i2 l2 h2
        simp only [Option.some.injEq, Prod.mk.injEq] at h
        obtain ⟨rfl, rfl, rfl⟩ := h
        simp only [VVals] at hx
        obtain ⟨v, r, rfl, hv, hr⟩ := hx
        obtain ⟨g1, g2⟩ := retA_ok hsr hos hLi hv h1 hp.left (fun k hk => hl k (by simp [hk]))
        obtain ⟨g3, g4⟩ := retAs_ok hsr hos hLi hr h2 hp.right (fun k hk => hl k (by simp [hk]))
        refine ⟨?_, fun k hk => ?_⟩
        · simp only [VVals]; exact ⟨v, r, rfl, g1, g3⟩
        · rcases List.mem_append.1 hk with hk | hk
          · exact g2 k hk
          · exact g4 k hk
end

/-- A result that keeps its rows. -/
theorem retO_ok (hsr : SR c) {x r : V} {os : List Ob} {v : Value} (hx : VRep c x v) (h : retO c.S x = some (r, os)) :
    ∃ c', c'.w = c.w ∧ c'.F = c.F ∧ SR c' ∧ c'.S = putNew (fun _ => none) 0 os ∧ (∀ k, c'.U k → k < os.length) ∧ (∀ b, c'.M b → c.M b) ∧ VRep c' r v := by
  unfold retO at h
  split at h
  · cases h
  · rename_i r' ids l hr
    split at h
    · rename_i hc
      simp only [Bool.and_eq_true, List.all_eq_true, Bool.not_eq_true', List.contains_eq_mem, decide_eq_false_iff_not] at hc
      simp only [Option.map_eq_some_iff, Prod.mk.injEq] at h
      obtain ⟨os', hos, rfl, rfl⟩ := h
      have main : VRep (c.ren ids os') r' v ∧ ∀ k ∈ ids, KeepOK c k := by
        have hp : Part ids 0 ids := fun i k hk => by simpa using hk
        unfold retR at hr
        split at hr
        · simp only [Option.map_eq_some_iff] at hr
          obtain ⟨⟨ys, i', l'⟩, h1, h2⟩ := hr
          simp only [Prod.mk.injEq] at h2
          obtain ⟨rfl, rfl, rfl⟩ := h2
          simp only [VRep] at hx ⊢
          obtain ⟨us, rfl, hus⟩ := hx
          obtain ⟨g1, g2⟩ := retAs_ok hsr hos (L := l') hc.2 hus h1 hp (fun _ h => h)
          exact ⟨⟨us, rfl, g1⟩, g2⟩
        · exact retA_ok hsr hos (L := l) hc.2 hx hr hp (fun _ h => h)
      refine ⟨c.ren ids os', rfl, rfl, ren_sr hsr hos main.2 hc.1, rfl, fun k hk => hk, fun b hb => ?_, main.1⟩
      obtain ⟨k, o, h1, h2, h3, h4⟩ := ren_M hos hb
      exact ⟨k, o, h2, h3, h4⟩
    · cases h
end
end Go.R

namespace Go.R
section
variable {P : Program}

structure Rel (c : Cx) (st : St) (a : Act) (nt : Nat) : Prop where
  sr : SR c
  S : c.S = st.S
  T : TRep c st.T a
  sz : a.tmps.size = nt
  df : a.defers = []

theorem getD_put {a : Act} {d : Option Nat} {v : Value} {i : Nat} : (a.put d v).tmps.getD i undef = if d = some i ∧ i < a.tmps.size then v else a.tmps.getD i undef := by
  cases d with
  | none => simp [Act.put]
  | some d =>
    simp only [Act.put, Option.some.injEq]
    by_cases h : d = i
    · subst h
      by_cases hd : d < a.tmps.size
      · simp [hd]
      · simp [hd]
    · have : ¬ (d = i ∧ i < a.tmps.size) := fun hh => h hh.1
      rw [if_neg this]
      simp [Array.getElem?_setIfInBounds_ne h]

theorem size_put {a : Act} {d : Option Nat} {v : Value} : (a.put d v).tmps.size = a.tmps.size := by cases d <;> simp [Act.put]
theorem defers_put {a : Act} {d : Option Nat} {v : Value} : (a.put d v).defers = a.defers := by cases d <;> rfl

theorem Rel.put {c c' : Cx} {st : St} {a : Act} {nt : Nat} (h : Rel c st a nt) (hg : Go1 c c') {d : Option Nat} {v : V} {vc : Value} {S' : Store} {n' : Nat} (hS : c'.S = S') (hv : VRep c' v vc) (hd : ∀ i, d = some i → i < nt) :
    Rel c' { T := putT st.T d v, S := S', n := n' } (a.put d vc) nt where
  sr := hg.sr
  S := hS
  T := fun i => by
    rw [getD_put]
    cases d with
    | none => simp only [putT]; exact VRep.keep hg.pres _ _ (h.T i)
    | some d =>
      simp only [putT, Option.some.injEq]
      by_cases hi : d = i
      · subst hi
        rw [if_pos ⟨rfl, by rw [h.sz]; exact hd d rfl⟩, upd_same]
        exact hv
      · rw [if_neg (fun hh => hi hh.1), upd_ne _ _ (fun e => hi e.symm)]
        exact VRep.keep hg.pres _ _ (h.T i)
  sz := by rw [size_put]; exact h.sz
  df := by rw [defers_put]; exact h.df

/-- Functions that a run may enter. -/
def Entered (P : Program) (f : FuncId) : Prop := ∃ fn, P.funcs[f]? = some fn ∧ fn.body.isSome = true ∧ (fn.name == "runtime.NumGoroutine") = false

def FnOK (P : Program) (call : CallF) : Prop :=
  ∀ f ds r os, call f ds = some (r, os) → Entered P f ∧ ∀ (w : World) (F : Forb) (cargs : List Value), (∀ g b, F g b → b < w.heap.size) → DVals w F ds cargs →
    Calls P f cargs.toArray w fun e w' => ∃ v c', e = .returned v ∧ Left F w w' os c' ∧ VRep c' r v

theorem trOper_some {nt : Nat} {ops : Array Oper} {o : Oper} {i : AI} (h : trOper P nt ops o = some i) : trOp P o = some i.op ∧ i.dst = o.dst ∧ (∀ d, o.dst = some d → d < nt) ∧
    ((o.guard = none ∧ i.g = none) ∨ ∃ j b d, o.guard = some (j, b) ∧ (ops[j]?).bind (·.dst) = some d ∧ i.g = some (d, b)) := by
  unfold trOper at h
  split at h
  · cases h
  · rename_i ao hao
    split at h
    · rename_i hd
      have hd' : ∀ d, o.dst = some d → d < nt := fun d e => by rw [e] at hd; simpa [dstOk] using hd
      split at h
      · rename_i hg
        simp at h; subst h
        exact ⟨hao, rfl, hd', .inl ⟨hg, rfl⟩⟩
      · rename_i j b hg
        split at h
        · rename_i d hj
          simp at h; subst h
          exact ⟨hao, rfl, hd', .inr ⟨j, b, d, hg, hj, rfl⟩⟩
        · cases h
    · cases h

theorem wanted_ok {c : Cx} {st : St} {a : Act} {nt : Nat} {ops : Array Oper} {o : Oper} {i : AI} (h : Rel c st a nt) (ht : trOper P nt ops o = some i) {b : Bool} (hw : wants st.T i.g = some b) : Region.wanted o (yielded ops a.tmps) = b := by
  obtain ⟨_, _, _, hg⟩ := trOper_some ht
  unfold Region.wanted
  rcases hg with ⟨h1, h2⟩ | ⟨j, q, d, h1, h2, h3⟩
  · rw [h2] at hw
    simp [wants] at hw
    simp [h1, hw]
  · rw [h3] at hw
    simp only [wants] at hw
    split at hw
    · rename_i x hx
      simp at hw
      subst hw
      have hv := h.T d
      rw [hx] at hv
      simp only [VRep, DRep] at hv
      have hd : a.tmps[d]? = some (.bool x) := by
        rw [Array.getD_eq_getD_getElem?] at hv
        cases hq : a.tmps[d]? with
        | none => rw [hq] at hv; simp [undef] at hv
        | some u => rw [hq] at hv; simp at hv; rw [hv]
      simp only [h1, yielded, h2, Option.bind_some, hd]
      cases x <;> cases q <;> rfl
    · rename_i hx
      simp at hw
      subst hw
      have hv := h.T d
      rw [hx] at hv
      simp only [VRep] at hv
      simp only [h1, yielded, h2, Option.bind_some]
      rw [Array.getD_eq_getD_getElem?] at hv
      cases hq : a.tmps[d]? with
      | none => rfl
      | some u => rw [hq] at hv; simp at hv; rw [hv]; rfl
    · cases hw

theorem callee_ok {c : Cx} {fV : V} {u : Value} {g : FuncId} {fst caps : List V} (h : VRep c fV u) (hc : callee fV = some (g, fst, caps)) : ∃ f q : List Value, u = .func (.func g) f.toArray q.toArray ∧ VVals c fst f ∧ VVals c caps q := by
  unfold callee at hc
  split at hc
  · simp at hc
    obtain ⟨rfl, rfl, rfl⟩ := hc
    simp only [VRep, DRep] at h
    obtain ⟨f, q, hu, h1, h2⟩ := h
    exact ⟨f, q, hu, (DVals_map _ _).2 h1, (DVals_map _ _).2 h2⟩
  · simp at hc
    obtain ⟨rfl, rfl, rfl⟩ := hc
    simp only [VRep] at h
    exact h
  · cases hc

theorem call_ok {call : CallF} (hcall : FnOK P call) {c : Cx} {st st' : St} {a : Act} {nt : Nat} {fp : Fp} (hR : Rel c st a nt) {o : Oper} {cl : Call} {fo : Operand} {fV : V} {xs : List V} {d : Option Nat}
    (ho : o.op = .call cl) (hcal : cl.callee = .value fo) (hf : VRep c fV (a.eval fo)) (hxs : VVals c xs (cl.args.toList.map a.eval)) (hd : o.dst = d) (hdn : ∀ i, d = some i → i < nt) (h : doCall call st d fV xs = some (st', fp))
    (hfr : c.Fr st.n st'.n) {K : Act → World → Prop} {Q : Exit → Act → World → Prop} (hK : ∀ c' a', Go1 c c' → Rel c' st' a' nt → Gave c c' st.n st'.n → K a' c'.w) : o.wp P a c.w K Q := by
  unfold doCall at h
  split at h
  · cases h
  · rename_i g fst caps hc
    split at h
    · cases h
    · rename_i ds hds
      split at h
      · cases h
      · rename_i r os hr
        split at h
        · rename_i hgrow0
          have hgrow := hgrow0.1
          simp only [Option.some.injEq, Prod.mk.injEq] at h
          obtain ⟨rfl, _⟩ := h
          obtain ⟨⟨fn, hfn, hbody, hname⟩, hrun⟩ := hcall g ds r os hr
          obtain ⟨f, q, hu, h1, h2⟩ := callee_ok hf hc
          have hall : VVals c (fst ++ xs ++ caps) (f ++ cl.args.toList.map a.eval ++ q) := VVals_append (VVals_append h1 hxs) h2
          rw [← hR.S] at hds
          have hdv : DVals c.w (c.FL (· ∈ (fst ++ xs ++ caps).flatMap (refsV 8 c.S))) ds (f ++ cl.args.toList.map a.eval ++ q) :=
            lend_vals (k := 8) (fun x v d hx hd hL => lend_ok hR.sr 8 x v d hx hd hL) _ _ ds hall hds fun x hx i hi => List.mem_flatMap.2 ⟨x, hx, hi⟩
          have hbound : ∀ g b, c.FL (· ∈ (fst ++ xs ++ caps).flatMap (refsV 8 c.S)) g b → b < c.w.heap.size := by
            rintro g b (⟨k, o, e1, e2, e3, _⟩ | hF)
            · exact (hR.sr.ob k o e1).mut_lt e2 e3
            · exact hR.sr.bound g b hF
          have hcalls := hrun c.w _ _ hbound hdv
          have hexec : (execOp a.eval o).run P c.w = .ok (.enter g (f ++ cl.args.toList.map a.eval ++ q).toArray) c.w := by
            have hargs : (f.toArray ++ cl.args.map a.eval ++ q.toArray) = (f ++ cl.args.toList.map a.eval ++ q).toArray := by
              apply Array.ext'
              simp
            have hname' : ¬ fn.name = "runtime.NumGoroutine" := by simpa using hname
            simp [execOp, ho, resolve, hcal, hu, Deferred.ofValue, invoke, callFunc, hfn, hname', Option.isSome_iff_ne_none.1 hbody, hargs]
          unfold Oper.wp
          rw [hexec]
          simp only [Oper.upon]
          refine Calls.mono hcalls ?_
          rintro e w' ⟨v, c', rfl, hleft, hv⟩
          simp only
          rw [hd]
          -- the state behind the call
          generalize hids : (fst ++ xs ++ caps).flatMap (refsV 8 c.S) = ids at *
          have hids' : (fst ++ xs ++ caps).flatMap (refsV 8 st.S) = ids := by rw [← hR.S]; exact hids
          have key : ∀ (c0 : Cx), Go1 c c0 → c0.w = c.w → c0.S = (if ids = [] ∨ (scalV r && os.all scalOb) = true then st.S else freeze 8 st.S ids) → c0.U = c.U → ((∀ g b, c0.fb g b → c.FL (· ∈ ids) g b) ∨ (scalV r && os.all scalOb) = true) → K (a.put d v) w' := by
            intro c0 hg0 hw0 hS0 hn0 hfb0
            have hleft' : Left (c.FL (· ∈ ids)) c0.w w' os c' := by rw [hw0]; exact hleft
            obtain ⟨hm, hfbm, hgave⟩ := merge_ok hg0.sr (n := st.n) (by intro k h1 h2; rw [hn0]; exact hfr k h1 h2) hleft' hgrow (hfb0.imp id fun h => by simp only [Bool.and_eq_true] at h; exact h.2)
            have hgo := hg0.trans hm
            have hmoved : Moved st.n c' (c0.merge c' st.n os) ((scalV r && os.all scalOb) = true) := {
              w := rfl
              sr := hleft.sr
              S := fun k hk => by
                have := hleft.U k hk
                simp only [Cx.merge]
                rw [putNew_in _ _ (by omega) (by omega), hleft.S, putNew_in _ _ (by omega) (by omega)]
                simp
              U := fun k hk => by
                have := hleft.U k hk
                simp only [Cx.merge]
                exact .inr (by omega)
              σ := fun k hk => by
                have := hleft.U k hk
                simp only [Cx.merge]; rw [if_pos (by omega)]; simp
              fb := by
                rcases hfb0 with h | h
                · refine .inr fun g b hb => ?_
                  rcases (hfbm g b).1 hb with h3 | h3
                  · exact .inl h3
                  · exact .inr (by rw [hleft.F]; exact h g b h3)
                · exact .inl h }
            have hval := moved_val hmoved r v (fun h => by simp only [Bool.and_eq_true] at h; exact h.1) hv
            have hrel := hR.put hgo (d := d) (S' := putNew (if ids = [] ∨ (scalV r && os.all scalOb) = true then st.S else freeze 8 st.S ids) st.n os) (n' := st.n + os.length)
              (by simp only [Cx.merge, hS0]) hval hdn
            have := hK _ _ hgo (by
              simp only [hids']
              exact hrel) (by
              intro k
              rw [hgave k, hn0])
            simpa [Cx.merge, hleft.wd] using this
          by_cases hcase : ids = [] ∨ (scalV r && os.all scalOb) = true
          · refine key c (.refl hR.sr) rfl (by rw [if_pos hcase]; exact hR.S) rfl ?_
            rcases hcase with h | h
            · refine .inl fun g b hb => ?_
              rcases hb with ⟨k, o, e1, e2, e3⟩ | hF
              · exact .inl ⟨k, o, e1, e2, e3, by rw [h]; simp⟩
              · exact .inr hF
            · exact .inr h
          · refine key (c.frz 8 ids) (frz_ok hR.sr 8 ids) rfl (by rw [if_neg hcase, ← hR.S]; rfl) rfl (.inl fun g b hb => frz_fb.1 hb)
        · cases h

theorem step_ok {call : CallF} (hcall : FnOK P call) {c : Cx} {st st' : St} {a : Act} {nt : Nat} {fp : Fp} (hR : Rel c st a nt) {ops : Array Oper} {o : Oper} {i : AI} {idx : Nat} (hi : ops[idx]? = some o) (ht : trOper P nt ops o = some i)
    (h : stepI call i st = some (st', fp)) (hfr : c.Fr st.n st'.n) {K : Act → World → Prop} {Q : Exit → Act → World → Prop} (hK : ∀ c' a', Go1 c c' → Rel c' st' a' nt → Gave c c' st.n st'.n → K a' c'.w) : wpOp P ops Q idx K a c.w := by
  obtain ⟨htr, hdst, hdn, _⟩ := trOper_some ht
  unfold stepI at h
  unfold wpOp
  simp only [hi]
  split at h
  · cases h
  · rename_i hw
    rw [wanted_ok hR ht hw, if_neg (by simp)]
    simp only [Option.some.injEq, Prod.mk.injEq] at h
    obtain ⟨rfl, _⟩ := h
    rw [← hdst]
    exact hK c _ (.refl hR.sr) (hR.put (.refl hR.sr) hR.S (by simp [VRep]) (by rw [hdst]; exact hdn)) (.refl _ _)
  · rename_i hw
    rw [wanted_ok hR ht hw, if_pos rfl]
    refine .inl ?_
    split at h
    · rename_i f xs hop
      rw [hop] at htr
      cases hoo : o.op with
      | call cl =>
        simp only [trOp, hoo] at htr
        split at htr
        · rename_i fo hcal
          split at htr
          · rename_i f' xs' hf hxs
            split at htr
            · rename_i hlen
              simp at htr
              obtain ⟨rfl, rfl⟩ := htr
              have hvals : VVals c (xs'.map (ev st.T)) (cl.args.toList.map a.eval) := by
                have : ∀ (l : List Operand) (ts : List TypeId) (ys : List Opd), mapO (fun p : Operand × TypeId => trOpd (annT P p.2) p.1) (l.zip ts) = some ys → ys.length = l.length → VVals c (ys.map (ev st.T)) (l.map a.eval) := by
                  intro l
                  induction l with
                  | nil => intro ts ys h _; simp [mapO] at h; subst h; simp [VVals]
                  | cons x l ih =>
                    intro ts ys h hl
                    cases ts with
                    | nil => simp [mapO] at h; subst h; simp at hl
                    | cons t ts =>
                      simp only [List.zip_cons_cons] at h
                      obtain ⟨y, q, hy, hq, rfl⟩ := mapO_cons h
                      simp only [List.map_cons, VVals]
                      exact ⟨_, _, rfl, ev_ok hR.T hy, ih ts q hq (by simpa using hl)⟩
                exact this _ _ _ hxs (by simpa using hlen)
              exact call_ok hcall hR hoo hcal (ev_ok hR.T hf) hvals hdst.symm (by rw [hdst]; exact hdn) h hfr hK
            · cases htr
          · cases htr
        · cases htr
        · split at htr <;> (repeat' split at htr) <;> simp at htr
      | makeMap t r => cases r <;> simp [trOp, hoo] at htr
      | slice t x lo hi m => cases m <;> simp only [trOp, hoo] at htr <;> (repeat' split at htr) <;> simp at htr
      | _ => simp only [trOp, hoo] at htr; (repeat' split at htr) <;> simp at htr
    · rename_i op hne
      split at h
      · cases h
      · rename_i r hr
        split at h
        · cases h
        · rename_i os hos
          split at h
          · cases h
          · rename_i v os' news hact
            simp only [Option.some.injEq, Prod.mk.injEq] at h
            obtain ⟨rfl, _⟩ := h
            rw [← hR.S] at hos
            obtain ⟨rr, vc, c', hrun, hrv, hgo, hS, hn, hv⟩ := op_ok hR.sr hR.T htr (fun f xs => hne f xs) hr hos hact hfr
            have hrel := hR.put hgo (d := i.dst) (n' := st.n + news.length) hS hv (by rw [hdst]; exact hdn)
            rw [hR.S] at hrel
            have := hK c' _ hgo hrel hn
            unfold Oper.wp
            rw [hrun]
            rcases hrv with rfl | ⟨rfl, rfl⟩
            · simp only [Oper.upon]
              rw [← hdst]; exact this
            · simp only [Oper.upon]
              rw [← hdst]; exact this

theorem stepI_le {call : CallF} {i : AI} {st st' : St} {fp : Fp} (h : stepI call i st = some (st', fp)) : st.n ≤ st'.n := by
  unfold stepI at h
  split at h
  · cases h
  · simp at h; obtain ⟨rfl, _⟩ := h; exact Nat.le_refl _
  · split at h
    · unfold doCall at h
      split at h
      · cases h
      · split at h
        · cases h
        · split at h
          · cases h
          · split at h
            · simp at h; obtain ⟨rfl, _⟩ := h; exact Nat.le_add_right _ _
            · cases h
    · split at h
      · cases h
      · split at h
        · cases h
        · split at h
          · cases h
          · simp at h; obtain ⟨rfl, _⟩ := h; exact Nat.le_add_right _ _

theorem putNew_dom {k : Nat} : ∀ {l : List Ob} {S : Store} {n : Nat}, S k ≠ none → putNew S n l k ≠ none
  | [], S, n, h => h
  | o :: l, S, n, h => by
    simp only [putNew]
    refine putNew_dom ?_
    by_cases hk : k = n
    · subst hk; rw [upd_same]; simp
    · rw [upd_ne _ _ hk]; exact h
theorem putAll_dom {k : Nat} : ∀ {ids : List Nat} {os : List Ob} {S : Store}, S k ≠ none → putAll S ids os k ≠ none
  | [], os, S, h => by cases os <;> exact h
  | q :: ids, [], S, h => h
  | q :: ids, o :: os, S, h => by
    simp only [putAll]
    refine putAll_dom ?_
    by_cases hk : k = q
    · subst hk; rw [upd_same]; simp
    · rw [upd_ne _ _ hk]; exact h

theorem step_dom {call : CallF} {i : AI} {st st' : St} {fp : Fp} (h : stepI call i st = some (st', fp)) {k : Nat} (hk : st.S k ≠ none) : st'.S k ≠ none := by
  unfold stepI at h
  split at h
  · cases h
  · simp at h; obtain ⟨rfl, _⟩ := h; exact hk
  · split at h
    · unfold doCall at h
      split at h
      · cases h
      · split at h
        · cases h
        · split at h
          · cases h
          · rename_i r os _
            split at h
            · rename_i hc
              simp only [Option.some.injEq, Prod.mk.injEq] at h
              obtain ⟨rfl, _⟩ := h
              refine putNew_dom ?_
              obtain ⟨_, hc⟩ := hc
              revert hc
              generalize List.flatMap (refsV 8 st.S) _ = ids
              intro hc
              by_cases hm : k ∈ ids
              · have := (List.all_eq_true.1 hc) k hm
                intro he
                rw [he] at this
                cases this
              · unfold lentS
                split
                · exact hk
                · simp only [freeze, if_neg hm]; exact hk
            · cases h
    · split at h
      · cases h
      · split at h
        · cases h
        · split at h
          · cases h
          · simp at h; obtain ⟨rfl, _⟩ := h; exact putNew_dom (putAll_dom hk)

/-- Which numbers have been given away: those below n, and those of rows in their cells. -/
def HU (c : Cx) (n : Nat) : Prop := n ≤ BB ∧ ∀ k, c.U k → k < n ∨ (BB ≤ k ∧ k / BB - 1 < n ∧ c.S k ≠ none)

theorem HU.fr {c : Cx} {n m : Nat} (h : HU c n) (hm : m ≤ BB) : c.Fr n m := fun k h1 h2 hk => by
  rcases h.2 k hk with h | h <;> omega
theorem HU.step {c c' : Cx} {n m : Nat} (h : HU c n) (hg : Gave c c' n m) (hn : n ≤ m) (hm : m ≤ BB) (hd : ∀ k, c.S k ≠ none → c'.S k ≠ none) : HU c' m := ⟨hm, fun k hk => by
  rcases (hg k).1 hk with hk | hk
  · rcases h.2 k hk with h | ⟨h1, h2, h3⟩
    · exact .inl (by omega)
    · exact .inr ⟨h1, by omega, hd k h3⟩
  · exact .inl hk.2⟩

theorem ops_le {call : CallF} : ∀ {l : List AI} {st st' : St} {fs : List Fp}, ops call l st = some (st', fs) → st.n ≤ st'.n
  | [], st, st', fs, h => by simp [ops] at h; rw [h.1]; exact Nat.le_refl _
  | i :: l, st, st', fs, h => by
    simp only [ops] at h
    split at h
    · cases h
    · rename_i st1 f hf
      split at h
      · cases h
      · rename_i st2 fs2 hfs
        simp only [Option.some.injEq, Prod.mk.injEq] at h
        obtain ⟨rfl, _⟩ := h
        exact Nat.le_trans (stepI_le hf) (ops_le hfs)

theorem region_ok {call : CallF} (hcall : FnOK P call) {nt : Nat} {opsA : Array Oper} {l : List AI} (hl : mapO (trOper P nt opsA) opsA.toList = some l) {Q : Exit → Act → World → Prop} :
    ∀ (m k : Nat) {c : Cx} {st st' : St} {a : Act} {fs : List Fp}, k + m = opsA.size → Rel c st a nt → HU c st.n → st'.n ≤ BB → ops call (l.drop k) st = some (st', fs) → (∀ c' a', Go1 c c' → Rel c' st' a' nt → HU c' st'.n → Q .normal a' c'.w) → wpOps P opsA Q (List.range' k m) a c.w
  | 0, k, c, st, st', a, fs, hk, hR, hU, hB, h, hQ => by
    have hlen := mapO_length hl
    rw [List.drop_eq_nil_of_le (by rw [hlen, Array.length_toList]; omega)] at h
    simp [ops] at h
    obtain ⟨rfl, _⟩ := h
    simp only [List.range', wpOps]
    exact hQ c a (.refl hR.sr) hR hU
  | m + 1, k, c, st, st', a, fs, hk, hR, hU, hB, h, hQ => by
    have hlen := mapO_length hl
    have hkl : k < l.length := by rw [hlen, Array.length_toList]; omega
    have hko : k < opsA.size := by omega
    have hget : ∀ (xs : List Oper) (ys : List AI), mapO (trOper P nt opsA) xs = some ys → ∀ j (hj : j < xs.length), ∃ y, ys[j]? = some y ∧ trOper P nt opsA xs[j] = some y := by
      intro xs
      induction xs with
      | nil => intro ys _ j hj; simp at hj
      | cons x xs ih =>
        intro ys h j hj
        obtain ⟨y, q, hy, hq, rfl⟩ := mapO_cons h
        cases j with
        | zero => exact ⟨y, rfl, hy⟩
        | succ j => simpa using ih q hq j (by simpa using hj)
    obtain ⟨i, hi, htr⟩ := hget _ _ hl k (by simpa using hko)
    have hdrop : l.drop k = i :: l.drop (k + 1) := by
      have := List.getElem_cons_drop (as := l) (i := k) hkl
      rw [← this]
      congr 1
      rw [List.getElem?_eq_getElem hkl] at hi
      simpa using hi
    rw [hdrop] at h
    simp only [ops] at h
    split at h
    · cases h
    · rename_i st1 fp hst
      split at h
      · cases h
      · rename_i st2 fs2 hops
        simp only [Option.some.injEq, Prod.mk.injEq] at h
        obtain ⟨rfl, _⟩ := h
        rw [List.range'_succ, wpOps_cons]
        refine step_ok hcall hR (o := opsA[k]) (by simp [hko]) (by simpa using htr) hst (hU.fr (Nat.le_trans (ops_le hops) hB)) fun c' a' hg hR' hga => ?_
        exact region_ok hcall hl m (k + 1) (by omega) hR' (hU.step hga (stepI_le hst) (Nat.le_trans (ops_le hops) hB) fun k hk => by rw [hR'.S]; rw [hR.S] at hk; exact step_dom hst hk) hB hops fun c2 a2 hg2 hR2 => hQ c2 a2 (hg.trans hg2) hR2

end
end Go.R

namespace Go.R

def AgT (ts : List Nat) (T T' : Nat → V) : Prop := ∀ t ∈ ts, T' t = T t

theorem AgT.left {a b : List Nat} {T T' : Nat → V} (h : AgT (a ++ b) T T') : AgT a T T' := fun t ht => h t (List.mem_append.2 (.inl ht))
theorem AgT.right {a b : List Nat} {T T' : Nat → V} (h : AgT (a ++ b) T T') : AgT b T T' := fun t ht => h t (List.mem_append.2 (.inr ht))
theorem AgT.ev {x : Opd} {T T' : Nat → V} (h : AgT (opdTs x) T T') : ev T' x = ev T x := by
  cases x with
  | t i => exact h i (by simp [opdTs])
  | k v => rfl
theorem AgT.evs {T T' : Nat → V} : ∀ {xs : List Opd}, AgT (xs.flatMap opdTs) T T' → xs.map (R.ev T') = xs.map (R.ev T)
  | [], _ => rfl
  | x :: xs, h => by
    rw [List.flatMap_cons] at h
    simp only [List.map_cons, h.left.ev, AgT.evs h.right]
theorem AgT.build {T T' : Nat → V} : ∀ {ps : List (Nat × Nat × Opd)}, AgT (ps.flatMap fun p => opdTs p.2.2) T T' →
    mapO (fun p : Nat × Nat × Opd => (cellsV (R.ev T' p.2.2)).map fun cs => (p.1, p.2.1, cs)) ps = mapO (fun p : Nat × Nat × Opd => (cellsV (R.ev T p.2.2)).map fun cs => (p.1, p.2.1, cs)) ps
  | [], _ => rfl
  | x :: xs, h => by
    rw [List.flatMap_cons] at h
    simp only [mapO, h.left.ev, AgT.build h.right]
theorem AgT.bsl {T T' : Nat → V} {s : Nat} : ∀ {ps : List (Nat × Opd)}, AgT (ps.flatMap fun p => opdTs p.2) T T' →
    mapO (fun p : Nat × Opd => (cellsV (R.ev T' p.2)).map fun cs => (p.1 * s, s, cs)) ps = mapO (fun p : Nat × Opd => (cellsV (R.ev T p.2)).map fun cs => (p.1 * s, s, cs)) ps
  | [], _ => rfl
  | x :: xs, h => by
    rw [List.flatMap_cons] at h
    simp only [mapO, h.left.ev, AgT.bsl h.right]

theorem aop_congr {n : Nat} {o : AOp} {T T' : Nat → V} (h : AgT (opTs o) T T') : aop n o (ev T') = aop n o (ev T) := by
  cases o with
  | mv x => simp only [opTs] at h; simp only [aop, h.ev]
  | nilv => rfl
  | pick c a b => simp only [opTs] at h; simp only [aop, h.left.left.ev, h.left.right.ev, h.right.ev]
  | nbox => rfl
  | box E m x => simp only [opTs] at h; simp only [aop, h.ev]
  | build zs ps => simp only [opTs] at h; simp only [aop, h.build]
  | bsl E s len zs ps => simp only [opTs] at h; simp only [aop, h.bsl]
  | ld n b a => simp only [opTs] at h; simp only [aop, h.ev]
  | st n a x => simp only [opTs] at h; simp only [aop, h.left.ev, h.right.ev]
  | bin op x y => simp only [opTs] at h; simp only [aop, h.left.ev, h.right.ev]
  | beq op x y => simp only [opTs] at h; simp only [aop, h.left.ev, h.right.ev]
  | eqa op ks x y => simp only [opTs] at h; simp only [aop, h.left.ev, h.right.ev]
  | isn ng x => simp only [opTs] at h; simp only [aop, h.ev]
  | un op x => simp only [opTs] at h; simp only [aop, h.ev]
  | fa off a => simp only [opTs] at h; simp only [aop, h.ev]
  | fld off n b a => simp only [opTs] at h; simp only [aop, h.ev]
  | ia s x y => simp only [opTs] at h; simp only [aop, h.left.ev, h.right.ev]
  | slc s x lo hi =>
    simp only [opTs] at h
    have h1 : loV (ev T') lo = loV (ev T) lo := by
      cases lo with
      | none => rfl
      | some l => exact h.left.right.ev
    have h2 : hi.map (ev T') = hi.map (ev T) := by
      cases hi with
      | none => rfl
      | some l => simp only [Option.map_some, AgT.ev (x := l) h.right]
    simp only [aop, h.left.left.ev, h1, h2]
  | mks E s b zs l c => simp only [opTs] at h; simp only [aop, h.left.ev, h.right.ev]
  | ext i x => simp only [opTs] at h; simp only [aop, h.ev]
  | call f xs => rfl
  | len b x => simp only [opTs] at h; simp only [aop, h.ev]
  | app E s b x y => simp only [opTs] at h; simp only [aop, h.left.ev, h.right.ev]
  | mx xs => cases xs with
    | nil => rfl
    | cons x xs => simp only [opTs, List.flatMap_cons] at h; simp only [aop, h.left.ev, h.right.evs]
  | mn xs => cases xs with
    | nil => rfl
    | cons x xs => simp only [opTs, List.flatMap_cons] at h; simp only [aop, h.left.ev, h.right.evs]
  | mkf fn a b => simp only [opTs] at h; simp only [aop, h.left.evs, h.right.evs]
  | mkmap => rfl
  | lkp ok kk zs m k => simp only [opTs] at h; simp only [aop, h.left.ev, h.right.ev]
  | mup kk m k v => simp only [opTs] at h; simp only [aop, h.left.left.ev, h.left.right.ev, h.right.ev]

/-! ### stores -/
def AgS (ids : List Nat) (S S' : Store) : Prop := ∀ k ∈ ids, S' k = S k

theorem mapO_AgS {S S' : Store} : ∀ {ids : List Nat}, AgS ids S S' → mapO S' ids = mapO S ids
  | [], _ => rfl
  | k :: ids, h => by simp only [mapO, h k (by simp), mapO_AgS (ids := ids) fun q hq => h q (by simp [hq])]

theorem putAll_out {k : Nat} : ∀ {ids : List Nat} {os : List Ob} {S : Store}, k ∉ ids → putAll S ids os k = S k
  | [], os, S, _ => by cases os <;> rfl
  | q :: ids, [], S, _ => rfl
  | q :: ids, o :: os, S, h => by
    simp only [List.mem_cons, not_or] at h
    simp only [putAll]
    rw [putAll_out h.2, upd_ne _ _ h.1]
theorem putAll_ag {k : Nat} : ∀ {ids : List Nat} {os : List Ob} {S S' : Store}, S' k = S k → putAll S' ids os k = putAll S ids os k
  | [], os, S, S', h => by cases os <;> exact h
  | q :: ids, [], S, S', h => h
  | q :: ids, o :: os, S, S', h => by
    simp only [putAll]
    refine putAll_ag ?_
    by_cases hk : k = q
    · subst hk; rw [upd_same, upd_same]
    · rw [upd_ne _ _ hk, upd_ne _ _ hk, h]
theorem putNew_ag {k : Nat} : ∀ {l : List Ob} {n : Nat} {S S' : Store}, S' k = S k → putNew S' n l k = putNew S n l k
  | [], n, S, S', h => h
  | o :: l, n, S, S', h => by
    simp only [putNew]
    refine putNew_ag ?_
    by_cases hk : k = n
    · subst hk; rw [upd_same, upd_same]
    · rw [upd_ne _ _ hk, upd_ne _ _ hk, h]

/-! ### lending looks at what it leads to -/
theorem lend_loc {S S' : Store} : ∀ (k : Nat) (x : V), AgS (refsV k S x) S S' → lendV k S' x = lendV k S x ∧ refsV k S' x = refsV k S x := by
  intro k
  induction k with
  | zero => intro x _; cases x <;> exact ⟨rfl, rfl⟩
  | succ k ih =>
    have vals : ∀ xs : List V, AgS (xs.flatMap (refsV k S)) S S' → mapO (lendV k S') xs = mapO (lendV k S) xs ∧ xs.flatMap (refsV k S') = xs.flatMap (refsV k S) := by
      intro xs
      induction xs with
      | nil => intro _; exact ⟨rfl, rfl⟩
      | cons x xs ih2 =>
        intro h
        rw [List.flatMap_cons] at h
        obtain ⟨h1, h2⟩ := ih x fun q hq => h q (List.mem_append.2 (.inl hq))
        obtain ⟨h3, h4⟩ := ih2 fun q hq => h q (List.mem_append.2 (.inr hq))
        exact ⟨by simp only [mapO, h1, h3], by rw [List.flatMap_cons, List.flatMap_cons, h2, h4]⟩
    have rows : ∀ es : List (List V), AgS (es.flatMap (·.flatMap (refsV k S))) S S' → mapO (mapO (lendV k S')) es = mapO (mapO (lendV k S)) es ∧ es.flatMap (·.flatMap (refsV k S')) = es.flatMap (·.flatMap (refsV k S)) := by
      intro es
      induction es with
      | nil => intro _; exact ⟨rfl, rfl⟩
      | cons e es ih2 =>
        intro h
        rw [List.flatMap_cons] at h
        obtain ⟨h1, h2⟩ := vals e fun q hq => h q (List.mem_append.2 (.inl hq))
        obtain ⟨h3, h4⟩ := ih2 fun q hq => h q (List.mem_append.2 (.inr hq))
        exact ⟨by simp only [mapO, h1, h3], by rw [List.flatMap_cons, List.flatMap_cons, h2, h4]⟩
    intro x h
    cases x with
    | own o s N =>
      have ho : S' o = S o := h o (by simp [refsV])
      cases hS : S o with
      | none => simp only [lendV, refsV, ho, hS, and_self]
      | some ob =>
        cases ob with
        | grow m E s' ds => simp only [lendV, refsV, ho, hS, and_self]
        | map e => simp only [lendV, refsV, ho, hS, and_self]
        | row m E s' es =>
          obtain ⟨h1, h2⟩ := rows es fun q hq => h q (by simp only [refsV, hS]; exact List.mem_cons_of_mem _ hq)
          simp only [lendV, refsV, ho, hS, h1, h2, and_self]
    | loc o N i j =>
      have ho : S' o = S o := h o (by simp [refsV])
      cases hS : S o with
      | none => simp only [lendV, refsV, ho, hS, and_self]
      | some ob =>
        cases ob with
        | grow m E s' ds => simp only [lendV, refsV, ho, hS, and_self]
        | map e => simp only [lendV, refsV, ho, hS, and_self]
        | row m E s' es =>
          obtain ⟨h1, h2⟩ := rows es fun q hq => h q (by simp only [refsV, hS]; exact List.mem_cons_of_mem _ hq)
          refine ⟨?_, by simp only [refsV, ho, hS, h2]⟩
          simp only [lendV, ho, hS]
          split
          · cases hi : es[i]? with
            | none => rfl
            | some e =>
              simp only
              rw [(vals e fun q hq => h q (by
                simp only [refsV, hS]
                exact List.mem_cons_of_mem _ (List.mem_flatMap.2 ⟨e, List.mem_of_getElem? hi, hq⟩))).1]
          · rfl
    | agg cs =>
      simp only [refsV] at h
      obtain ⟨h1, h2⟩ := vals cs h
      simp only [lendV, refsV, h1, h2, and_self]
    | func fn a b =>
      simp only [refsV] at h
      obtain ⟨h1, h2⟩ := vals a fun q hq => h q (List.mem_append.2 (.inl hq))
      obtain ⟨h3, h4⟩ := vals b fun q hq => h q (List.mem_append.2 (.inr hq))
      simp only [lendV, refsV, h1, h2, h3, h4, and_self]
    | d => exact ⟨rfl, rfl⟩
    | nil => exact ⟨rfl, rfl⟩
    | mp => exact ⟨rfl, rfl⟩
    | nilmp => exact ⟨rfl, rfl⟩
    | tup => exact ⟨rfl, rfl⟩
    | junk => exact ⟨rfl, rfl⟩
    | ub => exact ⟨rfl, rfl⟩
    | un => exact ⟨rfl, rfl⟩

theorem lends_loc {S S' : Store} {k : Nat} : ∀ {xs : List V}, AgS (xs.flatMap (refsV k S)) S S' → mapO (lendV k S') xs = mapO (lendV k S) xs ∧ xs.flatMap (refsV k S') = xs.flatMap (refsV k S)
  | [], _ => ⟨rfl, rfl⟩
  | x :: xs, h => by
    rw [List.flatMap_cons] at h
    obtain ⟨h1, h2⟩ := lend_loc k x fun q hq => h q (List.mem_append.2 (.inl hq))
    obtain ⟨h3, h4⟩ := lends_loc (xs := xs) fun q hq => h q (List.mem_append.2 (.inr hq))
    exact ⟨by simp only [mapO, h1, h3], by rw [List.flatMap_cons, List.flatMap_cons, h2, h4]⟩

theorem mapO_ext {α β : Type} {f g : α → Option β} : ∀ {l : List α}, (∀ x ∈ l, f x = g x) → mapO f l = mapO g l
  | [], _ => rfl
  | x :: l, h => by simp only [mapO, h x (by simp), mapO_ext (l := l) fun y hy => h y (by simp [hy])]

theorem freezeOb_loc {S S' : Store} {k : Nat} {ids : List Nat} (h : AgS ids S S') (o : Ob) : freezeOb k S' ids o = freezeOb k S ids o := by
  cases o with
  | grow => rfl
  | map => rfl
  | row m E s es =>
    have hsub : ∀ {A B : Store} (x : V), AgS ids A B → (∀ i ∈ refsV k A x, i ∈ ids) → lendV k B x = lendV k A x ∧ refsV k B x = refsV k A x := fun x hab hr => lend_loc k x fun q hq => hab q (hr q hq)
    have hiff : ∀ x : V, (∀ i ∈ refsV k S' x, i ∈ ids) ↔ (∀ i ∈ refsV k S x, i ∈ ids) := fun x => ⟨fun hr => by
      rw [(hsub x (A := S') (B := S) (fun q hq => (h q hq).symm) hr).2]; exact hr, fun hr => by rw [(hsub x h hr).2]; exact hr⟩
    have hall : (es.all fun e => e.all fun x => (refsV k S' x).all fun i => ids.contains i) = (es.all fun e => e.all fun x => (refsV k S x).all fun i => ids.contains i) := by
      rw [Bool.eq_iff_iff]
      simp only [List.all_eq_true, List.contains_iff_mem]
      exact ⟨fun g e he x hx => (hiff x).1 (g e he x hx), fun g e he x hx => (hiff x).2 (g e he x hx)⟩
    simp only [freezeOb, hall]
    split
    · rename_i hc
      simp only [List.all_eq_true, List.contains_iff_mem] at hc
      rw [mapO_ext (f := mapO (lendV k S')) (g := mapO (lendV k S)) fun e he => mapO_ext fun x hx => (hsub x h (hc e he x hx)).1]
    · rfl

theorem lentS_out {r : V} {os : List Ob} {S : Store} {ids : List Nat} {k : Nat} (hk : k ∉ ids) : lentS r os S ids k = S k := by
  unfold lentS
  split
  · rfl
  · simp only [freeze, if_neg hk]
theorem lentS_ag {r : V} {os : List Ob} {S S' : Store} {ids : List Nat} (h : AgS ids S S') {k : Nat} (hk : k ∈ ids) : lentS r os S' ids k = lentS r os S ids k := by
  unfold lentS
  split
  · exact h k hk
  · simp only [freeze, if_pos hk, h k hk]
    congr 1
    funext o
    exact freezeOb_loc h o

/-! ### a step -/
theorem isSt_false {n : Nat} {o : AOp} {ρ : Opd → V} {r : Req} (h : aop n o ρ = some r) (hs : isSt o = false) {os os' news : List Ob} {v : V} (hact : r.act os = some (v, os', news)) : os' = os ∨ r.ids = [] := by
  cases o with
  | st => simp [isSt] at hs
  | app => simp [isSt] at hs
  | mup => simp [isSt] at hs
  | call => simp [aop] at h
  | ld n b a =>
    simp only [aop] at h
    split at h
    · simp only [rqo, Option.map_eq_some_iff] at h; obtain ⟨_, _, rfl⟩ := h; exact .inr rfl
    · simp only [Option.some.injEq] at h
      subst h
      simp only at hact
      split at hact
      · simp only [Option.map_eq_some_iff] at hact
        obtain ⟨_, _, h2⟩ := hact
        exact .inl (fst_snd h2).2.1.symm
      · cases hact
    · cases h
  | lkp ok kk zs m k =>
    simp only [aop] at h
    split at h
    · split at h
      · cases h
      · simp only [Option.some.injEq] at h
        subst h
        simp only at hact
        split at hact
        · split at hact
          · simp only [Option.some.injEq] at hact; exact .inl (fst_snd hact).2.1.symm
          · simp only [Option.some.injEq] at hact; exact .inl (fst_snd hact).2.1.symm
          · cases hact
        · cases hact
    · cases h
  | mx xs => cases xs with
    | nil => simp [aop] at h
    | cons x xs => simp only [aop, rqo, Option.map_eq_some_iff] at h; obtain ⟨_, _, rfl⟩ := h; exact .inr rfl
  | mn xs => cases xs with
    | nil => simp [aop] at h
    | cons x xs => simp only [aop, rqo, Option.map_eq_some_iff] at h; obtain ⟨_, _, rfl⟩ := h; exact .inr rfl
  | _ =>
    simp only [aop] at h
    repeat' split at h
    all_goals first
      | (cases h; done)
      | (simp only [rqo, Option.map_eq_some_iff] at h; obtain ⟨_, _, rfl⟩ := h; exact .inr rfl)
      | (simp only [rq, Option.some.injEq] at h; subst h; exact .inr rfl)
      | (simp only [Option.some.injEq] at h; subst h; exact .inr rfl)

theorem putAll_self {S : Store} : ∀ {ids : List Nat} {os : List Ob}, mapO S ids = some os → putAll S ids os = S
  | [], os, _ => by cases os <;> rfl
  | k :: ids, os, h => by
    obtain ⟨o, q, ho, hq, rfl⟩ := mapO_cons h
    simp only [putAll]
    have : upd S k (some o) = S := by
      funext j
      simp only [upd]
      split
      · rename_i hj; rw [hj, ho]
      · rfl
    rw [this]
    exact putAll_self hq

theorem stepI_op {call : CallF} {i : AI} {st : St} (hne : ∀ f xs, i.op = .call f xs → False) (hw : wants st.T i.g = some true) :
    stepI call i st = match aop st.n i.op (ev st.T) with
      | none => none
      | some r => match mapO st.S r.ids with
        | none => none
        | some os => match r.act os with
          | none => none
          | some (v, os', news) =>
            some ({ T := putT st.T i.dst v, S := putNew (putAll st.S r.ids os') st.n news, n := st.n + news.length }, ⟨r.ids, isSt i.op, st.n, st.n + news.length⟩) := by
  unfold stepI
  rw [hw]
  cases hop : i.op
  all_goals first
    | rfl
    | exact (hne _ _ hop).elim

/-- What holds of a step, wherever it is done. -/
structure Loc (call : CallF) (i : AI) (n : Nat) (T : Nat → V) (S : Store) (T1 : Nat → V) (S1 : Store) (m : Nat) (fp : Fp) : Prop where
  fn : fp.n = n
  fm : fp.m = m
  le : n ≤ m
  out : ∀ k, k ∉ fp.ids → ¬ (n ≤ k ∧ k < m) → S1 k = S k
  read : fp.w = false → ∀ k, ¬ (n ≤ k ∧ k < m) → S1 k = S k
  val : ∃ v, T1 = putT T i.dst v ∧ ∀ T' S', AgT (looksAI i) T T' → AgS fp.ids S S' →
    ∃ S1', stepI call i ⟨T', S', n⟩ = some (⟨putT T' i.dst v, S1', m⟩, fp) ∧ (∀ k, k ∈ fp.ids ∨ (n ≤ k ∧ k < m) → S1' k = S1 k) ∧ (∀ k, k ∉ fp.ids → ¬ (n ≤ k ∧ k < m) → S1' k = S' k)

theorem step_loc {call : CallF} {i : AI} {n : Nat} {T : Nat → V} {S : Store} {st1 : St} {fp : Fp} (h : stepI call i ⟨T, S, n⟩ = some (st1, fp)) : Loc call i n T S st1.T st1.S st1.n fp := by
  have hle := stepI_le h
  have hwants : ∀ T', AgT (looksAI i) T T' → wants T' i.g = wants T i.g := by
    intro T' hT
    cases hg : i.g with
    | none => rfl
    | some p =>
      have : T' p.1 = T p.1 := hT p.1 (by simp only [looksAI, hg]; simp)
      simp only [wants, this]
  unfold stepI at h
  simp only at h
  split at h
  · cases h
  · rename_i hw
    simp only [Option.some.injEq, Prod.mk.injEq] at h
    obtain ⟨rfl, rfl⟩ := h
    refine ⟨rfl, rfl, Nat.le_refl _, fun _ _ _ => rfl, fun _ _ _ => rfl, .un, rfl, fun T' S' hT hS => ⟨S', ?_, ?_, fun _ _ _ => rfl⟩⟩
    · unfold stepI
      simp only [hwants T' hT, hw]
    · rintro k (hk | hk)
      · cases hk
      · simp only at hk; omega
  · rename_i hw
    split at h
    · rename_i f xs hop
      have hA : ∀ T', AgT (looksAI i) T T' → ev T' f = ev T f ∧ xs.map (ev T') = xs.map (ev T) := by
        intro T' hT
        unfold looksAI at hT
        have := hT.left
        rw [hop] at this
        simp only [opTs] at this
        exact ⟨this.left.ev, this.right.evs⟩
      unfold doCall at h
      split at h
      · cases h
      · rename_i g fst caps hc
        split at h
        · cases h
        · rename_i ds hds
          split at h
          · cases h
          · rename_i r os hr
            split at h
            · rename_i hgrow
              simp only [Option.some.injEq, Prod.mk.injEq] at h
              obtain ⟨rfl, rfl⟩ := h
              simp only at hle hds hgrow ⊢
              generalize hids : (fst ++ xs.map (ev T) ++ caps).flatMap (refsV 8 S) = ids at *
              refine ⟨rfl, rfl, hle, fun k hk hn => ?_, fun h => by simp at h, shV n r, rfl, fun T' S' hT hS => ?_⟩
              · rw [putNew_out k _ _ _ (by omega)]
                exact lentS_out hk
              · obtain ⟨e1, e2⟩ := hA T' hT
                have hl := lends_loc (k := 8) (xs := fst ++ xs.map (ev T) ++ caps) (S := S) (S' := S') (by rw [hids]; exact hS)
                rw [hids] at hl
                have hchk : (ids.all fun o => (lentS r os S' ids o).isSome) = true := by
                  rw [List.all_eq_true]
                  intro o ho
                  rw [lentS_ag hS ho]
                  exact (List.all_eq_true.1 hgrow.2) o ho
                refine ⟨putNew (lentS r os S' ids) n os, ?_, ?_, ?_⟩
                · unfold stepI
                  simp only [hwants T' hT, hw, hop, doCall, e1, e2, hc, hl.1, hl.2, hds, hr, hgrow.1, hchk, and_self, if_true]
                · intro k hk
                  by_cases hin : n ≤ k ∧ k < n + os.length
                  · rw [putNew_in _ _ hin.1 hin.2, putNew_in _ _ hin.1 hin.2]
                  · exact putNew_ag (lentS_ag hS (hk.resolve_right hin))
                · intro k hk hn
                  rw [putNew_out k _ _ _ (by omega)]
                  exact lentS_out hk
            · cases h
    · rename_i op hne
      split at h
      · cases h
      · rename_i r hr
        split at h
        · cases h
        · rename_i os hos
          split at h
          · cases h
          · rename_i v os' news hact
            simp only [Option.some.injEq, Prod.mk.injEq] at h
            obtain ⟨rfl, rfl⟩ := h
            refine ⟨rfl, rfl, hle, fun k hk hn => ?_, fun h k hn => ?_, v, rfl, fun T' S' hT hS => ?_⟩
            · simp only at hk hn ⊢
              rw [putNew_out k _ _ _ (by omega), putAll_out hk]
            · simp only at h hn ⊢
              rw [putNew_out k _ _ _ (by omega)]
              rcases isSt_false hr h hact with rfl | h0
              · rw [putAll_self hos]
              · rw [putAll_out (by rw [h0]; simp)]
            · have hA : aop n i.op (ev T') = aop n i.op (ev T) := by
                unfold looksAI at hT
                exact aop_congr hT.left
              refine ⟨putNew (putAll S' r.ids os') n news, ?_, ?_, ?_⟩
              · rw [stepI_op hne (by simp only [hwants T' hT, hw])]
                simp only [hA, hr, mapO_AgS hS, hos, hact]
              · intro k hk
                simp only at hk
                by_cases hin : n ≤ k ∧ k < n + news.length
                · simp only
                  rw [putNew_in _ _ hin.1 hin.2, putNew_in _ _ hin.1 hin.2]
                · exact putNew_ag (putAll_ag (hS k (hk.resolve_right hin)))
              · intro k hk hn
                simp only at hk hn
                rw [putNew_out k _ _ _ (by omega), putAll_out hk]

end Go.R

namespace Go.R

/-! ### what is ahead -/
theorem before_fold (g : Array Nat → Oper → Nat) : ∀ (l : List Oper) (acc : Array Nat), (l.foldl (fun acc o => acc.push (g acc o)) acc).size = acc.size + l.length ∧ (∀ j, j < acc.size → (l.foldl (fun acc o => acc.push (g acc o)) acc)[j]? = acc[j]?) ∧
    ∀ (j : Nat) (o : Oper), l[j]? = some o → ∃ A : Array Nat, (l.foldl (fun acc o => acc.push (g acc o)) acc)[acc.size + j]? = some (g A o) ∧ A.size = acc.size + j ∧ ∀ q, q < acc.size + j → A[q]? = (l.foldl (fun acc o => acc.push (g acc o)) acc)[q]?
  | [], acc => ⟨by simp, fun _ _ => rfl, fun j o h => by simp at h⟩
  | x :: l, acc => by
    obtain ⟨h1, h2, h3⟩ := before_fold g l (acc.push (g acc x))
    simp only [List.foldl_cons, Array.size_push, List.length_cons] at h1 h2 h3 ⊢
    refine ⟨by omega, fun j hj => ?_, fun j o hj => ?_⟩
    · rw [h2 j (by omega), Array.getElem?_push_lt (by omega)]
      rw [Array.getElem?_eq_getElem hj]
    · cases j with
      | zero =>
        simp at hj
        subst hj
        refine ⟨acc, ?_, rfl, fun q hq => ?_⟩
        · rw [h2 _ (by omega)]; simp
        · rw [h2 q (by omega), Array.getElem?_push_lt (by omega), Array.getElem?_eq_getElem (by omega)]
      | succ j =>
        obtain ⟨A, e1, e2, e3⟩ := h3 j o (by simpa using hj)
        exact ⟨A, by rw [show acc.size + (j + 1) = acc.size + 1 + j by omega]; exact e1, by omega, fun q hq => e3 q (by omega)⟩

theorem bits_fold (A : Array Nat) (j : Nat) : ∀ (es : List Edge) (s : Nat), ((es.foldl (fun s e => if Region.binds .any e then s ||| 2 ^ e.on ||| A.getD e.on 0 else s) s).testBit j = true) → s.testBit j = true ∨ ∃ e ∈ es, Region.binds .any e = true ∧ (e.on = j ∨ (A.getD e.on 0).testBit j = true)
  | [], s, h => .inl h
  | e :: es, s, h => by
    simp only [List.foldl_cons] at h
    rcases bits_fold A j es _ h with h | ⟨e', he', h⟩
    · split at h
      · rename_i hb
        simp only [Nat.testBit_or, Bool.or_eq_true, Nat.testBit_two_pow, decide_eq_true_eq] at h
        rcases h with (h | h) | h
        · exact .inl h
        · exact .inr ⟨e, by simp, hb, .inl h⟩
        · exact .inr ⟨e, by simp, hb, .inr h⟩
      · exact .inl h
    · exact .inr ⟨e', by simp [he'], h⟩

theorem before_bit {ops : Array Oper} {i j : Nat} {o : Oper} (ho : ops[i]? = some o) (hback : ∀ e ∈ o.after, Region.binds .any e = true → e.on < i) (h : ((Region.before ops).getD i 0).testBit j = true) :
    ∃ e ∈ o.after, Region.binds .any e = true ∧ (e.on = j ∨ ((Region.before ops).getD e.on 0).testBit j = true) := by
  have hb : Region.before ops = ops.toList.foldl (fun acc o => acc.push (o.after.foldl (fun s e => if Region.binds .any e then s ||| 2 ^ e.on ||| acc.getD e.on 0 else s) 0)) #[] := by
    unfold Region.before
    rw [← Array.foldl_toList]
  obtain ⟨_, _, h3⟩ := before_fold (fun acc o => o.after.foldl (fun s e => if Region.binds .any e then s ||| 2 ^ e.on ||| acc.getD e.on 0 else s) 0) ops.toList #[]
  obtain ⟨A, e1, e2, e3⟩ := h3 i o (by simpa using ho)
  rw [← hb] at e1 e3
  simp only [List.size_toArray, List.length_nil, Nat.zero_add] at e1 e2 e3
  rw [Array.getD_eq_getD_getElem?, e1] at h
  simp only [Option.getD_some] at h
  rw [← Array.foldl_toList] at h
  rcases bits_fold A j _ _ h with h | ⟨e, he, hbi, h⟩
  · simp at h
  · have he' : e ∈ o.after := by simpa using he
    refine ⟨e, he', hbi, h.imp id fun h => ?_⟩
    rw [Array.getD_eq_getD_getElem?] at h ⊢
    rwa [e3 e.on (hback e he' hbi)] at h

/-! ### runs in some order -/
structure It where
  idx : Nat
  i : AI
  fp : Fp

def Run (call : CallF) : List It → (Nat → V) → Store → (Nat → V) → Store → Prop
  | [], T, S, T', S' => T' = T ∧ S' = S
  | x :: l, T, S, T', S' => ∃ T1 S1, stepI call x.i ⟨T, S, x.fp.n⟩ = some (⟨T1, S1, x.fp.m⟩, x.fp) ∧ Run call l T1 S1 T' S'

structure Ok (p q : It) : Prop where
  t1 : ∀ d, p.i.dst = some d → d ∉ looksAI q.i
  t2 : ∀ d, p.i.dst = some d → q.i.dst ≠ some d
  t3 : ∀ d, q.i.dst = some d → d ∉ looksAI p.i
  ap : (p.fp.w = false ∧ q.fp.w = false) ∨ ∀ k ∈ p.fp.ids, k ∉ q.fp.ids
  r1 : ∀ k ∈ q.fp.ids, k < p.fp.n ∨ p.fp.m ≤ k
  r2 : ∀ k ∈ p.fp.ids, k < q.fp.n ∨ q.fp.m ≤ k
  r3 : p.fp.m ≤ q.fp.n

theorem putT_ag {T : Nat → V} {ts : List Nat} {d : Option Nat} {v : V} (h : ∀ x, d = some x → x ∉ ts) : AgT ts T (putT T d v) := by
  intro t ht
  cases d with
  | none => rfl
  | some x => simp only [putT]; rw [upd_ne _ _ (by rintro rfl; exact h _ rfl ht)]

theorem putT_comm {T : Nat → V} {d e : Option Nat} {v u : V} (h : ∀ x, d = some x → e ≠ some x) : putT (putT T d v) e u = putT (putT T e u) d v := by
  cases d with
  | none => rfl
  | some x => cases e with
    | none => rfl
    | some y => simp only [putT]; exact upd_comm _ _ _ (by rintro rfl; exact h _ rfl rfl)

theorem swap {call : CallF} {p q : It} (hok : Ok p q) {T S T1 S1 T2 S2} (h1 : stepI call p.i ⟨T, S, p.fp.n⟩ = some (⟨T1, S1, p.fp.m⟩, p.fp)) (h2 : stepI call q.i ⟨T1, S1, q.fp.n⟩ = some (⟨T2, S2, q.fp.m⟩, q.fp)) :
    ∃ T1' S1', stepI call q.i ⟨T, S, q.fp.n⟩ = some (⟨T1', S1', q.fp.m⟩, q.fp) ∧ stepI call p.i ⟨T1', S1', p.fp.n⟩ = some (⟨T2, S2, p.fp.m⟩, p.fp) := by
  have L1 := step_loc h1
  have L2 := step_loc h2
  simp only at L1 L2
  have le1 := L1.le
  have le2 := L2.le
  have r3 := hok.r3
  obtain ⟨v, hv, f1⟩ := L1.val
  obtain ⟨u, hu, f2⟩ := L2.val
  have hids2 : ∀ k ∈ q.fp.ids, S1 k = S k := fun k hk => by
    have := hok.r1 k hk
    rcases hok.ap with ⟨hp, _⟩ | hd
    · exact L1.read hp k (by omega)
    · exact L1.out k (fun h => hd k h hk) (by omega)
  have hT : AgT (looksAI q.i) T1 T := fun t ht => by rw [hv]; exact (putT_ag hok.t1 t ht).symm
  obtain ⟨S1', g1, g2, g3⟩ := f2 T S hT fun k hk => (hids2 k hk).symm
  have L2' := step_loc g1
  simp only at L2'
  have hids1 : ∀ k ∈ p.fp.ids, S1' k = S k := fun k hk => by
    have := hok.r2 k hk
    rcases hok.ap with ⟨_, hq⟩ | hd
    · exact L2'.read hq k (by omega)
    · exact L2'.out k (hd k hk) (by omega)
  obtain ⟨S2', k1, k2, k3⟩ := f1 (putT T q.i.dst u) S1' (putT_ag hok.t3) fun k hk => hids1 k hk
  refine ⟨_, S1', g1, ?_⟩
  have hTT : putT (putT T q.i.dst u) p.i.dst v = T2 := by rw [hu, hv, putT_comm (fun x hx => hok.t2 x hx)]
  have hSS : S2' = S2 := by
    funext k
    by_cases hp : k ∈ p.fp.ids ∨ (p.fp.n ≤ k ∧ k < p.fp.m)
    · rw [k2 k hp]
      by_cases hq : k ∈ q.fp.ids
      · have hr := hok.r1 k hq
        have hp' : k ∈ p.fp.ids := hp.resolve_right (by omega)
        have hr2 := hok.r2 k hp'
        rcases hok.ap with ⟨_, hw⟩ | hd
        · exact (L2.read hw k (by omega)).symm
        · exact absurd hq (hd k hp')
      · refine (L2.out k hq ?_).symm
        rcases hp with hp | hp
        · have := hok.r2 k hp; omega
        · omega
    · rw [k3 k (fun h => hp (.inl h)) (fun h => hp (.inr h))]
      by_cases hq : k ∈ q.fp.ids ∨ (q.fp.n ≤ k ∧ k < q.fp.m)
      · exact g2 k hq
      · rw [g3 k (fun h => hq (.inl h)) (fun h => hq (.inr h)), L2.out k (fun h => hq (.inl h)) (fun h => hq (.inr h)), L1.out k (fun h => hp (.inl h)) (fun h => hp (.inr h))]
  rw [← hTT, ← hSS]
  exact k1

theorem front {call : CallF} {q : It} {l2 : List It} : ∀ {l1 : List It} {T S T' S'}, (∀ p ∈ l1, Ok p q) → Run call (l1 ++ q :: l2) T S T' S' → ∃ T1 S1, stepI call q.i ⟨T, S, q.fp.n⟩ = some (⟨T1, S1, q.fp.m⟩, q.fp) ∧ Run call (l1 ++ l2) T1 S1 T' S'
  | [], T, S, T', S', _, h => h
  | p :: l1, T, S, T', S', hok, h => by
    obtain ⟨T1, S1, h1, h2⟩ := h
    obtain ⟨T2, S2, h3, h4⟩ := front (fun x hx => hok x (by simp [hx])) h2
    obtain ⟨T3, S3, h5, h6⟩ := swap (hok p (by simp)) h1 h3
    exact ⟨T3, S3, h5, T2, S2, h6, h4⟩

/-! ### the run of the text -/
def items : Nat → List AI → List Fp → List It
  | k, i :: l, f :: fs => ⟨k, i, f⟩ :: items (k + 1) l fs
  | _, _, _ => []

theorem ops_run {call : CallF} : ∀ {l : List AI} {st st' : St} {fs : List Fp} (k : Nat), ops call l st = some (st', fs) →
    fs.length = l.length ∧ Run call (items k l fs) st.T st.S st'.T st'.S ∧ st.n ≤ st'.n ∧ (∀ x ∈ items k l fs, k ≤ x.idx ∧ st.n ≤ x.fp.n ∧ x.fp.n ≤ x.fp.m ∧ x.fp.m ≤ st'.n) ∧ (items k l fs).Pairwise (fun p q => p.idx < q.idx ∧ p.fp.m ≤ q.fp.n)
  | [], st, st', fs, k, h => by
    simp [ops] at h
    obtain ⟨rfl, rfl⟩ := h
    exact ⟨rfl, ⟨rfl, rfl⟩, Nat.le_refl _, (by intro x hx; simp [items] at hx), by simp [items]⟩
  | i :: l, st, st', fs, k, h => by
    simp only [ops] at h
    split at h
    · cases h
    · rename_i st1 f hf
      split at h
      · cases h
      · rename_i st2 fs' hfs
        simp only [Option.some.injEq, Prod.mk.injEq] at h
        obtain ⟨rfl, rfl⟩ := h
        obtain ⟨h1, h2, h3, h4, h5⟩ := ops_run (k + 1) hfs
        have L := step_loc (T := st.T) (S := st.S) (n := st.n) hf
        have e1 := L.fn
        have e2 := L.fm
        have e3 := L.le
        refine ⟨by simp [h1], ⟨st1.T, st1.S, ?_, h2⟩, by omega, fun x hx => ?_, ?_⟩
        · simp only [e1, e2]; exact hf
        · simp only [items, List.mem_cons] at hx
          rcases hx with rfl | hx
          · simp only; omega
          · have := h4 x hx; omega
        · simp only [items, List.pairwise_cons]
          refine ⟨fun x hx => ?_, h5⟩
          have := h4 x hx
          omega

theorem items_get : ∀ {l : List AI} {fs : List Fp} {k : Nat} {x : It}, x ∈ items k l fs → ∃ j, x.idx = k + j ∧ l[j]? = some x.i ∧ fs[j]? = some x.fp
  | [], fs, k, x, h => by simp [items] at h
  | i :: l, [], k, x, h => by simp [items] at h
  | i :: l, f :: fs, k, x, h => by
    simp only [items, List.mem_cons] at h
    rcases h with rfl | h
    · exact ⟨0, rfl, rfl, rfl⟩
    · obtain ⟨j, h1, h2, h3⟩ := items_get h
      exact ⟨j + 1, by omega, by simpa using h2, by simpa using h3⟩

theorem items_has : ∀ {l : List AI} {fs : List Fp} {k j : Nat}, fs.length = l.length → j < l.length → ∃ x ∈ items k l fs, x.idx = k + j
  | [], fs, k, j, _, h => by simp at h
  | i :: l, [], k, j, h, _ => by simp at h
  | i :: l, f :: fs, k, 0, _, _ => ⟨⟨k, i, f⟩, by simp [items], rfl⟩
  | i :: l, f :: fs, k, j + 1, h, hj => by
    obtain ⟨x, h1, h2⟩ := items_has (k := k + 1) (j := j) (fs := fs) (l := l) (by simpa using h) (by simpa using hj)
    exact ⟨x, by simp [items, h1], by omega⟩

theorem run_step {call : CallF} : ∀ {l : List It} {T S T' S'}, Run call l T S T' S' → ∀ x ∈ l, ∃ T1 S1 st2, stepI call x.i ⟨T1, S1, x.fp.n⟩ = some (st2, x.fp)
  | [], _, _, _, _, _, x, hx => by cases hx
  | y :: l, T, S, T', S', h, x, hx => by
    obtain ⟨T1, S1, h1, h2⟩ := h
    rcases List.mem_cons.1 hx with rfl | hx
    · exact ⟨T, S, _, h1⟩
    · exact run_step h2 x hx

/-! ### what the kind of an operation says -/
theorem aop_kind {n : Nat} {o : AOp} {ρ : Opd → V} {r : Req} (h : aop n o ρ = some r) {os os' news : List Ob} {v : V} (hact : r.act os = some (v, os', news)) : (touches o = false → r.ids = []) ∧ (makes o = false → news = []) := by
  cases o with
  | call => simp [aop] at h
  | st => exact ⟨fun h => by simp [touches] at h, fun h => by simp [makes] at h⟩
  | app => exact ⟨fun h => by simp [touches] at h, fun h => by simp [makes] at h⟩
  | ld n b a =>
    refine ⟨fun h => by simp [touches] at h, fun _ => ?_⟩
    simp only [aop] at h
    split at h
    · simp only [rqo, Option.map_eq_some_iff] at h; obtain ⟨_, _, rfl⟩ := h; simp only [Option.some.injEq] at hact; exact (fst_snd hact).2.2.symm
    · simp only [Option.some.injEq] at h
      subst h
      simp only at hact
      split at hact
      · simp only [Option.map_eq_some_iff] at hact
        obtain ⟨_, _, h2⟩ := hact
        exact (fst_snd h2).2.2.symm
      · cases hact
    · cases h
  | lkp ok kk zs m k =>
    refine ⟨fun h => by simp [touches] at h, fun _ => ?_⟩
    simp only [aop] at h
    split at h
    · split at h
      · cases h
      · simp only [Option.some.injEq] at h
        subst h
        simp only at hact
        split at hact
        · split at hact
          · simp only [Option.some.injEq] at hact; exact (fst_snd hact).2.2.symm
          · simp only [Option.some.injEq] at hact; exact (fst_snd hact).2.2.symm
          · cases hact
        · cases hact
    · cases h
  | mup kk m k v =>
    refine ⟨fun h => by simp [touches] at h, fun _ => ?_⟩
    simp only [aop] at h
    split at h
    · split at h
      · cases h
      · simp only [Option.some.injEq] at h
        subst h
        simp only at hact
        split at hact
        · simp only [Option.map_eq_some_iff] at hact
          obtain ⟨_, _, h2⟩ := hact
          exact (fst_snd h2).2.2.symm
        · cases hact
    · cases h
  | mx xs => cases xs with
    | nil => simp [aop] at h
    | cons x xs => simp only [aop, rqo, Option.map_eq_some_iff] at h; obtain ⟨_, _, rfl⟩ := h; simp only [Option.some.injEq] at hact; exact ⟨fun _ => rfl, fun _ => (fst_snd hact).2.2.symm⟩
  | mn xs => cases xs with
    | nil => simp [aop] at h
    | cons x xs => simp only [aop, rqo, Option.map_eq_some_iff] at h; obtain ⟨_, _, rfl⟩ := h; simp only [Option.some.injEq] at hact; exact ⟨fun _ => rfl, fun _ => (fst_snd hact).2.2.symm⟩
  | nilv => simp only [aop, Option.some.injEq] at h; subst h; exact ⟨fun _ => rfl, fun h => by simp [makes] at h⟩
  | nbox => simp only [aop, Option.some.injEq] at h; subst h; exact ⟨fun _ => rfl, fun h => by simp [makes] at h⟩
  | mkmap => simp only [aop, Option.some.injEq] at h; subst h; exact ⟨fun _ => rfl, fun h => by simp [makes] at h⟩
  | box | bsl | mks =>
    refine ⟨fun _ => ?_, fun h => by simp [makes] at h⟩
    simp only [aop] at h
    repeat' split at h
    all_goals first
      | (cases h; done)
      | (simp only [Option.some.injEq] at h; subst h; rfl)
  | _ =>
    simp only [aop] at h
    repeat' split at h
    all_goals first
      | (cases h; done)
      | (simp only [rqo, Option.map_eq_some_iff] at h; obtain ⟨_, _, rfl⟩ := h; simp only [Option.some.injEq] at hact; exact ⟨fun _ => rfl, fun _ => (fst_snd hact).2.2.symm⟩)
      | (simp only [rq, Option.some.injEq] at h; subst h; simp only [Option.some.injEq] at hact; exact ⟨fun _ => rfl, fun _ => (fst_snd hact).2.2.symm⟩)

theorem step_kind {call : CallF} {i : AI} {st st' : St} {fp : Fp} (h : stepI call i st = some (st', fp)) : (touches i.op = false → fp.ids = []) ∧ (changes i.op = false → fp.w = false) ∧ (makes i.op = false → fp.n = fp.m) := by
  unfold stepI at h
  split at h
  · cases h
  · simp only [Option.some.injEq, Prod.mk.injEq] at h
    obtain ⟨_, rfl⟩ := h
    exact ⟨fun _ => rfl, fun _ => rfl, fun _ => rfl⟩
  · split at h
    · rename_i f xs hop
      rw [hop]
      exact ⟨fun h => by simp [touches] at h, fun h => by simp [changes] at h, fun h => by simp [makes] at h⟩
    · rename_i op hne
      split at h
      · cases h
      · rename_i r hr
        split at h
        · cases h
        · split at h
          · cases h
          · rename_i v os' news hact
            simp only [Option.some.injEq, Prod.mk.injEq] at h
            obtain ⟨_, rfl⟩ := h
            obtain ⟨h1, h2⟩ := aop_kind hr hact
            refine ⟨h1, fun hc => ?_, fun hm => by simp [h2 hm]⟩
            cases hop : i.op <;> rw [hop] at hc <;> simp_all [changes, isSt]

/-- What the pairs of a region are to each other. -/
theorem pair_ok {call : CallF} {b : Array Nat} {l : List AI} {fs : List Fp} (ht : tmpsOk b l = true) (hp : pairsOk fs (openPairs b l) = true) {p q : It} (hpi : l[p.idx]? = some p.i) (hqi : l[q.idx]? = some q.i) (hpf : fs[p.idx]? = some p.fp) (hqf : fs[q.idx]? = some q.fp)
    (hlt : p.idx < q.idx) (hle : p.fp.m ≤ q.fp.n) (hpp : p.fp.n ≤ p.fp.m) (hqq : q.fp.n ≤ q.fp.m) (hb : (b.getD q.idx 0).testBit p.idx = false) (h1 : ∃ a c, stepI call p.i a = some (c, p.fp)) (h2 : ∃ a c, stepI call q.i a = some (c, q.fp)) : Ok p q := by
  obtain ⟨a1, c1, h1⟩ := h1
  obtain ⟨a2, c2, h2⟩ := h2
  obtain ⟨k1, k2, k3⟩ := step_kind h1
  obtain ⟨k4, k5, k6⟩ := step_kind h2
  have hpz : (p.i, p.idx) ∈ l.zipIdx := by rw [List.mem_zipIdx_iff_getElem?]; exact hpi
  have hqz : (q.i, q.idx) ∈ l.zipIdx := by rw [List.mem_zipIdx_iff_getElem?]; exact hqi
  unfold tmpsOk at ht
  rw [List.all_eq_true] at ht
  have ht1 := ht _ hqz
  rw [List.all_eq_true] at ht1
  have ht2 := ht1 _ hpz
  simp only [hlt, hb, decide_true, Bool.not_false, Bool.and_self, Bool.not_true, Bool.false_or, Bool.and_eq_true] at ht2
  obtain ⟨ht3, ht4⟩ := ht2
  have hopen : ((touches p.i.op = true ∧ touches q.i.op = true ∧ (changes p.i.op = true ∨ changes q.i.op = true)) ∨ (touches q.i.op = true ∧ makes p.i.op = true) ∨ (touches p.i.op = true ∧ makes q.i.op = true)) → apartF p.fp q.fp = true := by
    intro hh
    unfold pairsOk at hp
    rw [List.all_eq_true] at hp
    have := hp (p.idx, q.idx) (by
      unfold openPairs
      rw [List.mem_flatMap]
      refine ⟨_, hqz, ?_⟩
      rw [List.mem_filterMap]
      exact ⟨_, hpz, by simp only; rw [if_pos ⟨hlt, hb, hh⟩]⟩)
    simp only [List.getD_eq_getElem?_getD, hpf, hqf, Option.getD_some] at this
    exact this
  have hsplit : apartF p.fp q.fp = true → ((p.fp.w = false ∧ q.fp.w = false) ∨ ∀ k ∈ p.fp.ids, k ∉ q.fp.ids) ∧ (∀ k ∈ q.fp.ids, k < p.fp.n ∨ p.fp.m ≤ k) ∧ (∀ k ∈ p.fp.ids, k < q.fp.n ∨ q.fp.m ≤ k) := by
    intro h
    unfold apartF at h
    simp only [Bool.and_eq_true, Bool.or_eq_true, List.all_eq_true, decide_eq_true_eq, Bool.not_eq_true', Bool.not_eq_eq_eq_not, Bool.not_true, List.contains_eq_mem, decide_eq_false_iff_not] at h
    exact ⟨h.1.1.imp (fun h => ⟨h.1, h.2⟩) id, h.1.2, h.2⟩
  refine ⟨fun d hd => ?_, fun d hd => ?_, fun d hd => ?_, ?_, ?_, ?_, hle⟩
  · rw [hd] at ht3
    simp only [Bool.and_eq_true, Bool.not_eq_true', List.contains_eq_mem, decide_eq_false_iff_not] at ht3
    exact ht3.1
  · rw [hd] at ht3
    simp only [Bool.and_eq_true, bne_iff_ne] at ht3
    exact ht3.2
  · rw [hd] at ht4
    simpa using ht4
  · by_cases hh : touches p.i.op = true ∧ touches q.i.op = true ∧ (changes p.i.op = true ∨ changes q.i.op = true)
    · exact (hsplit (hopen (.inl hh))).1
    · by_cases e1 : touches p.i.op = true
      · by_cases e2 : touches q.i.op = true
        · by_cases e3 : changes p.i.op = true
          · exact absurd ⟨e1, e2, .inl e3⟩ hh
          · by_cases e4 : changes q.i.op = true
            · exact absurd ⟨e1, e2, .inr e4⟩ hh
            · exact .inl ⟨k2 (by simpa using e3), k5 (by simpa using e4)⟩
        · refine .inr fun k _ => ?_
          rw [k4 (by simpa using e2)]; simp
      · refine .inr fun k hk => ?_
        rw [k1 (by simpa using e1)] at hk; cases hk
  · intro k hk
    by_cases e2 : touches q.i.op = true
    · by_cases e3 : makes p.i.op = true
      · exact (hsplit (hopen (.inr (.inl ⟨e2, e3⟩)))).2.1 k hk
      · have := k3 (by simpa using e3); omega
    · rw [k4 (by simpa using e2)] at hk; cases hk
  · intro k hk
    by_cases e2 : touches p.i.op = true
    · by_cases e3 : makes q.i.op = true
      · exact (hsplit (hopen (.inr (.inr ⟨e2, e3⟩)))).2.2 k hk
      · have := k6 (by simpa using e3); omega
    · rw [k1 (by simpa using e2)] at hk; cases hk

section
variable {P : Program}

theorem Rel.any {c : Cx} {T : Nat → V} {S : Store} {n m : Nat} {a : Act} {nt : Nat} (h : Rel c ⟨T, S, n⟩ a nt) : Rel c ⟨T, S, m⟩ a nt := ⟨h.sr, h.S, h.T, h.sz, h.df⟩

theorem trOpers_get {nt : Nat} {opsA : Array Oper} : ∀ {xs : List Oper} {ys : List AI}, mapO (trOper P nt opsA) xs = some ys → ∀ {j : Nat} {y : AI}, ys[j]? = some y → ∃ x, xs[j]? = some x ∧ trOper P nt opsA x = some y
  | [], ys, h, j, y, hy => by simp [mapO] at h; subst h; simp at hy
  | x :: xs, ys, h, j, y, hy => by
    obtain ⟨z, q, hz, hq, rfl⟩ := mapO_cons h
    cases j with
    | zero => simp at hy; subst hy; exact ⟨x, rfl, hz⟩
    | succ j => simpa using trOpers_get hq (j := j) (y := y) (by simpa using hy)

theorem ready_iff {ops : Array Oper} {listed : Array Bool} {i : Nat} : i ∈ Region.ready .any ops listed ↔ i < ops.size ∧ listed.getD i true = false ∧ ∃ o, ops[i]? = some o ∧ ∀ e ∈ o.after, Region.binds .any e = true → listed.getD e.on false = true := by
  unfold Region.ready
  rw [List.mem_filter, List.mem_range]
  constructor
  · rintro ⟨h1, h2⟩
    refine ⟨h1, ?_⟩
    rw [Array.getElem?_eq_getElem h1] at h2
    simp only [Option.map_some, Option.getD_some, Bool.and_eq_true, Bool.not_eq_true', Array.all_eq_true_iff_forall_mem, Bool.or_eq_true] at h2
    exact ⟨h2.1, _, Array.getElem?_eq_getElem h1, fun e he hb => (h2.2 e he).resolve_left (by simp [hb])⟩
  · rintro ⟨h1, h2, o, ho, h3⟩
    refine ⟨h1, ?_⟩
    rw [ho]
    simp only [Option.map_some, Option.getD_some, Bool.and_eq_true, Bool.not_eq_true', Array.all_eq_true_iff_forall_mem, Bool.or_eq_true]
    refine ⟨h2, fun e he => ?_⟩
    by_cases hb : Region.binds .any e = true
    · exact .inr (h3 e he hb)
    · exact .inl (by simpa using hb)

theorem getD_set {a : Array Bool} {i j : Nat} {d : Bool} (hi : i < a.size) : (a.setIfInBounds i true).getD j d = if j = i then true else a.getD j d := by
  rw [Array.getD_eq_getD_getElem?, Array.getD_eq_getD_getElem?]
  by_cases h : j = i
  · subst h; simp [hi]
  · rw [if_neg h, Array.getElem?_setIfInBounds_ne (fun e => h e.symm)]

theorem any_ok {call : CallF} (hcall : FnOK P call) {nt : Nat} {opsA : Array Oper} {l : List AI} (hl : mapO (trOper P nt opsA) opsA.toList = some l) {fs : List Fp} (ht : tmpsOk (ahead opsA) l = true) (ha : aheadOk opsA (ahead opsA) = true) (hp : pairsOk fs (openPairs (ahead opsA) l) = true)
    {Q : Exit → Act → World → Prop} {T' : Nat → V} {S' : Store} {N : Nat} :
    ∀ (fuel : Nat) (listed : Array Bool) (rem : List It) {c : Cx} {T : Nat → V} {S : Store} {a : Act}, Rel c ⟨T, S, 0⟩ a nt → Run call rem T S T' S' → rem.length ≤ fuel → listed.size = opsA.size →
      (∀ x ∈ rem, l[x.idx]? = some x.i ∧ fs[x.idx]? = some x.fp ∧ listed.getD x.idx true = false ∧ c.Fr x.fp.n x.fp.m ∧ x.fp.n ≤ x.fp.m ∧ x.fp.m ≤ N) → rem.Pairwise (fun p q => p.idx < q.idx ∧ p.fp.m ≤ q.fp.n) →
      (∀ i, i < opsA.size → listed.getD i true = false → ∃ x ∈ rem, x.idx = i) → (∀ i j, listed.getD i false = true → ((ahead opsA).getD i 0).testBit j = true → listed.getD j false = true) → HU c N →
      (∀ c' a', Go1 c c' → Rel c' ⟨T', S', 0⟩ a' nt → HU c' N → Q .normal a' c'.w) → wpAny P .any opsA Q fuel listed a c.w := by
  have hlen : l.length = opsA.size := by rw [mapO_length hl, Array.length_toList]
  have hback : ∀ i o, opsA[i]? = some o → ∀ e ∈ o.after, Region.binds .any e = true → e.on < i := by
    intro i o ho e he hb
    unfold aheadOk at ha
    rw [List.all_eq_true] at ha
    have := ha (o, i) (by rw [List.mem_zipIdx_iff_getElem?]; simpa using ho)
    rw [List.all_eq_true] at this
    have := this e (by simpa using he)
    simpa [hb] using this
  intro fuel
  induction fuel with
  | zero =>
    intro listed rem c T S a hR hrun hfuel hsz hin hpw hcov hdc hU hQ
    have : rem = [] := List.eq_nil_of_length_eq_zero (by omega)
    subst this
    obtain ⟨rfl, rfl⟩ := hrun
    refine ⟨?_, hQ c a (.refl hR.sr) hR hU⟩
    rw [List.eq_nil_iff_forall_not_mem]
    intro i hi
    obtain ⟨h1, h2, _⟩ := ready_iff.1 hi
    obtain ⟨x, hx, _⟩ := hcov i h1 h2
    cases hx
  | succ fuel ih =>
    intro listed rem c T S a hR hrun hfuel hsz hin hpw hcov hdc hU hQ
    refine ⟨fun hnil => ?_, fun i hi => ?_⟩
    · have : rem = [] := by
        cases rem with
        | nil => rfl
        | cons x rem =>
          exfalso
          obtain ⟨h1, h2, h3, _⟩ := hin x (by simp)
          have hlt : x.idx < opsA.size := by
            rw [← hlen]
            exact (List.getElem?_eq_some_iff.1 h1).1
          have : x.idx ∈ Region.ready .any opsA listed := by
            refine ready_iff.2 ⟨hlt, h3, _, Array.getElem?_eq_getElem hlt, fun e he hb => ?_⟩
            have hlt2 := hback _ _ (Array.getElem?_eq_getElem hlt) e he hb
            by_cases hd : listed.getD e.on false = true
            · exact hd
            · exfalso
              have hd' : listed.getD e.on true = false := by
                have hs : e.on < listed.size := by omega
                rw [Array.getD_eq_getD_getElem?, Array.getElem?_eq_getElem hs] at hd ⊢
                simpa using hd
              obtain ⟨y, hy, hyi⟩ := hcov e.on (by omega) hd'
              rcases List.mem_cons.1 hy with rfl | hy
              · omega
              · have := (List.pairwise_cons.1 hpw).1 y hy
                omega
          rw [hnil] at this
          cases this
      subst this
      obtain ⟨rfl, rfl⟩ := hrun
      exact hQ c a (.refl hR.sr) hR hU
    · obtain ⟨h1, h2, o, ho, h3⟩ := ready_iff.1 hi
      obtain ⟨q, hq, hqi⟩ := hcov i h1 h2
      subst hqi
      obtain ⟨l1, l2, rfl⟩ := List.append_of_mem hq
      obtain ⟨f1, f2, f3, f4, f5, f6⟩ := hin q hq
      have hpw' := List.pairwise_append.1 hpw
      have hqpw := List.pairwise_cons.1 hpw'.2.1
      have hlistedq : ∀ j, ((ahead opsA).getD q.idx 0).testBit j = true → listed.getD j false = true := by
        intro j hj
        obtain ⟨e, he, hb, hor⟩ := before_bit ho (hback _ _ ho) hj
        have hl := h3 e he hb
        rcases hor with rfl | hor
        · exact hl
        · exact hdc _ _ hl hor
      have hok : ∀ p ∈ l1, Ok p q := by
        intro p hp'
        have hpm : p ∈ l1 ++ q :: l2 := List.mem_append.2 (.inl hp')
        obtain ⟨e1, e2, e3, e4, e5, e6⟩ := hin p hpm
        have hlt := hpw'.2.2 p hp' q (by simp)
        obtain ⟨_, _, _, s1⟩ := run_step hrun p hpm
        obtain ⟨_, _, _, s2⟩ := run_step hrun q hq
        refine pair_ok (call := call) ht hp e1 f1 e2 f2 hlt.1 hlt.2 e5 f5 ?_ ⟨_, _, s1⟩ ⟨_, _, s2⟩
        by_cases hb : ((ahead opsA).getD q.idx 0).testBit p.idx = true
        · have := hlistedq _ hb
          have hs : p.idx < listed.size := by rw [hsz, ← hlen]; exact (List.getElem?_eq_some_iff.1 e1).1
          rw [Array.getD_eq_getD_getElem?, Array.getElem?_eq_getElem hs] at this e3
          simp at this e3
          rw [this] at e3
          cases e3
        · simpa using hb
      obtain ⟨T1, S1, hst, hrun'⟩ := front hok hrun
      obtain ⟨o', ho', htr⟩ := trOpers_get hl f1
      refine step_ok hcall (hR.any (m := q.fp.n)) (o := o') (by simpa using ho') htr hst (by simpa using f4) fun c' a' hg hR' hga => ?_
      simp only at hga
      have hmem : ∀ x ∈ l1 ++ l2, x ∈ l1 ++ q :: l2 := fun x hx => by
        rcases List.mem_append.1 hx with hx | hx
        · exact List.mem_append.2 (.inl hx)
        · exact List.mem_append.2 (.inr (by simp [hx]))
      have hlt : q.idx < listed.size := by rw [hsz, ← hlen]; exact (List.getElem?_eq_some_iff.1 f1).1
      refine ih (listed.setIfInBounds q.idx true) (l1 ++ l2) (hR'.any) hrun' (by simp only [List.length_append, List.length_cons] at hfuel ⊢; omega) (by simpa using hsz) (fun x hx => ?_) ?_ (fun j hj hlj => ?_) (fun j k hlj hb => ?_) ⟨hU.1, fun k hk => ?_⟩ fun c2 a2 hg2 hR2 hU2 => hQ c2 a2 (hg.trans hg2) hR2 hU2
      · obtain ⟨e1, e2, e3, e4, e5, e6⟩ := hin x (hmem x hx)
        have hsep : x.idx ≠ q.idx ∧ (x.fp.m ≤ q.fp.n ∨ q.fp.m ≤ x.fp.n) := by
          rcases List.mem_append.1 hx with hx | hx
          · have := hpw'.2.2 x hx q (by simp); exact ⟨by omega, .inl this.2⟩
          · have := hqpw.1 x hx; exact ⟨by omega, .inr this.2⟩
        refine ⟨e1, e2, by rw [getD_set hlt, if_neg hsep.1]; exact e3, fun k k1 k2 => ?_, e5, e6⟩
        rw [hga k]
        rintro (h | h)
        · exact e4 k k1 k2 h
        · omega
      · refine List.pairwise_append.2 ⟨hpw'.1, hqpw.2, fun x hx y hy => hpw'.2.2 x hx y (by simp [hy])⟩
      · rw [getD_set hlt] at hlj
        split at hlj
        · cases hlj
        · rename_i hne
          obtain ⟨x, hx, hxi⟩ := hcov j hj hlj
          refine ⟨x, ?_, hxi⟩
          rcases List.mem_append.1 hx with hx | hx
          · exact List.mem_append.2 (.inl hx)
          · rcases List.mem_cons.1 hx with rfl | hx
            · exact absurd hxi.symm hne
            · exact List.mem_append.2 (.inr hx)
      · rw [getD_set hlt] at hlj ⊢
        by_cases hk : k = q.idx
        · rw [if_pos hk]
        · rw [if_neg hk]
          split at hlj
          · rename_i hj
            subst hj
            exact hlistedq _ hb
          · exact hdc _ _ hlj hb
      · rcases (hga k).1 hk with h | h
        · rcases hU.2 k h with h | ⟨e1, e2, e3⟩
          · exact .inl h
          · exact .inr ⟨e1, e2, by rw [hR'.S]; rw [hR.S] at e3; exact step_dom hst e3⟩
        · exact .inl (by omega)

end

end Go.R
