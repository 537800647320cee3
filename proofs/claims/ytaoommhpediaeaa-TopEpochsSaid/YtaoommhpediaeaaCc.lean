/- Contracts of the election and of a round. -/
import Derived.Test.YtaoommhpediaeaaCb
set_option linter.unusedVariables false
set_option linter.unusedSimpArgs false
set_option linter.defProp false

namespace Go.R

def setEp (e : Int) (o : List Ctl) (i : Nat) : List Ctl := o.set i ⟨(cx o i).st, e, (cx o i).hd⟩
theorem setEp_len (e : Int) : ∀ (xs : List Nat) (o : List Ctl), (xs.foldl (setEp e) o).length = o.length
  | [], o => rfl
  | x :: xs, o => by simp [setEp_len e xs, setEp]

theorem L21_2_eq (l : List Ctl) (r : List (List Bool)) (t e : Int) (cs : List Nat) (c x : Nat) (ws xs : List Nat) (vs : List (Nat × List Nat)) (hv : vs.length < BB) (hb : l.length < 1000000) (hxs : ∀ i ∈ xs, i < l.length) (hxl : xs.length < 100000000) {k : List Kt} :
    ∀ (rest : List Nat) (i : Nat) (j : Int) (out : List Ctl), j = i → xs.drop i = rest → out.length = l.length →
    go CF (.code L21_2 :: .lp [1, 3, 6, 9, 13, 15, 16, 62, 63, 64, 94, 95, 96] L21_2 13 :: k) (some (.normal, stA
      [(1, .d (di t)), (3, .loc 0 1 0 0), (6, .loc 3 1 0 0), (9, .mp 4), (13, .loc 8 1 0 0), (15, .d (di c)), (16, .d (di e)), (62, .d (dI cs)), (63, .d (di cs.length)), (64, .d (di x)), (94, .own 11 1 xs.length), (95, .d (.int .i64 xs.length)), (96, .d (.int .i64 j))] (mapS 4 vs)
      [(0, .grow true 47 2 [[dC l, dR r]]), (1, .grow true 38 3 []), (2, .grow true 71 1 []), (3, .row true 47 2 [[.own 1 3 0, .own 2 1 0]]), (4, .map (entsFrom 4 0 vs)), (5, .grow true 38 3 (out.map c3)), (6, .grow true 38 3 []), (7, .grow true 71 1 []), (8, .row true 47 2 [[.own 5 3 l.length, .d (dR r)]]),
       (9, .grow true 3 1 (ws.map i1)), (10, .grow true 3 1 [[di c]]), (11, .grow true 3 1 (xs.map i1)), (12, .grow true 3 1 [[di c]])] 13)) =
    go CF k (some (.exit 4, stA
      [(1, .d (di t)), (3, .loc 0 1 0 0), (6, .loc 3 1 0 0), (9, .mp 4), (13, .loc 8 1 0 0), (15, .d (di c)), (62, .d (dI cs)), (63, .d (di cs.length)), (64, .d (di x))] (mapS 4 vs)
      [(0, .grow true 47 2 [[dC l, dR r]]), (1, .grow true 38 3 []), (2, .grow true 71 1 []), (3, .row true 47 2 [[.own 1 3 0, .own 2 1 0]]), (4, .map (entsFrom 4 0 vs)), (5, .grow true 38 3 ((rest.foldl (setEp e) out).map c3)), (6, .grow true 38 3 []), (7, .grow true 71 1 []), (8, .row true 47 2 [[.own 5 3 l.length, .d (dR r)]]),
       (9, .grow true 3 1 (ws.map i1)), (10, .grow true 3 1 [[di c]]), (11, .grow true 3 1 (xs.map i1)), (12, .grow true 3 1 [[di c]])] 13)) := by
  intro rest
  induction rest with
  | nil =>
    rintro i j out rfl hi ho
    have hi := drop_nil hi
    rw [L21_2g]
    simp only [go_sem, ↓reduceIte, Nat.reduceEqDiff, Nat.reduceAdd, Nat.reduceBEq, Nat.reduceLeDiff, Nat.reduceSub, Nat.reduceLT, Nat.reduceMul, reduceCtorEq, hi, List.foldl_nil]
  | cons y rest ih =>
    rintro i j out rfl hi ho
    obtain ⟨h1, h2, h3⟩ := drop_cons hi
    have hy := hxs y (List.mem_of_getElem? h2)
    have hyo : out[y]? = some (cx out y) := c_at (by omega)
    have hg := fun S => gcB_mapS hv (show 4 < 13 by omega) S
    have hg2 := fun S => gcOb_ents hv (show 4 < 13 by omega) S
    have nxt := ih (i + 1) _ (setEp e out y) (wrap_succ (by omega)) h3 (by simp [setEp, ho])
    rw [L21_2g]
    simp only [go_sem, ↓reduceIte, Nat.reduceEqDiff, Nat.reduceAdd, Nat.reduceBEq, Nat.reduceLeDiff, Nat.reduceSub, Nat.reduceLT, Nat.reduceMul, reduceCtorEq, h1, h2, hy, hyo, ho, hg, ↓hg2, List.foldl_cons]
    exact nxt

def getV (vs : List (Nat × List Nat)) (c : Nat) : List Nat := ((vs.find? fun v => v.1 == c).map (·.2)).getD []
def wonC (l : List Ctl) (t : Int) (vs : List (Nat × List Nat)) (c : Nat) (out : List Ctl) : List Ctl :=
  ((getV vs c ++ [c]).foldl (setEp (1 + grt l (getV vs c ++ [c]))) out).set c ⟨1, (cx ((getV vs c ++ [c]).foldl (setEp (1 + grt l (getV vs c ++ [c]))) out) c).ep, t⟩
def elecF (l : List Ctl) (t : Int) (vs : List (Nat × List Nat)) : List Nat → List Ctl → Option (List Ctl)
  | [], out => some out
  | c :: cs, out => bif maj l (getV vs c).length then (bif decide (1 + grt l (getV vs c ++ [c]) > 2147483648) then none else elecF l t vs cs (wonC l t vs c out)) else elecF l t vs cs out

theorem getV_in {a b : List (Nat × List Nat)} {c : Nat} {ws : List Nat} (h : ∀ v ∈ a, v.1 ≠ c) : getV (a ++ (c, ws) :: b) c = ws := by
  have : a.find? (fun v => v.1 == c) = none := by
    rw [List.find?_eq_none]; intro v hv; simpa using h v hv
  simp [getV, List.find?_append, this]
theorem getV_out {a : List (Nat × List Nat)} {c : Nat} (h : ∀ v ∈ a, v.1 ≠ c) : getV a c = [] := by
  have : a.find? (fun v => v.1 == c) = none := by
    rw [List.find?_eq_none]; intro v hv; simpa using h v hv
  simp [getV, this]
theorem grt_bd (l : List Ctl) (b : Int) (hb : 0 ≤ b) (h : ∀ i, i < l.length → (cx l i).ep ≤ b) (xs : List Nat) (hx : ∀ x ∈ xs, x < l.length) : 0 ≤ grt l xs ∧ grt l xs ≤ b := by
  have : ∀ (xs : List Nat) (a : Int), (∀ x ∈ xs, x < l.length) → 0 ≤ a → a ≤ b → 0 ≤ xs.foldl (fun m k => max m (cx l k).ep) a ∧ xs.foldl (fun m k => max m (cx l k).ep) a ≤ b := by
    intro xs
    induction xs with
    | nil => intro a _ h1 h2; exact ⟨h1, h2⟩
    | cons x xs ih =>
      intro a hx h1 h2
      have h3 := h x (hx x (by simp))
      exact ih (max a (cx l x).ep) (fun y hy => hx y (by simp [hy])) (by omega) (by omega)
  exact this xs 0 hx (by omega) hb

theorem L21_1_eq (l : List Ctl) (r : List (List Bool)) (t : Int) (cs : List Nat) (vs : List (Nat × List Nat)) (hv : vs.length < BB) (hb : l.length < 1000000) (hl1 : 1 ≤ l.length) (hcs : ∀ c ∈ cs, c < l.length) (hcl : cs.length < 100000000)
    (hvs : ∀ v ∈ vs, v.2.length < 900000 ∧ ∀ i ∈ v.2, i < l.length) (hep : ∀ i, i < l.length → (cx l i).ep ≤ 2147483648) {k : List Kt} :
    ∀ (rest : List Nat) (i : Nat) (j : Int) (out : List Ctl), j = i → cs.drop i = rest → out.length = l.length →
    done false [.cell 6 2 true, .tmp 7] (go CF (.code L21_1 :: .lp [1, 3, 6, 9, 13, 62, 63, 64] L21_1 9 :: k) (some (.normal, stA
      [(1, .d (di t)), (3, .loc 0 1 0 0), (6, .loc 3 1 0 0), (9, .mp 4), (13, .loc 8 1 0 0), (62, .d (dI cs)), (63, .d (.int .i64 cs.length)), (64, .d (.int .i64 j))] (mapS 4 vs)
      [(0, .grow true 47 2 [[dC l, dR r]]), (1, .grow true 38 3 []), (2, .grow true 71 1 []), (3, .row true 47 2 [[.own 1 3 0, .own 2 1 0]]), (4, .map (entsFrom 4 0 vs)), (5, .grow true 38 3 (out.map c3)), (6, .grow true 38 3 []), (7, .grow true 71 1 []), (8, .row true 47 2 [[.own 5 3 l.length, .d (dR r)]])] 9))) =
    match elecF l t vs rest out with
    | some out' => done false [.cell 6 2 true, .tmp 7] (go CF k (some (.exit 2, stA [(6, .loc 3 1 0 0), (13, .loc 8 1 0 0)] (mapS 4 vs)
      [(0, .grow true 47 2 [[dC l, dR r]]), (1, .grow true 38 3 []), (2, .grow true 71 1 []), (3, .row true 47 2 [[.own 1 3 0, .own 2 1 0]]), (4, .map (entsFrom 4 0 vs)), (5, .grow true 38 3 (out'.map c3)), (6, .grow true 38 3 []), (7, .grow true 71 1 []), (8, .row true 47 2 [[.own 5 3 l.length, .d (dR r)]])] 9)))
    | none => some (.tup [.d (.agg [dC [], dR []]), .d (db false)], []) := by
  intro rest
  induction rest with
  | nil =>
    rintro i j out rfl hi ho
    have hi := drop_nil hi
    rw [L21_1g]
    simp only [go_sem, ↓reduceIte, Nat.reduceEqDiff, Nat.reduceAdd, Nat.reduceBEq, Nat.reduceLeDiff, Nat.reduceSub, Nat.reduceLT, Nat.reduceMul, reduceCtorEq, hi, elecF]
  | cons c rest ih =>
    rintro i j out rfl hi ho
    obtain ⟨h1, h2, h3⟩ := drop_cons hi
    have hc := hcs c (List.mem_of_getElem? h2)
    have hg := fun S => gcB_mapS hv (show 4 < 9 by omega) S
    have hg2 := fun S => gcOb_ents hv (show 4 < 9 by omega) S
    rw [L21_1g]
    rcases split_key vs c with ⟨a, ws, b, hvab, ha⟩ | ha
    · have hget : (a ++ (c, ws) :: b)[a.length]? = some (c, ws) := by simp
      have hgv : getV vs c = ws := by rw [hvab]; exact getV_in ha
      have hw := hvs (c, ws) (by rw [hvab]; simp)
      have hxs : ∀ x ∈ ws ++ [c], x < l.length := by
        intro x hx
        simp only [List.mem_append, List.mem_singleton] at hx
        rcases hx with hx | rfl
        · exact hw.2 x hx
        · exact hc
      have hwl := hw.1
      simp only at hwl
      have hlk := look_in (k := 4) (b := b) (ws := ws) ha
      rw [← hvab] at hlk hget
      simp only [go_sem, ↓reduceIte, Nat.reduceEqDiff, Nat.reduceAdd, Nat.reduceBEq, Nat.reduceLeDiff, Nat.reduceSub, Nat.reduceLT, Nat.reduceMul, reduceCtorEq, h1, h2, hlk, F36_eq l r ws.length (by omega), elecF, hgv]
      refine cd_split ?_ ?_ <;> intro h
      rotate_left
      · have hr : ((ws.length + 1) * 8 ≤ 140737488355328) = True := by simp; omega
        have hgr := grt_bd l 2147483648 (by omega) hep (ws ++ [c]) hxs
        have h44 : RUN CF 44 [dI ws] = some (.own 0 1 ws.length, [.grow true 3 1 (ws.map i1)]) := by
          have := F44_eq (ws.map i1) (by simp; omega)
          simpa using this
        have hwr : IntKind.i64.wrap (1 + grt l (ws ++ [c])) = 1 + grt l (ws ++ [c]) := wrap_in (by omega) (by omega)
        have hm : maj l ws.length = true := by simpa using h
        simp only [go_sem, ↓reduceIte, Nat.reduceEqDiff, Nat.reduceAdd, Nat.reduceBEq, Nat.reduceLeDiff, Nat.reduceSub, Nat.reduceLT, Nat.reduceMul, reduceCtorEq, h, hm, mapS_at, hlk, hget, h44, hr, F32_eq l r (ws ++ [c]) (by simp; omega) hxs, hwr]
        refine cd_split ?_ ?_ <;> intro hd <;> simp only [go_sem, ↓reduceIte, Nat.reduceEqDiff, Nat.reduceAdd, Nat.reduceBEq, Nat.reduceLeDiff, Nat.reduceSub, Nat.reduceLT, Nat.reduceMul, reduceCtorEq, hd, mapS_at, hlk, hget, h44, hr]
        · rfl
        · have hL := fun k => L21_2_eq l r t (1 + grt l (ws ++ [c])) cs c i (ws ++ [c]) (ws ++ [c]) vs hv hb hxs (by simp; omega) (k := k) (ws ++ [c]) 0 0 out rfl rfl ho
          have hol := setEp_len (1 + grt l (ws ++ [c])) (ws ++ [c]) out
          have nxt := ih (i + 1) _ (wonC l t vs c out) (wrap_succ (by omega)) h3 (by simp only [wonC, hgv, List.length_set]; omega)
          simp only [wonC, hgv] at nxt ⊢
          generalize hO : (ws ++ [c]).foldl (setEp (1 + grt l (ws ++ [c]))) out = O at *
          have hoc : O[c]? = some (cx O c) := c_at (by omega)
          have hol2 : O.length = l.length := by omega
          rw [show (ws ++ [c]).length = ws.length + 1 by simp] at hL
          rw [hL]
          simp only [go_sem, ↓reduceIte, Nat.reduceEqDiff, Nat.reduceAdd, Nat.reduceBEq, Nat.reduceLeDiff, Nat.reduceSub, Nat.reduceLT, Nat.reduceMul, reduceCtorEq, hoc, hol2, hc, hg, ↓hg2, List.getElem?_set_self, List.length_set, List.length_map, List.set_set]
          exact nxt
      · have hm : maj l ws.length = false := by simpa using h
        simp only [go_sem, ↓reduceIte, Nat.reduceEqDiff, Nat.reduceAdd, Nat.reduceBEq, Nat.reduceLeDiff, Nat.reduceSub, Nat.reduceLT, Nat.reduceMul, reduceCtorEq, h, hm, hg, ↓hg2]
        exact ih (i + 1) _ out (wrap_succ (by omega)) h3 ho
    · have hgv : getV vs c = [] := getV_out ha
      have hm : maj l 0 = false := by simp [maj]
      have h36 : RUN CF 36 [dP l r, di 0] = some (.d (db false), []) := by
        have := F36_eq l r 0 (by omega)
        rw [hm] at this
        exact this
      simp only [go_sem, ↓reduceIte, Nat.reduceEqDiff, Nat.reduceAdd, Nat.reduceBEq, Nat.reduceLeDiff, Nat.reduceSub, Nat.reduceLT, Nat.reduceMul, reduceCtorEq, h1, h2, look_out ha, h36, elecF, hgv, hm, hg, ↓hg2]
      exact ih (i + 1) _ out (wrap_succ (by omega)) h3 ho

theorem cands_lt {l : List Ctl} {r : List (List Bool)} {t u : Int} {c : Nat} (h : c ∈ cands l r t u) : c < l.length := by
  simp only [cands, List.mem_filter, List.mem_range] at h
  exact h.1
theorem addV_mem {c i n : Nat} (hi : i < n) : ∀ {vs : List (Nat × List Nat)}, (∀ v ∈ vs, ∀ x ∈ v.2, x < n) → ∀ v ∈ addV c i vs, ∀ x ∈ v.2, x < n
  | [], _ => by simp [addV, hi]
  | v :: r, h => by
    have ih := addV_mem (c := c) hi (vs := r) fun w hw => h w (by simp [hw])
    simp only [addV]
    split
    · intro w hw x hx
      simp only [List.mem_cons] at hw
      rcases hw with rfl | hw
      · simp only [List.mem_append, List.mem_singleton] at hx
        rcases hx with hx | rfl
        · exact h v (by simp) x hx
        · exact hi
      · exact h w (by simp [hw]) x hx
    · intro w hw x hx
      simp only [List.mem_cons] at hw
      rcases hw with rfl | hw
      · exact h w (by simp) x hx
      · exact ih w hw x hx
theorem vts_mem (l : List Ctl) (r : List (List Bool)) (cs : List Nat) : ∀ q, q ≤ l.length → ∀ v ∈ vts l r cs q, ∀ x ∈ v.2, x < l.length
  | 0, _ => by simp [vts]
  | q + 1, hq => by
    have ih := vts_mem l r cs q (by omega)
    rw [vts_succ]
    unfold voteStep
    split
    · exact ih
    · split
      · split
        · exact addV_mem (by omega) ih
        · exact ih
      · exact ih

/-- Parts 4 and 5 of a round. -/
def electM (l : List Ctl) (r : List (List Bool)) (t u : Int) : Option (List Ctl) := elecF l t (vts l r (cands l r t u) l.length) (cands l r t u) l
theorem elecF_len (l : List Ctl) (t : Int) (vs : List (Nat × List Nat)) : ∀ (cs : List Nat) (out o : List Ctl), elecF l t vs cs out = some o → o.length = out.length
  | [], out, o, h => by simp only [elecF, Option.some.injEq] at h; rw [h]
  | c :: cs, out, o, h => by
    simp only [elecF] at h
    cases hm : maj l (getV vs c).length <;> rw [hm] at h
    · exact elecF_len l t vs cs out o h
    · simp only [cond_true] at h
      cases hd : decide (1 + grt l (getV vs c ++ [c]) > 2147483648) <;> rw [hd] at h
      · have := elecF_len l t vs cs _ o h
        simpa [wonC, setEp_len, setEp] using this
      · cases h

theorem F21_eq (l : List Ctl) (r : List (List Bool)) (t u : Int) (hb : l.length < 500000) (hl1 : 1 ≤ l.length) (hs : sqB r l.length = true) (hc : ∀ c ∈ l, -9223372036854775808 ≤ t - c.hd ∧ t - c.hd ≤ 9223372036854775807) (hep : ∀ i, i < l.length → (cx l i).ep ≤ 2147483648) :
    RUN CF 21 [dP l r, di t, di u] = some (match electM l r t u with
      | some out => .tup [.d (dP out r), .d (db true)]
      | none => .tup [.d (dP [] []), .d (db false)], []) := by
  have hn : ((l.length : Nat) * 24 ≤ 140737488355328) = True := by simp; omega
  have hcl : (cands l r t u).length ≤ l.length := filt_len _ _
  have hvl := vts_len l r (cands l r t u) l.length
  have hBB : BB = 18446744073709551616 := rfl
  rw [F21_run rfl]
  simp only [go_sem, ↓reduceIte, Nat.reduceEqDiff, Nat.reduceAdd, Nat.reduceBEq, Nat.reduceLeDiff, Nat.reduceSub, Nat.reduceLT, Nat.reduceMul, reduceCtorEq, F40_eq l r t u (by omega) hs hc]
  have h1 := fun k => L21_eq l r t u (cands l r t u) (by omega) hcl hs (k := k) l.length 0 0 rfl (by omega)
  have hm0 : mapS 4 (vts l r (cands l r t u) 0) = nos := by
    funext q; simp [mapS, vts, nos]
  rw [hm0] at h1
  simp only [vts, List.range_zero, List.foldl_nil, entsFrom] at h1
  rw [h1]
  simp only [go_sem, ↓reduceIte, Nat.reduceEqDiff, Nat.reduceAdd, Nat.reduceBEq, Nat.reduceLeDiff, Nat.reduceSub, Nat.reduceLT, Nat.reduceMul, reduceCtorEq, F15_dC l (by omega), hn]
  have h2 := fun k => L21_1_eq l r t (cands l r t u) (vts l r (cands l r t u) l.length) (by omega) (by omega) hl1 (fun c h => cands_lt h) (by omega)
    (fun v hv => ⟨by have := vts_ws l r (cands l r t u) l.length v hv; omega, vts_mem l r _ l.length (Nat.le_refl _) v hv⟩) hep (k := k) (cands l r t u) 0 0 l rfl rfl rfl
  simp only [vts] at h2
  rw [h2, electM]
  simp only [vts]
  cases he : elecF l t ((List.range l.length).foldl (voteStep l r (cands l r t u)) []) (cands l r t u) l with
  | none => rfl
  | some out =>
    have hol := elecF_len _ _ _ _ _ _ he
    simp only [go_sem, ↓reduceIte, Nat.reduceEqDiff, Nat.reduceAdd, Nat.reduceBEq, Nat.reduceLeDiff, Nat.reduceSub, Nat.reduceLT, Nat.reduceMul, reduceCtorEq, hol]
end Go.R

namespace Go.R

def learnG (l : List Ctl) (r : List (List Bool)) (i : Nat) (c : Ctl) : Ctl := ⟨c.st, grt l (hears l r i), c.hd⟩
def yieldG (l b : List Ctl) (r : List (List Bool)) (i : Nat) (c : Ctl) : Ctl := if yieldC l b r i c.ep = true then ⟨0, c.ep, c.hd⟩ else c
def listenG (l : List Ctl) (r : List (List Bool)) (t : Int) (i : Nat) (c : Ctl) : Ctl := if leads l r i = true then ⟨c.st, c.ep, t⟩ else c
def one (l : List Ctl) (r : List (List Bool)) : List Ctl := eachM l (learnG l r)
def two (l : List Ctl) (r : List (List Bool)) : List Ctl := eachM (one l r) (yieldG (one l r) l r)
def three (l : List Ctl) (r : List (List Bool)) (t : Int) : List Ctl := eachM (two l r) (listenG (two l r) r t)

theorem each_len (l : List Ctl) (g : Nat → Ctl → Ctl) : (eachM l g).length = l.length := by simp [eachM]
theorem each_cx (l : List Ctl) (g : Nat → Ctl → Ctl) (i : Nat) (hi : i < l.length) : cx (eachM l g) i = eachF l g i := by
  simp [cx, eachM, List.getD, hi]
theorem one_len (l : List Ctl) (r : List (List Bool)) : (one l r).length = l.length := each_len _ _
theorem two_len (l : List Ctl) (r : List (List Bool)) : (two l r).length = l.length := by rw [two, each_len, one_len]
theorem three_len (l : List Ctl) (r : List (List Bool)) (t : Int) : (three l r t).length = l.length := by rw [three, each_len, two_len]

/-- What a check lets in. -/
structure Okay (l : List Ctl) (r : List (List Bool)) (t u : Int) : Prop where
  len1 : 1 ≤ l.length
  len5 : l.length ≤ 5
  sq : sqB r l.length = true
  t0 : 0 ≤ t
  t1 : t ≤ 2147483648
  u0 : 0 ≤ u
  u1 : u ≤ 600
  st : ∀ i, i < l.length → 0 ≤ (cx l i).st ∧ (cx l i).st ≤ 2
  ep : ∀ i, i < l.length → 0 ≤ (cx l i).ep ∧ (cx l i).ep ≤ 2147483648
  hd : ∀ i, i < l.length → 0 ≤ (cx l i).hd ∧ (cx l i).hd ≤ t

theorem cx_mem {l : List Ctl} {i : Nat} (hi : i < l.length) : cx l i ∈ l := List.mem_of_getElem? (c_at hi)
theorem okay_of {l : List Ctl} {r : List (List Bool)} {t u : Int} (h : rchk l r t u = 0) : Okay l r t u := by
  unfold rchk at h
  split at h
  · exact absurd h (by assumption)
  · rename_i h0
    simp only [ne_eq, Decidable.not_not] at h0
    split at h
    · rename_i hs
      split at h
      · cases h
      · rename_i ht
        unfold chk at h0
        split at h0
        · cases h0
        · rename_i hl
          split at h0
          · rename_i ha
            rw [List.all_eq_true] at ha
            have hall : ∀ i, i < l.length → okC t (cx l i) = true := fun i hi => ha _ (cx_mem hi)
            simp only [okC, Bool.and_eq_true, decide_eq_true_eq] at hall
            exact ⟨by omega, by omega, hs, by omega, by omega, by omega, by omega, fun i hi => by have := hall i hi; omega, fun i hi => by have := hall i hi; omega, fun i hi => by have := hall i hi; omega⟩
          · cases h0
    · cases h

theorem one_ep {l : List Ctl} {r : List (List Bool)} {t u : Int} (h : Okay l r t u) {i : Nat} (hi : i < l.length) : 0 ≤ (cx (one l r) i).ep ∧ (cx (one l r) i).ep ≤ 2147483648 := by
  rw [one, each_cx l _ i hi, eachF]
  split
  · exact grt_bd l 2147483648 (by omega) (fun k hk => (h.ep k hk).2) _ fun x hx => hears_lt hx
  · exact h.ep i hi
theorem two_ep {l : List Ctl} {r : List (List Bool)} {i : Nat} (hi : i < l.length) : (cx (two l r) i).ep = (cx (one l r) i).ep ∧ (cx (two l r) i).hd = (cx (one l r) i).hd := by
  rw [two, each_cx _ _ i (by rw [one_len]; exact hi), eachF]
  split
  · unfold yieldG; split <;> exact ⟨rfl, rfl⟩
  · exact ⟨rfl, rfl⟩
theorem three_ep {l : List Ctl} {r : List (List Bool)} {t : Int} {i : Nat} (hi : i < l.length) : (cx (three l r t) i).ep = (cx (one l r) i).ep := by
  rw [three, each_cx _ _ i (by rw [two_len]; exact hi), eachF]
  split
  · unfold listenG; split <;> exact (two_ep hi).1
  · exact (two_ep hi).1
theorem one_hd {l : List Ctl} {r : List (List Bool)} {i : Nat} (hi : i < l.length) : (cx (one l r) i).hd = (cx l i).hd := by
  rw [one, each_cx _ _ i hi, eachF]
  split <;> rfl
theorem three_hd {l : List Ctl} {r : List (List Bool)} {t u : Int} (h : Okay l r t u) {i : Nat} (hi : i < l.length) : 0 ≤ (cx (three l r t) i).hd ∧ (cx (three l r t) i).hd ≤ t := by
  have h1 := h.hd i hi
  have h2 := (two_ep (r := r) hi).2
  rw [one_hd hi] at h2
  have ht := h.t0
  rw [three, each_cx _ _ i (by rw [two_len]; exact hi), eachF]
  split
  · unfold listenG; split
    · exact ⟨ht, Int.le_refl _⟩
    · rw [h2]; exact h1
  · rw [h2]; exact h1
theorem mem_cx {l : List Ctl} {c : Ctl} (h : c ∈ l) : ∃ i, i < l.length ∧ cx l i = c := by
  obtain ⟨i, hi, rfl⟩ := List.getElem_of_mem h
  exact ⟨i, hi, cx_of (List.getElem?_eq_getElem hi)⟩

/-- A round: the controllers, or the error's number. -/
def tickM (l : List Ctl) (r : List (List Bool)) (t u : Int) : List Ctl × Int :=
  if rchk l r t u ≠ 0 then ([], rchk l r t u) else match electM (three l r t) r t u with
    | some out => (out, 0)
    | none => ([], 2)

theorem F11_eq (l : List Ctl) (r : List (List Bool)) (t u : Int) (hb : l.length < 500000) (hr : r.length ≤ 9223372036854775807) : RUN CF 11 [dC l, dR r, di t, di u] = some (.tup [.d (dC (tickM l r t u).1), .d (di (tickM l r t u).2)], []) := by
  rw [F11_run rfl]
  simp only [go_sem, ↓reduceIte, Nat.reduceEqDiff, Nat.reduceAdd, Nat.reduceBEq, Nat.reduceLeDiff, Nat.reduceSub, Nat.reduceLT, Nat.reduceMul, reduceCtorEq, F16_eq l r t u (by omega) hr]
  refine cd_split ?_ ?_ <;> intro h
  · have h' : rchk l r t u ≠ 0 := by simpa using h
    simp only [go_sem, ↓reduceIte, Nat.reduceEqDiff, Nat.reduceAdd, Nat.reduceBEq, Nat.reduceLeDiff, Nat.reduceSub, Nat.reduceLT, Nat.reduceMul, reduceCtorEq, h]
    rw [tickM, if_pos h']
    rfl
  · have h0 : rchk l r t u = 0 := by simpa using h
    have ok := okay_of h0
    have l5 := ok.len5
    have e1 := one_len l r
    have e2 := two_len l r
    have e3 := three_len l r t
    have a1 := F17_eq l r (learnG l r) 18 [dP l r] [] (by omega) (fun i hi _ => F18_eq l r i (cx l i) (by omega) hi ok.sq)
    have a2 := F17_eq (one l r) r (yieldG (one l r) l r) 33 [] [.cptr 0 [dC (one l r), dR r] 0, .cptr 0 [dC l, dR r] 0] (by omega) (fun i hi _ => F33_eq (one l r) l r i (cx (one l r) i) (by omega) hi (by omega) (by rw [e1]; exact ok.sq))
    have a3 := F17_eq (two l r) r (listenG (two l r) r t) 38 [] [.cptr 0 [dC (two l r), dR r] 0, .cptr 0 [di t] 0] (by omega) (fun i hi _ => F38_eq (two l r) r i (cx (two l r) i) t (by omega) hi (by rw [e2]; exact ok.sq))
    have a4 := F21_eq (three l r t) r t u (by omega) (by have := ok.len1; omega) (by rw [e3]; exact ok.sq) (fun c hc => by
      obtain ⟨i, hi, rfl⟩ := mem_cx hc
      have := three_hd ok (show i < l.length by omega)
      have := ok.t1
      omega) (fun i hi => by rw [three_ep (by omega)]; exact (one_ep ok (by omega)).2)
    rw [← one] at a1
    rw [← two] at a2
    rw [← three] at a3
    simp only [go_sem, ↓reduceIte, Nat.reduceEqDiff, Nat.reduceAdd, Nat.reduceBEq, Nat.reduceLeDiff, Nat.reduceSub, Nat.reduceLT, Nat.reduceMul, reduceCtorEq, h, a1, a2, a3, a4, F19_eq, F20_eq]
    rw [tickM, if_neg (by simpa using h0)]
    cases electM (three l r t) r t u with
    | none =>
      simp only [go_sem, ↓reduceIte, Nat.reduceEqDiff, Nat.reduceAdd, Nat.reduceBEq, Nat.reduceLeDiff, Nat.reduceSub, Nat.reduceLT, Nat.reduceMul, reduceCtorEq]
      rfl
    | some out =>
      simp only [go_sem, ↓reduceIte, Nat.reduceEqDiff, Nat.reduceAdd, Nat.reduceBEq, Nat.reduceLeDiff, Nat.reduceSub, Nat.reduceLT, Nat.reduceMul, reduceCtorEq]
end Go.R

namespace Go.R

/-- What the reference does to one epoch. -/
def upEp (l : List Ctl) (a : Int) (ks : List Nat) : Int := ks.foldl (fun m k => max m (cx l k).ep) a

theorem L12_1_eq (l : List Ctl) (r : List (List Bool)) (t u : Int) (i : Nat) (hs : List Nat) (hb : l.length < 1000000) (hi : i < l.length) (hx : ∀ x ∈ hs, x < l.length) (hl : hs.length < 1000000) {k : List Kt} :
    ∀ (rest : List Nat) (q : Nat) (j : Int) (out : List Ctl), j = q → hs.drop q = rest → out.length = l.length →
    go CF (.code L12_1 :: .lp [0, 1, 2, 3, 11, 12, 48, 49, 55, 56, 57] L12_1 2 :: k) (some (.normal, stA [(0, .d (dC l)), (1, .d (dR r)), (2, .d (di t)), (3, .d (di u)), (11, .own 1 3 l.length), (12, .d (.int .i64 i)), (48, .d (.int .i64 l.length)), (49, .d (.int .i64 i)), (55, .d (dI hs)), (56, .d (.int .i64 hs.length)), (57, .d (.int .i64 j))] nos
      [(0, .grow true 38 3 []), (1, .grow true 38 3 (out.map c3))] 2)) =
      go CF k (some (.exit 2, stA [(0, .d (dC l)), (1, .d (dR r)), (2, .d (di t)), (3, .d (di u)), (11, .own 1 3 l.length), (48, .d (.int .i64 l.length)), (49, .d (.int .i64 i))] nos
      [(0, .grow true 38 3 []), (1, .grow true 38 3 ((out.set i ⟨(cx out i).st, upEp l (cx out i).ep rest, (cx out i).hd⟩).map c3))] 2)) := by
  intro rest
  induction rest with
  | nil =>
    rintro q j out rfl hq ho
    have hq := drop_nil hq
    have hset : out.set i ⟨(cx out i).st, (cx out i).ep, (cx out i).hd⟩ = out := by
      apply List.ext_getElem
      · simp
      · intro n h1 h2
        simp only [List.getElem_set]
        split
        · rename_i h; subst h; simp [cx, List.getD, h2]
        · rfl
    rw [L12_1g]
    simp only [go_sem, ↓reduceIte, Nat.reduceEqDiff, Nat.reduceAdd, Nat.reduceBEq, Nat.reduceLeDiff, Nat.reduceSub, Nat.reduceLT, Nat.reduceMul, reduceCtorEq, hq, upEp, List.foldl_nil, hset]
  | cons x rest ih =>
    rintro q j out rfl hq ho
    obtain ⟨h1, h2, h3⟩ := drop_cons hq
    have hxl := hx x (List.mem_of_getElem? h2)
    have hoi : out[i]? = some (cx out i) := c_at (by omega)
    have nxt := ih (q + 1) _ (out.set i ⟨(cx out i).st, max (cx out i).ep (cx l x).ep, (cx out i).hd⟩) (wrap_succ (by omega)) h3 (by simp [ho])
    have hc : cx (out.set i ⟨(cx out i).st, max (cx out i).ep (cx l x).ep, (cx out i).hd⟩) i = ⟨(cx out i).st, max (cx out i).ep (cx l x).ep, (cx out i).hd⟩ := cx_of (by simp [ho, hi])
    rw [hc, List.set_set] at nxt
    rw [L12_1g]
    simp only [go_sem, ↓reduceIte, Nat.reduceEqDiff, Nat.reduceAdd, Nat.reduceBEq, Nat.reduceLeDiff, Nat.reduceSub, Nat.reduceLT, Nat.reduceMul, reduceCtorEq, h1, h2, hi, hoi, ho, c_at hxl, upEp, List.foldl_cons]
    exact nxt

theorem upEp_one (l : List Ctl) (r : List (List Bool)) (i : Nat) (hi : i < l.length) (h0 : ∀ k, k < l.length → 0 ≤ (cx l k).ep) : (⟨(cx l i).st, upEp l (cx l i).ep (hears l r i), (cx l i).hd⟩ : Ctl) = eachF l (learnG l r) i := by
  unfold eachF
  split
  · rename_i hu
    have hmem : i ∈ hears l r i := by
      simp only [hears, List.mem_filter, List.mem_range, hearP, hu, beq_self_eq_true, Bool.true_or, Bool.and_self, and_true]
      exact hi
    have gen : ∀ (ks : List Nat) (a b : Int), (∃ k ∈ ks, (cx l k).ep ≥ max a b) ∨ a = b → upEp l a ks = upEp l b ks := by
      intro ks
      induction ks with
      | nil =>
        intro a b h
        rcases h with ⟨k, hk, _⟩ | rfl
        · cases hk
        · rfl
      | cons x ks ih =>
        intro a b h
        simp only [upEp, List.foldl_cons]
        refine ih _ _ ?_
        rcases h with ⟨k, hk, hge⟩ | rfl
        · simp only [List.mem_cons] at hk
          rcases hk with rfl | hk
          · exact .inr (by omega)
          · by_cases hxx : (cx l k).ep ≥ (cx l x).ep
            · exact .inl ⟨k, hk, by omega⟩
            · exact .inr (by omega)
        · exact .inr rfl
    have h1 : upEp l (cx l i).ep (hears l r i) = upEp l 0 (hears l r i) := gen _ _ _ (.inl ⟨i, hmem, by have := h0 i hi; omega⟩)
    rw [h1]
    rfl
  · rename_i hu
    have : hears l r i = [] := by
      unfold hears
      rw [List.filter_eq_nil_iff]
      intro k _
      simp [hearP, hu]
    rw [this]
    rfl

theorem L12_0_eq (l : List Ctl) (r : List (List Bool)) (t u : Int) (hb : l.length < 1000000) (hs : sqB r l.length = true) (h0 : ∀ k, k < l.length → 0 ≤ (cx l k).ep) {k : List Kt} :
    ∀ (m q : Nat) (j : Int), j = q → q + m = l.length →
    go CF (.code L12_0 :: .lp [0, 1, 2, 3, 11, 48, 49] L12_0 2 :: k) (some (.normal, stA [(0, .d (dC l)), (1, .d (dR r)), (2, .d (di t)), (3, .d (di u)), (11, .own 1 3 l.length), (48, .d (.int .i64 l.length)), (49, .d (.int .i64 j))] nos
      [(0, .grow true 38 3 []), (1, .grow true 38 3 ((pm l (eachF l (learnG l r)) q).map c3))] 2)) =
      go CF k (some (.exit 0, stA [(0, .d (dC l)), (1, .d (dR r)), (2, .d (di t)), (3, .d (di u)), (11, .own 1 3 l.length)] nos
      [(0, .grow true 38 3 []), (1, .grow true 38 3 ((one l r).map c3))] 2)) := by
  intro m
  induction m with
  | zero =>
    rintro q j rfl hq
    have hn : ¬ q < l.length := by omega
    have he : q = l.length := by omega
    rw [L12_0g]
    simp only [go_sem, ↓reduceIte, Nat.reduceEqDiff, Nat.reduceAdd, Nat.reduceBEq, Nat.reduceLeDiff, Nat.reduceSub, Nat.reduceLT, Nat.reduceMul, reduceCtorEq, hn]
    subst he
    rw [pm_all]
    rfl
  | succ m ih =>
    rintro q j rfl hq
    have h1 : q < l.length := by omega
    have nxt := ih (q + 1) _ (wrap_succ (by omega)) (by omega)
    have hpl := pm_len l (eachF l (learnG l r)) q
    have hl2 := hears_len l r q
    have hpq : cx (pm l (eachF l (learnG l r)) q) q = cx l q := cx_of (by simp [pm, h1])
    have hin := fun k => L12_1_eq l r t u q (hears l r q) hb h1 (fun x hx => hears_lt hx) (by omega) (k := k) (hears l r q) 0 0 (pm l (eachF l (learnG l r)) q) rfl rfl hpl
    rw [L12_0g]
    simp only [go_sem, ↓reduceIte, Nat.reduceEqDiff, Nat.reduceAdd, Nat.reduceBEq, Nat.reduceLeDiff, Nat.reduceSub, Nat.reduceLT, Nat.reduceMul, reduceCtorEq, h1, F23_eq l r q hb h1 hs]
    rw [hin, hpq, pm_set l (eachF l (learnG l r)) q _ (upEp_one l r q h1 h0).symm]
    simp only [go_sem, ↓reduceIte, Nat.reduceEqDiff, Nat.reduceAdd, Nat.reduceBEq, Nat.reduceLeDiff, Nat.reduceSub, Nat.reduceLT, Nat.reduceMul, reduceCtorEq]
    exact nxt
end Go.R

namespace Go.R

theorem L12_3_eq (l o1 : List Ctl) (r : List (List Bool)) (t u : Int) (i : Nat) (c : Ctl) (X : List (List D)) (b : Bool) (hs : List Nat) (hb : l.length < 1000000) (ho : o1.length = l.length) (hi : i < l.length) (hx : ∀ x ∈ hs, x < l.length) (hl : hs.length < 1000000) {k : List Kt} :
    ∀ (rest : List Nat) (q : Nat) (j : Int) (d : Bool), j = q → hs.drop q = rest →
    go CF (.code L12_3 :: .lp [0, 1, 2, 3, 11, 15, 16, 17, 19, 80, 81, 82, 109, 110, 111] L12_3 4 :: k) (some (.normal, stA [(0, .d (dC l)), (1, .d (dR r)), (2, .d (di t)), (3, .d (di u)), (11, .own 1 3 l.length), (15, .own 2 3 l.length), (16, .d (.int .i64 i)), (17, .loc 3 1 0 0), (19, .d (db d)), (80, .own 1 3 l.length), (81, .d (.int .i64 l.length)), (82, .d (.int .i64 i)), (109, .d (dI hs)), (110, .d (.int .i64 hs.length)), (111, .d (.int .i64 j))] nos
      [(0, .grow true 38 3 []), (1, .grow b 38 3 (o1.map c3)), (2, .grow true 38 3 X), (3, .grow true 38 3 [[di c.st, di c.ep, di c.hd]])] 4)) =
      go CF k (some (.exit 6, stA [(0, .d (dC l)), (1, .d (dR r)), (2, .d (di t)), (3, .d (di u)), (11, .own 1 3 l.length), (15, .own 2 3 l.length), (16, .d (.int .i64 i)), (19, .d (db (d || rest.any (rival o1 i c.ep)))), (80, .own 1 3 l.length), (81, .d (.int .i64 l.length)), (82, .d (.int .i64 i))] nos
      [(0, .grow true 38 3 []), (1, .grow b 38 3 (o1.map c3)), (2, .grow true 38 3 X), (3, .grow true 38 3 [[di c.st, di c.ep, di c.hd]])] 4)) := by
  intro rest
  induction rest with
  | nil =>
    rintro q j d rfl hq
    have hq := drop_nil hq
    rw [L12_3g]
    simp only [go_sem, ↓reduceIte, Nat.reduceEqDiff, Nat.reduceAdd, Nat.reduceBEq, Nat.reduceLeDiff, Nat.reduceSub, Nat.reduceLT, Nat.reduceMul, reduceCtorEq, hq, List.any_nil]
  | cons x rest ih =>
    rintro q j d rfl hq
    obtain ⟨h1, h2, h3⟩ := drop_cons hq
    have hxl := hx x (List.mem_of_getElem? h2)
    have hxo : o1[x]? = some (cx o1 x) := c_at (by omega)
    have nxt := fun d => ih (q + 1) _ d (wrap_succ (by omega)) h3
    have ha : ((cx o1 x).st == 1) = act o1 x := rfl
    rw [L12_3g]
    simp only [go_sem, ↓reduceIte, Nat.reduceEqDiff, Nat.reduceAdd, Nat.reduceBEq, Nat.reduceLeDiff, Nat.reduceSub, Nat.reduceLT, Nat.reduceMul, reduceCtorEq, h1, h2, List.any_cons]
    repeat' (first | refine sk_fork ?_ ?_ | refine cd_fork ?_ ?_) <;> intro h <;> simp only [go_sem, ↓reduceIte, Nat.reduceEqDiff, Nat.reduceAdd, Nat.reduceBEq, Nat.reduceLeDiff, Nat.reduceSub, Nat.reduceLT, Nat.reduceMul, reduceCtorEq, h, hxl, hxo, ho, ha]
    all_goals rw [nxt]
    all_goals clear ih nxt
    all_goals simp only [rival, *, Bool.true_or, Bool.false_or, Bool.false_and, Bool.true_and, Bool.and_false, Bool.and_true]

theorem setSame (out : List Ctl) (i : Nat) (c : Ctl) (h : cx out i = c) : out.set i c = out := by
  apply List.ext_getElem
  · simp
  · intro n h1 h2
    simp only [List.getElem_set]
    split
    · rename_i hn; subst hn; rw [← h]; simp [cx, List.getD, h2]
    · rfl

theorem L12_2_eq (l o1 : List Ctl) (r : List (List Bool)) (t u : Int) (hb : l.length < 1000000) (ho : o1.length = l.length) (hs : sqB r l.length = true) {k : List Kt} :
    ∀ (m q : Nat) (j : Int) (b : Bool), j = q → q + m = l.length → ∃ b' : Bool,
    go CF (.code L12_2 :: .lp [0, 1, 2, 3, 11, 15, 80, 81, 82] L12_2 3 :: k) (some (.normal, stA [(0, .d (dC l)), (1, .d (dR r)), (2, .d (di t)), (3, .d (di u)), (11, .own 1 3 l.length), (15, .own 2 3 l.length), (80, .own 1 3 l.length), (81, .d (.int .i64 l.length)), (82, .d (.int .i64 j))] nos
      [(0, .grow true 38 3 []), (1, .grow b 38 3 (o1.map c3)), (2, .grow true 38 3 ((pm o1 (eachF o1 (yieldG o1 l r)) q).map c3))] 3)) =
      go CF k (some (.exit 4, stA [(0, .d (dC l)), (1, .d (dR r)), (2, .d (di t)), (3, .d (di u)), (15, .own 2 3 l.length)] nos
      [(0, .grow true 38 3 []), (1, .grow b' 38 3 (o1.map c3)), (2, .grow true 38 3 ((eachM o1 (yieldG o1 l r)).map c3))] 3)) := by
  intro m
  induction m with
  | zero =>
    rintro q j b rfl hq
    have hn : ¬ q < l.length := by omega
    have he : q = o1.length := by omega
    refine ⟨b, ?_⟩
    rw [L12_2g]
    simp only [go_sem, ↓reduceIte, Nat.reduceEqDiff, Nat.reduceAdd, Nat.reduceBEq, Nat.reduceLeDiff, Nat.reduceSub, Nat.reduceLT, Nat.reduceMul, reduceCtorEq, hn]
    subst he
    rw [pm_all]
    rfl
  | succ m ih =>
    rintro q j b rfl hq
    have h1 : q < l.length := by omega
    have nxt := fun b => ih (q + 1) _ b (wrap_succ (by omega)) (by omega)
    have hpl := pm_len o1 (eachF o1 (yieldG o1 l r)) q
    have hl2 := hears_len o1 r q
    have hoq : o1[q]? = some (cx o1 q) := c_at (by omega)
    have hpq : cx (pm o1 (eachF o1 (yieldG o1 l r)) q) q = cx o1 q := cx_of (by simp [pm, ho, h1])
    have hpm : (pm o1 (eachF o1 (yieldG o1 l r)) q)[q]? = some (cx o1 q) := by rw [← hpq]; exact c_at (by omega)
    have hh := F23_eq o1 r q (by omega) (by omega) (by rw [ho]; exact hs)
    have hin := fun d => fun k => L12_3_eq l o1 r t u q (cx o1 q) ((pm o1 (eachF o1 (yieldG o1 l r)) q).map c3) false (hears o1 r q) hb ho h1 (fun x hx => by rw [← ho]; exact hears_lt hx) (by omega) (k := k) (hears o1 r q) 0 0 d rfl rfl
    have hstep : ∀ d, d = yieldC o1 l r q (cx o1 q).ep → (if d = true then ⟨0, (cx o1 q).ep, (cx o1 q).hd⟩ else cx o1 q) = eachF o1 (yieldG o1 l r) q := by
      rintro d rfl
      by_cases hu : up o1 q = true
      · simp only [eachF, hu, if_true, yieldG]
      · have : yieldC o1 l r q (cx o1 q).ep = false := by
          have hst : (cx o1 q).st = 2 := by simpa [up] using hu
          simp [yieldC, act, hst]
        simp [eachF, hu, this]
    by_cases hact : act o1 q = true
    · obtain ⟨b', hb'⟩ := nxt false
      refine ⟨b', ?_⟩
      have hst : ((cx o1 q).st != 1) = false := by
        have : (cx o1 q).st = 1 := by simpa [act] using hact
        simp [this]
      rw [L12_2g]
      simp only [go_sem, ↓reduceIte, Nat.reduceEqDiff, Nat.reduceAdd, Nat.reduceBEq, Nat.reduceLeDiff, Nat.reduceSub, Nat.reduceLT, Nat.reduceMul, reduceCtorEq, h1, hoq, ho, hst, hh, F24_eq l (hears o1 r q).length (by omega)]
      have hmaj : maj o1 (hears o1 r q).length = maj l (hears o1 r q).length := by simp only [maj, ho]
      have hY : yieldC o1 l r q (cx o1 q).ep = (!maj l (hears o1 r q).length || (decide ((cx l q).ep < (cx o1 q).ep) || (hears o1 r q).any (rival o1 q (cx o1 q).ep))) := by
        simp only [yieldC, hact, Bool.true_and, hmaj]
      refine sk_fork ?_ ?_ <;> intro h
      · simp only [go_sem, ↓reduceIte, Nat.reduceEqDiff, Nat.reduceAdd, Nat.reduceBEq, Nat.reduceLeDiff, Nat.reduceSub, Nat.reduceLT, Nat.reduceMul, reduceCtorEq, h]
        rw [hin]
        have hd : (true || (hears o1 r q).any (rival o1 q (cx o1 q).ep)) = yieldC o1 l r q (cx o1 q).ep := by rw [hY, h]; simp only [Bool.true_or]
        rw [hd]
        cases hD : yieldC o1 l r q (cx o1 q).ep with
        | true =>
          rw [← pm_set o1 (eachF o1 (yieldG o1 l r)) q _ (hstep true hD.symm).symm] at hb'
          simp only [go_sem, ↓reduceIte, Nat.reduceEqDiff, Nat.reduceAdd, Nat.reduceBEq, Nat.reduceLeDiff, Nat.reduceSub, Nat.reduceLT, Nat.reduceMul, reduceCtorEq, h1, hpm, hpl, ho]
          exact hb'
        | false =>
          rw [← pm_same o1 (eachF o1 (yieldG o1 l r)) q (hstep false hD.symm).symm] at hb'
          simp only [go_sem, ↓reduceIte, Nat.reduceEqDiff, Nat.reduceAdd, Nat.reduceBEq, Nat.reduceLeDiff, Nat.reduceSub, Nat.reduceLT, Nat.reduceMul, reduceCtorEq]
          exact hb'
      · simp only [go_sem, ↓reduceIte, Nat.reduceEqDiff, Nat.reduceAdd, Nat.reduceBEq, Nat.reduceLeDiff, Nat.reduceSub, Nat.reduceLT, Nat.reduceMul, reduceCtorEq, h, h1, c_at h1]
        rw [hin]
        have hd : (decide ((cx o1 q).ep > (cx l q).ep) || (hears o1 r q).any (rival o1 q (cx o1 q).ep)) = yieldC o1 l r q (cx o1 q).ep := by rw [hY, h]; simp only [Bool.false_or, gt_iff_lt]
        rw [hd]
        cases hD : yieldC o1 l r q (cx o1 q).ep with
        | true =>
          rw [← pm_set o1 (eachF o1 (yieldG o1 l r)) q _ (hstep true hD.symm).symm] at hb'
          simp only [go_sem, ↓reduceIte, Nat.reduceEqDiff, Nat.reduceAdd, Nat.reduceBEq, Nat.reduceLeDiff, Nat.reduceSub, Nat.reduceLT, Nat.reduceMul, reduceCtorEq, h1, hpm, hpl, ho]
          exact hb'
        | false =>
          rw [← pm_same o1 (eachF o1 (yieldG o1 l r)) q (hstep false hD.symm).symm] at hb'
          simp only [go_sem, ↓reduceIte, Nat.reduceEqDiff, Nat.reduceAdd, Nat.reduceBEq, Nat.reduceLeDiff, Nat.reduceSub, Nat.reduceLT, Nat.reduceMul, reduceCtorEq]
          exact hb'
    · obtain ⟨b', hb'⟩ := nxt b
      refine ⟨b', ?_⟩
      have hst : ((cx o1 q).st != 1) = true := by
        have : ¬ (cx o1 q).st = 1 := by simpa [act] using hact
        simp [this]
      have hy : yieldC o1 l r q (cx o1 q).ep = false := by simp [yieldC, hact]
      have := hstep false hy.symm
      rw [← pm_same o1 _ q this.symm] at hb'
      rw [L12_2g]
      simp only [go_sem, ↓reduceIte, Nat.reduceEqDiff, Nat.reduceAdd, Nat.reduceBEq, Nat.reduceLeDiff, Nat.reduceSub, Nat.reduceLT, Nat.reduceMul, reduceCtorEq, h1, hoq, ho, hst]
      exact hb'
end Go.R

namespace Go.R

theorem leads_up {l : List Ctl} {r : List (List Bool)} {i : Nat} (h : leads l r i = true) : up l i = true := by
  simp only [leads, List.any_eq_true] at h
  obtain ⟨k, hk, _⟩ := h
  simp only [hears, List.mem_filter, hearP, Bool.and_eq_true] at hk
  exact hk.2.1

theorem L12_4_eq (l o2 : List Ctl) (r : List (List Bool)) (t u : Int) (b1 : Bool) (X : List (List D)) (hb : l.length < 1000000) (ho : o2.length = l.length) (hs : sqB r l.length = true) {k : List Kt} :
    ∀ (m q : Nat) (j : Int), j = q → q + m = l.length →
    go CF (.code L12_4 :: .lp [0, 1, 2, 3, 15, 22, 149, 150] L12_4 4 :: k) (some (.normal, stA [(0, .d (dC l)), (1, .d (dR r)), (2, .d (di t)), (3, .d (di u)), (15, .own 2 3 l.length), (22, .own 3 3 l.length), (149, .d (.int .i64 l.length)), (150, .d (.int .i64 j))] nos
      [(0, .grow true 38 3 []), (1, .grow b1 38 3 X), (2, .grow true 38 3 (o2.map c3)), (3, .grow true 38 3 ((pm o2 (eachF o2 (listenG o2 r t)) q).map c3))] 4)) =
      go CF k (some (.exit 8, stA [(0, .d (dC l)), (1, .d (dR r)), (2, .d (di t)), (3, .d (di u)), (22, .own 3 3 l.length)] nos
      [(0, .grow true 38 3 []), (1, .grow b1 38 3 X), (2, .grow true 38 3 (o2.map c3)), (3, .grow true 38 3 ((eachM o2 (listenG o2 r t)).map c3))] 4)) := by
  intro m
  induction m with
  | zero =>
    rintro q j rfl hq
    have hn : ¬ q < l.length := by omega
    have he : q = o2.length := by omega
    rw [L12_4g]
    simp only [go_sem, ↓reduceIte, Nat.reduceEqDiff, Nat.reduceAdd, Nat.reduceBEq, Nat.reduceLeDiff, Nat.reduceSub, Nat.reduceLT, Nat.reduceMul, reduceCtorEq, hn]
    subst he
    rw [pm_all]
    rfl
  | succ m ih =>
    rintro q j rfl hq
    have h1 : q < l.length := by omega
    have nxt := ih (q + 1) _ (wrap_succ (by omega)) (by omega)
    have hpl := pm_len o2 (eachF o2 (listenG o2 r t)) q
    have hpq : cx (pm o2 (eachF o2 (listenG o2 r t)) q) q = cx o2 q := cx_of (by simp [pm, ho, h1])
    have hpm : (pm o2 (eachF o2 (listenG o2 r t)) q)[q]? = some (cx o2 q) := by rw [← hpq]; exact c_at (by omega)
    rw [L12_4g]
    simp only [go_sem, ↓reduceIte, Nat.reduceEqDiff, Nat.reduceAdd, Nat.reduceBEq, Nat.reduceLeDiff, Nat.reduceSub, Nat.reduceLT, Nat.reduceMul, reduceCtorEq, h1, ho, F25_eq o2 r q (by omega) (by omega) (by rw [ho]; exact hs)]
    refine cd_fork ?_ ?_ <;> intro h
    · have hf : eachF o2 (listenG o2 r t) q = ⟨(cx o2 q).st, (cx o2 q).ep, t⟩ := by simp only [eachF, leads_up h, if_true, listenG, h]
      rw [← pm_set o2 _ q _ hf] at nxt
      simp only [go_sem, ↓reduceIte, Nat.reduceEqDiff, Nat.reduceAdd, Nat.reduceBEq, Nat.reduceLeDiff, Nat.reduceSub, Nat.reduceLT, Nat.reduceMul, reduceCtorEq, h, h1, hpm, hpl, ho]
      exact nxt
    · have hf : eachF o2 (listenG o2 r t) q = cx o2 q := by simp [eachF, listenG, h]
      rw [← pm_same o2 _ q hf] at nxt
      simp only [go_sem, ↓reduceIte, Nat.reduceEqDiff, Nat.reduceAdd, Nat.reduceBEq, Nat.reduceLeDiff, Nat.reduceSub, Nat.reduceLT, Nat.reduceMul, reduceCtorEq, h]
      exact nxt

/-- The votes for each number. -/
def vrow (l : List Ctl) (r : List (List Bool)) (cs : List Nat) (n q : Nat) : List (List Nat) := (List.range n).map fun c => getV (vts l r cs q) c
theorem getV_add (c i c' : Nat) (vs : List (Nat × List Nat)) : getV (addV c i vs) c' = if c' = c then getV vs c ++ [i] else getV vs c' := by
  rcases split_key vs c with ⟨a, ws, b, rfl, ha⟩ | ha
  · rw [addV_in ha]
    split
    · rename_i h; subst h; rw [getV_in ha, getV_in ha]
    · rename_i h
      have hc : (c == c') = false := by simp; exact fun e => h e.symm
      simp [getV, List.find?_append, List.find?_cons, hc]
  · rw [addV_out ha]
    split
    · rename_i h; subst h; rw [getV_in (b := []) ha, getV_out ha]; rfl
    · rename_i h
      have hc : (c == c') = false := by simp; exact fun e => h e.symm
      simp [getV, List.find?_append, List.find?_cons, hc]

end Go.R
