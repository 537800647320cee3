/- The machine's operations do what the evaluator says, second part. -/
import Derived.Test.YtaoommhpediaeaaRb
import Derived.MapKept
set_option linter.unusedVariables false
set_option linter.unusedSimpArgs false
set_option linter.defProp false

namespace Go.R
section
variable {P : Program} {c : Cx} {n0 : Nat} {ρ : Opd → V} {ρc : Operand → Value}

theorem mkRow_es {m : Bool} {E s : Nat} {e : List V} : rowEs (mkRow m E s e) = some (m, E, s, [e]) := by
  unfold mkRow
  split
  · rename_i l hl
    rw [allD_eq hl]
    rfl
  · rfl

/-- A new variable: cells of its own. -/
theorem box_run (hsr : SR c) (E : Nat) {n : Nat} {cs : List V} {vs : List Value} (hf : c.Fr n (n + ((ownNils n cs).2 ++ [mkRow true E cs.length (ownNils n cs).1]).length)) (hv : VVals c cs vs) (h1 : ∀ u ∈ vs, u.oneCell' = true) :
    ∃ c2, c2.w = c.w.alloc (.cells vs.toArray E) ∧ Go1 c c2 ∧ c2.S = putNew c.S n ((ownNils n cs).2 ++ [mkRow true E cs.length (ownNils n cs).1]) ∧
      Gave c c2 n (n + ((ownNils n cs).2 ++ [mkRow true E cs.length (ownNils n cs).1]).length) ∧ VRep c2 (.loc (n + (ownNils n cs).2.length) 1 0 0) (.pointer (some ⟨c.w.heap.size, 0, none⟩)) := by
  simp only [List.length_append, List.length_singleton] at hf ⊢
  obtain ⟨c1, a1, a2, a3, a4, a5, a6, a7⟩ := nils_ok cs hsr (fun k h1 h2 => hf k h1 (by omega)) hv
  have hq : ¬ c1.U (n + (ownNils n cs).2.length) := (hf.step a4 (by omega)).head (by omega)
  have hown := World.ownsRow_lit (base := 0) (e := E) (size := cs.length) c1.w vs.toArray 1 (Nat.zero_le _) (by simp [maxLen]) (by simp [VVals_length hv])
  have hext : Ext (fun _ => False) c1.w (c1.w.alloc (.cells vs.toArray E)) := Ext.alloc _ _ _
  have hb : ∀ b, blkOf (.slice (some ⟨c1.w.heap.size, 0, none⟩) 1 1) = some b → c1.w.heap.size ≤ b := by simp [blkOf]
  obtain ⟨h2, h3⟩ := add_row a5.sr hext hq (o := mkRow true E cs.length (ownNils n cs).1) (v := .slice (some ⟨c1.w.heap.size, 0, none⟩) 1 1) mkRow_es hb (by simpa using hown) (by simp [a7]) (by simpa using a6) (by simpa using h1)
  refine ⟨c1.add (c1.w.alloc (.cells vs.toArray E)) (n + (ownNils n cs).2.length) (mkRow true E cs.length (ownNils n cs).1) (.slice (some ⟨c1.w.heap.size, 0, none⟩) 1 1), by simp [Cx.add, a1], a5.trans (Go1_add hext hb h2 h3), ?_, ?_, ?_⟩
  · simp only [Cx.add, a3, putNew_append, putNew]
  · exact a4.trans (Gave.add _ _ _ _) (by omega) (by omega)
  · simp only [VRep]
    refine ⟨.inl ⟨mkRow true E cs.length (ownNils n cs).1, true, E, cs.length, [(ownNils n cs).1], ?_, mkRow_es, rfl, c1.w.heap.size, 0, 1, ?_, ?_⟩, c.w.heap.size, 0, rfl⟩
    · simp [Cx.add, upd_same]
    · simp [Cx.add, upd_same]
    · simp [a1]

theorem mapO_length {α β : Type} {f : α → Option β} : ∀ {l : List α} {r : List β}, mapO f l = some r → r.length = l.length
  | [], r, h => by simp [mapO] at h; subst h; rfl
  | x :: l, r, h => by
    simp only [mapO] at h
    split at h
    · rename_i y q hy hq
      simp at h
      subst h
      simp [mapO_length hq]
    · cases h

theorem constV_one {a : Nat × Nat} {v : Value} {x : V} (h : constV a v = some x) : v.oneCell' = true := by
  unfold constV at h
  split at h <;> simp at h <;> rfl

theorem consts_ok (c : Cx) : ∀ {ts : List TypeId} {vs : List Value} {zs : List V} {an : TypeId → Nat × Nat}, ts.length = vs.length → mapO (fun p : TypeId × Value => constV (an p.1) p.2) (ts.zip vs) = some zs → VVals c zs vs ∧ ∀ u ∈ vs, u.oneCell' = true
  | [], [], zs, an, _, h => by simp [mapO] at h; subst h; simp [VVals]
  | t :: ts, v :: vs, zs, an, hl, h => by
    simp only [List.zip_cons_cons, mapO] at h
    split at h
    · rename_i y q hy hq
      simp at h
      subst h
      obtain ⟨h1, h2⟩ := consts_ok c (by simpa using hl) hq
      refine ⟨⟨v, vs, rfl, constV_ok hy, h1⟩, fun u hu => ?_⟩
      rcases List.mem_cons.1 hu with rfl | hu
      · exact constV_one hy
      · exact h2 u hu
    · cases h
  | [], _ :: _, _, _, hl, _ => by simp at hl
  | _ :: _, [], _, _, hl, _ => by simp at hl

theorem zero_ok (c : Cx) {t : TypeId} {zs : List V} (h : zeroCells P t = some zs) : ∃ i z, P.info? t = some i ∧ i.zero = some z ∧ VVals c zs z.cells.toList ∧ (∀ u ∈ z.cells.toList, u.oneCell' = true) ∧ zs.length = z.cells.size := by
  unfold zeroCells at h
  split at h
  · rename_i i hi
    split at h
    · rename_i z hz
      simp only at h
      split at h
      · rename_i hl
        obtain ⟨h1, h2⟩ := consts_ok c (by simpa using hl) h
        exact ⟨i, z, hi, hz, h1, h2, by rw [← VVals_length h1]; simp⟩
      · cases h
    · cases h
  · cases h

theorem op_nbox {o : Oper} {E : TypeId} {zs : List V} {n : Nat} (hsr : SR c) (ho : o.op = .alloc E) (hz : zeroCells P E = some zs) (hf : c.Fr n (n + ((ownNils n zs).2 ++ [mkRow true E zs.length (ownNils n zs).1]).length)) :
    OpOK P ρc o c (putNew c.S n ((ownNils n zs).2 ++ [mkRow true E zs.length (ownNils n zs).1])) n (n + ((ownNils n zs).2 ++ [mkRow true E zs.length (ownNils n zs).1]).length) (.loc (n + (ownNils n zs).2.length) 1 0 0) := by
  obtain ⟨i, z, hi, hz', h1, h2, h3⟩ := zero_ok c hz
  obtain ⟨c2, a1, a2, a3, a4, a5⟩ := box_run hsr E hf h1 h2
  refine ⟨_, _, c2, ?_, .inl rfl, a2, a3, a4, a5⟩
  simp [execOp, ho, Instr.alloc, zeroValue, typeInfo, hi, hz', newVar, Go.newRow, a1]

theorem op_box {o : Oper} {E : TypeId} {x : Operand} {xv : V} {cs : List V} {n : Nat} (hsr : SR c) (ho : o.op = .box E x) (hx : VRep c xv (ρc x)) (hc : cellsV xv = some cs) (hf : c.Fr n (n + ((ownNils n cs).2 ++ [mkRow true E cs.length (ownNils n cs).1]).length)) :
    OpOK P ρc o c (putNew c.S n ((ownNils n cs).2 ++ [mkRow true E cs.length (ownNils n cs).1])) n (n + ((ownNils n cs).2 ++ [mkRow true E cs.length (ownNils n cs).1]).length) (.loc (n + (ownNils n cs).2.length) 1 0 0) := by
  obtain ⟨vs, hv, h1, h2⟩ := cells_ok hx hc
  obtain ⟨c2, a1, a2, a3, a4, a5⟩ := box_run hsr E hf h1 h2
  refine ⟨_, _, c2, ?_, .inl rfl, a2, a3, a4, a5⟩
  simp [execOp, ho, Instr.box, newVar, Go.newRow, a1, hv]

theorem op_nilv {o : Oper} {x : Operand} {n : Nat} (hsr : SR c) (ho : o.op = .move x ∨ o.op = .assign x) (hx : isNilSlice x = true) (E s : Nat) (hf : c.Fr n (n + 1)) : OpOK P (fun y => match y with | .const v => v | y => ρc y) o c (putNew c.S n [.grow true E s []]) n (n + 1) (.own n s 0) := by
  obtain ⟨g1, g2⟩ := add_nil hsr (hf.head (by omega)) E s
  refine ⟨.value (.slice none 0 0), _, _, ?_, .inl rfl, g1, rfl, Gave.add _ _ _ _, g2⟩
  have hxx : x = .const (.slice none 0 0) := by
    unfold isNilSlice at hx
    split at hx
    · rfl
    · cases hx
  subst hxx
  rcases ho with ho | ho <;> simp [execOp, ho, Cx.add]

/-! ### literals -/
theorem foldSet (off : Nat) : ∀ (vs : List Value) (k : Nat) (cells : Array Value), off + k + vs.length ≤ cells.size →
    ((vs.zipIdx k).foldl (fun cs (p : Value × Nat) => cs.setIfInBounds (off + p.2) p.1) cells).toList = splice cells.toList (off + k) vs
  | [], k, cells, h => by simp [splice]
  | v :: vs, k, cells, h => by
    simp only [List.zipIdx_cons, List.foldl_cons]
    simp only [List.length_cons] at h
    rw [foldSet off vs (k + 1) _ (by simp; omega)]
    simp only [Array.toList_setIfInBounds]
    unfold splice
    apply List.ext_getElem?
    intro i
    simp only [List.getElem?_append, List.length_take, List.length_set, Array.length_toList, List.length_append, List.length_cons, List.getElem?_take, List.getElem?_drop, List.getElem?_set, List.getElem?_cons]
    rw [Nat.min_eq_left (by omega : off + (k + 1) ≤ cells.size), Nat.min_eq_left (by omega : off + k ≤ cells.size)]
    by_cases h1 : i < off + k
    · simp [h1, show i < off + (k + 1) by omega, show i < off + (k + 1) + vs.length by omega, show i < off + k + (vs.length + 1) by omega, show off + k ≠ i by omega]
    · by_cases h2 : i = off + k
      · subst h2
        simp [show off + k < off + (k + 1) by omega, show off + k < off + (k + 1) + vs.length by omega, show off + k < off + k + (vs.length + 1) by omega, show off + k < cells.size by omega]
      · by_cases h3 : i < off + k + (vs.length + 1)
        · simp [h1, h3, show ¬ i < off + (k + 1) by omega, show i < off + (k + 1) + vs.length by omega, show i - (off + k) ≠ 0 by omega, show i - (off + k) - 1 = i - (off + (k + 1)) by omega]
        · simp [h1, h3, show ¬ i < off + (k + 1) by omega, show ¬ i < off + (k + 1) + vs.length by omega]
          rw [if_neg (by omega)]
          congr 1
          omega

def F2 {α β : Type} (R : α → β → Prop) : List α → List β → Prop
  | [], [] => True
  | a :: l, b :: r => R a b ∧ F2 R l r
  | _, _ => False

theorem fill_ok {place : Nat → Option (Nat × Nat)} : ∀ (ps : List (Nat × Value)) (l : List (Nat × Nat × List V)) (zs : List V) (cells : Array Value) {r : List V},
    F2 (fun p q => place p.1 = some (q.1, q.2.1) ∧ ∃ vs, p.2.cells = vs.toArray ∧ VVals c q.2.2 vs ∧ ∀ u ∈ vs, u.oneCell' = true) ps l → VVals c zs cells.toList → (∀ u ∈ cells.toList, u.oneCell' = true) → fillCells zs l = some r →
    ∃ cells', Instr.fill place cells ps = some cells' ∧ VVals c r cells'.toList ∧ (∀ u ∈ cells'.toList, u.oneCell' = true) ∧ cells'.size = cells.size
  | [], [], zs, cells, r, _, hz, h1, h => by
    simp [fillCells] at h
    subst h
    exact ⟨cells, rfl, hz, h1, rfl⟩
  | (i, v) :: ps, (off, sz, cs) :: l, zs, cells, r, hf, hz, h1, h => by
      obtain ⟨⟨hp, vs, hv, hvs, hone⟩, hrest⟩ := hf
      simp only [fillCells] at h
      split at h
      · rename_i hc
        obtain ⟨hlen, hle⟩ := hc
        have hvl : vs.length = cs.length := VVals_length hvs
        have hzl := VVals_length hz
        rw [Array.length_toList] at hzl
        have hstep : (v.cells.zipIdx.foldl (fun cs (p : Value × Nat) => cs.setIfInBounds (off + p.2) p.1) cells).toList = splice cells.toList off vs := by
          rw [hv]
          have := foldSet off vs 0 cells (by omega)
          simpa [← Array.foldl_toList] using this
        obtain ⟨cells', g1, g2, g3, g4⟩ := fill_ok ps l (splice zs off cs) _ hrest (by rw [hstep]; exact VVals_splice off hz hvs) (by
          rw [hstep]
          intro u hu
          unfold splice at hu
          rcases List.mem_append.1 hu with hu | hu
          · rcases List.mem_append.1 hu with hu | hu
            · exact h1 u (List.mem_of_mem_take hu)
            · exact hone u hu
          · exact h1 u (List.mem_of_mem_drop hu)) h
        refine ⟨cells', ?_, g2, g3, ?_⟩
        · simp only [Instr.fill, hp]
          rw [if_neg (by simp [hv, hvl, hlen]; omega)]
          exact g1
        · have hsl : (splice cells.toList off vs).length = cells.size := by
            have hcl : cells.toList.length = cells.size := Array.length_toList
            have := splice_length (xs := cells.toList) (ys := vs) (j := off) (by omega)
            omega
          rw [g4, ← Array.length_toList, hstep, hsl]
      · cases h
  | [], _ :: _, _, _, _, hf, _, _, _ => hf.elim
  | _ :: _, [], _, _, _, hf, _, _, _ => hf.elim

theorem op_build {o : Oper} {t : TypeId} {ps : Array (Nat × Operand)} {fs : Array Field} {zs r : List V} {l : List (Nat × Nat × List V)} (hsr : SR c) (ho : o.op = .build t ps) (hu : P.underlying t = some (.struct fs))
    (hz : zeroCells P t = some zs) (hs : ∀ f ∈ fs, ∃ n, szT P f.type = some n)
    (hps : F2 (fun (p : Nat × Operand) (q : Nat × Nat × List V) => (∃ f, fs[p.1]? = some f ∧ f.offset = q.1 ∧ szT P f.type = some q.2.1) ∧ ∃ vs, (ρc p.2).cells = vs.toArray ∧ VVals c q.2.2 vs ∧ ∀ u ∈ vs, u.oneCell' = true) ps.toList l)
    (h : fillCells zs l = some r) : OpOK P ρc o c c.S n0 n0 (mkAgg r) := by
  obtain ⟨i, z, hi, hz', h1, h2, h3⟩ := zero_ok c hz
  have hplaces : ∃ places : Array (Nat × Nat), (∀ w, (fs.mapM (fun (f : Field) => do pure (f.offset, ← sizeOf f.type)) : Sem (Array (Nat × Nat))).run P w = .ok places w) ∧ ∀ (j : Nat) (f : Field) (n : Nat), fs[j]? = some f → szT P f.type = some n → places[j]? = some (f.offset, n) := by
    refine ⟨fs.map fun f => (f.offset, (szT P f.type).getD 0), fun w => ?_, fun j f n hj hn => by simp [hj, hn]⟩
    rw [Array.mapM_eq_mapM_toList]
    have : ∀ l : List Field, (∀ f ∈ l, ∃ n, szT P f.type = some n) → (l.mapM (fun (f : Field) => do pure (f.offset, ← sizeOf f.type)) : Sem (List (Nat × Nat))).run P w = .ok (l.map fun f => (f.offset, (szT P f.type).getD 0)) w := by
      intro l
      induction l with
      | nil => intro _; simp
      | cons f l ih =>
        intro hl
        obtain ⟨n, hn⟩ := hl f (by simp)
        have ih' := ih fun g hg => hl g (by simp [hg])
        simp only [List.mapM_cons, Sem.run_bind, Sem.run_pure, Result.andThen_ok, run_sizeOf hn]
        rw [ih']
        simp [hn]
    have h0 := this fs.toList (fun f hf => hs f (by simpa using hf))
    simp only [Sem.run_map, h0, Result.andThen_ok]
    congr 1
    apply Array.ext'
    simp
  obtain ⟨places, hpl, hpl2⟩ := hplaces
  have hF : F2 (fun (p : Nat × Value) (q : Nat × Nat × List V) => places[p.1]? = some (q.1, q.2.1) ∧ ∃ vs, p.2.cells = vs.toArray ∧ VVals c q.2.2 vs ∧ ∀ u ∈ vs, u.oneCell' = true) (ps.toList.map fun p => (p.1, ρc p.2)) l := by
    clear h
    generalize ps.toList = pl at hps
    induction pl generalizing l with
    | nil => cases l <;> simp_all [F2]
    | cons p pl ih =>
      cases l with
      | nil => exact hps.elim
      | cons q l =>
        obtain ⟨⟨⟨f, hf1, hf2, hf3⟩, hv⟩, hr⟩ := hps
        exact ⟨⟨by rw [hpl2 _ f _ hf1 hf3, hf2], hv⟩, ih hr⟩
  obtain ⟨cells', g1, g2, g3, g4⟩ := fill_ok (place := (places[·]?)) _ l zs z.cells hF h1 h2 h
  refine OpOK.pure hsr (vc := .agg cells') ?_ (by have := mkAgg_ok g2 g3; simpa using this)
  have hpp : ((ps.map fun (i, x) => (i, ρc x)) : Array (Nat × Value)).toList = ps.toList.map fun p => (p.1, ρc p.2) := by simp
  simp only [execOp, ho, Instr.build, Sem.run_bind, zeroValue, typeInfo, run_program, Result.andThen_ok, hi, Sem.run_pure, hz', run_underlying hu, hpl, hpp, g1]

end
end Go.R

namespace Go.R
section
variable {P : Program} {c : Cx} {n0 : Nat} {ρ : Opd → V} {ρc : Operand → Value}

/-- A row of the call's own, just made with these cells. -/
theorem made_row (hsr : SR c) {E s n q : Nat} (hq : ¬ c.U q) {w' : World} {es : List (List V)} {cells : Array Value} {o : Ob} (hw : w' = c.w.alloc (.cells cells E)) (hr : rowEs o = some (true, E, s, es)) (hn : es.length = n) (hl : ∀ e ∈ es, e.length = s)
    (hm : n ≤ maxLen) (hv : VVals c es.flatten cells.toList) (h1 : ∀ u ∈ cells.toList, u.oneCell' = true) :
    ∃ c2, c2.w = w' ∧ Go1 c c2 ∧ c2.S = upd c.S q (some o) ∧ Gave c c2 q (q + 1) ∧ VRep c2 (.own q s n) (.slice (some ⟨c.w.heap.size, 0, none⟩) n n) := by
  subst hn
  have hsz : cells.size = es.length * s := by rw [← Array.length_toList, VVals_length hv, flatten_length hl]
  have hown := World.ownsRow_lit (base := 0) (e := E) (size := s) c.w cells es.length (Nat.zero_le _) hm hsz
  have hext : Ext (fun _ => False) c.w (c.w.alloc (.cells cells E)) := Ext.alloc _ _ _
  have hb : ∀ b, blkOf (.slice (some ⟨c.w.heap.size, 0, none⟩) es.length es.length) = some b → c.w.heap.size ≤ b := by simp [blkOf]
  obtain ⟨h2, h3⟩ := add_row hsr hext hq hr hb hown hl hv h1
  refine ⟨c.add (c.w.alloc (.cells cells E)) q o (.slice (some ⟨c.w.heap.size, 0, none⟩) es.length es.length), by simp [Cx.add, hw], Go1_add hext hb h2 h3, rfl, Gave.add _ _ _ _, ?_⟩
  simp only [VRep]
  exact ⟨.inl ⟨o, true, E, es, by simp [Cx.add, upd_same], hr, rfl, by simp [Cx.add, upd_same]⟩, _, _, rfl, fun _ => ⟨_, _, rfl⟩⟩

theorem chunks_flatten {α : Type} (s : Nat) (hs : 0 < s) : ∀ (n : Nat) (cs : List α), cs.length = n * s → ((List.range n).map fun i => (cs.drop (i * s)).take s).flatten = cs ∧ ∀ e ∈ (List.range n).map fun i => (cs.drop (i * s)).take s, e.length = s := by
  intro n cs hl
  have hlen : ∀ e ∈ (List.range n).map fun i => (cs.drop (i * s)).take s, e.length = s := by
    intro e he
    obtain ⟨i, hi, rfl⟩ := List.mem_map.1 he
    rw [List.mem_range] at hi
    have : i * s + s ≤ n * s := by rw [← Nat.succ_mul]; exact Nat.mul_le_mul_right _ hi
    simp only [List.length_take, List.length_drop]
    omega
  refine ⟨?_, hlen⟩
  induction n generalizing cs with
  | zero => simp at hl; simp [hl]
  | succ n ih =>
    rw [List.range_succ_eq_map, List.map_cons, List.flatten_cons, List.map_map]
    have h1 : (cs.drop s).length = n * s := by rw [List.length_drop, hl, Nat.add_mul]; omega
    have := ih (cs.drop s) h1 (by
      intro e he
      obtain ⟨i, hi, rfl⟩ := List.mem_map.1 he
      rw [List.mem_range] at hi
      have : i * s + s ≤ n * s := by rw [← Nat.succ_mul]; exact Nat.mul_le_mul_right _ hi
      simp only [List.length_take, List.length_drop, hl, Nat.add_mul]
      omega)
    have h2 : (fun i => List.take s (List.drop (i * s) cs)) ∘ Nat.succ = fun i => List.take s (List.drop (i * s) (cs.drop s)) := by
      funext i
      simp only [Function.comp, List.drop_drop, Nat.succ_mul]
      rw [Nat.add_comm]
    rw [h2, this]
    simp

theorem allD_map (l : List D) : allD (l.map V.d) = some l := by
  induction l with
  | nil => rfl
  | cons a r ih => simp [allD, ih]

theorem run_roomy_zero {E : TypeId} {zs : List V} (hz : zeroCells P E = some zs) (w : World) : ∃ z, (zeroValue E).run P w = .ok z w ∧ VVals c zs z.cells.toList ∧ (∀ u ∈ z.cells.toList, u.oneCell' = true) ∧ zs.length = z.cells.size := by
  obtain ⟨i, z, hi, hz', h1, h2, h3⟩ := zero_ok c hz
  exact ⟨z, by simp [zeroValue, typeInfo, hi, hz'], h1, h2, h3⟩

theorem rep_vals {zs : List V} {vs : List Value} (h : VVals c zs vs) : ∀ n, VVals c (List.replicate n zs).flatten (List.replicate n vs).flatten
  | 0 => by simp [VVals]
  | n + 1 => by simp only [List.replicate_succ, List.flatten_cons]; exact VVals_append h (rep_vals h n)

theorem zeros_list (z : Array Value) (n : Nat) (hz : 0 < z.size) : (((Array.range (n * z.size)).map (z[· % z.size]!)) : Array Value).toList = (List.replicate n z.toList).flatten := by
  apply List.ext_getElem?
  intro i
  have hlen : (List.replicate n z.toList).flatten.length = n * z.size := by simp
  by_cases hi : i < n * z.size
  · have h1 : (List.replicate n z.toList)[i / z.size]? = some z.toList := by
      rw [List.getElem?_replicate, if_pos (by rw [Nat.div_lt_iff_lt_mul hz]; exact hi)]
    have h2 := flatten_at (s := z.size) (i / z.size) (es := List.replicate n z.toList) (by simp) h1
    have h3 : (List.replicate n z.toList).flatten[i]? = z.toList[i % z.size]? := by
      have hm : i / z.size * z.size + i % z.size = i := Nat.div_add_mod' i z.size
      have hlt : i % z.size < z.size := Nat.mod_lt _ hz
      have := congrArg (fun l => l[i % z.size]?) h2
      simp only [List.getElem?_take, List.getElem?_drop, hlt, if_true, hm] at this
      exact this
    rw [h3]
    have hlt : i % z.size < z.size := Nat.mod_lt _ hz
    simp [hi, hlt]
  · rw [List.getElem?_eq_none (by simp; omega), List.getElem?_eq_none (by rw [hlen]; omega)]

theorem op_bsl {o : Oper} {t E : TypeId} {s len : Nat} {ps : Array (Nat × Operand)} {zs r : List V} {l : List (Nat × Nat × List V)} {ob : Ob} {n : Nat} (hf : c.Fr n (n + 1)) (hsr : SR c) (ho : o.op = .buildSlice t len ps) (ht : slT P t = some (E, s)) (hz : zeroCells P E = some zs) (hs : 0 < s) (hzl : zs.length = s) (hroom : len * s ≤ 16777216)
    (hps : F2 (fun (p : Nat × Operand) (q : Nat × Nat × List V) => (p.1 * s = q.1 ∧ s = q.2.1) ∧ ∃ vs, (ρc p.2).cells = vs.toArray ∧ VVals c q.2.2 vs ∧ ∀ u ∈ vs, u.oneCell' = true) ps.toList l)
    (h : fillCells (List.replicate len zs).flatten l = some r) (hob : rowEs ob = some (true, E, s, (List.range len).map fun i => (r.drop (i * s)).take s)) :
    OpOK P ρc o c (upd c.S n (some ob)) n (n + 1) (.own n s len) := by
  obtain ⟨hu, hsz⟩ := slT_some ht
  obtain ⟨z, hzr, h1, h2, h3⟩ := run_roomy_zero (c := c) hz c.w
  have hzsz : z.cells.size = s := by omega
  have hF : F2 (fun (p : Nat × Value) (q : Nat × Nat × List V) => (fun i => some (i * s, s)) p.1 = some (q.1, q.2.1) ∧ ∃ vs, p.2.cells = vs.toArray ∧ VVals c q.2.2 vs ∧ ∀ u ∈ vs, u.oneCell' = true) (ps.toList.map fun p => (p.1, ρc p.2)) l := by
    clear h hob
    generalize ps.toList = pl at hps
    induction pl generalizing l with
    | nil => cases l <;> simp_all [F2]
    | cons p pl ih =>
      cases l with
      | nil => exact hps.elim
      | cons q l =>
        obtain ⟨⟨⟨hf1, hf2⟩, hv⟩, hr⟩ := hps
        exact ⟨⟨by show some (p.1 * s, s) = _; rw [hf1, ← hf2], hv⟩, ih hr⟩
  have hzero : ∀ u ∈ (List.replicate len z.cells.toList).flatten, u.oneCell' = true := by
    intro u hu
    simp only [List.mem_flatten, List.mem_replicate] at hu
    obtain ⟨q, ⟨_, rfl⟩, hq⟩ := hu
    exact h2 u hq
  have hzl2 := zeros_list z.cells len (by omega)
  obtain ⟨cells', g1, g2, g3, g4⟩ := fill_ok (place := fun i => some (i * s, s)) _ l _ ((Array.range (len * z.cells.size)).map (z.cells[· % z.cells.size]!)) hF (by rw [hzl2]; exact rep_vals h1 len) (by rw [hzl2]; exact hzero) h
  have hrl : r.length = len * s := by rw [← VVals_length g2, Array.length_toList, g4]; simp [hzsz]
  obtain ⟨f1, f2⟩ := chunks_flatten s hs len r hrl
  obtain ⟨c2, a1, a2, a3, a4, a5⟩ := made_row hsr (hf.head (by omega)) (E := E) (s := s) (n := len) (o := ob) (cells := cells') rfl hob (by simp) f2 (by
    have : len ≤ len * s := Nat.le_mul_of_pos_right _ hs
    simp only [maxLen]; omega) (by rw [f1]; exact g2) g3
  refine ⟨_, _, c2, ?_, .inl rfl, a2, a3, a4, a5⟩
  have hpp : ((ps.map fun (i, x) => (i, ρc x)) : Array (Nat × Value)).toList = ps.toList.map fun p => (p.1, ρc p.2) := by simp
  by_cases hlen : len = 0
  · subst hlen
    have hzz : ((Array.range (0 * z.cells.size)).map (z.cells[· % z.cells.size]!)) = #[] := by simp
    rw [hzz] at g1
    have hzz2 : ∀ q : Array Value, ((Array.range (0 * s)).map (q[· % q.size]!)) = #[] := by intro q; simp
    simp only [execOp, ho, Instr.buildSlice, Sem.run_bind, run_underlying hu, Result.andThen_ok, run_sizeOf hsz, hpp]
    have e0 : Array.range 0 = #[] := rfl
    simp [hzz2, g1, Go.newRow, a1, e0]
  · have hne : ¬ len * s = 0 := by
      intro h0
      rcases Nat.mul_eq_zero.1 h0 with h0 | h0 <;> omega
    rw [hzsz] at g1
    simp only [execOp, ho, Instr.buildSlice, Sem.run_bind, run_underlying hu, Result.andThen_ok, run_sizeOf hsz, hpp]
    simp [show ¬ len * s > 16777216 by omega, hlen, show ¬ s = 0 by omega, hzr, hzsz, g1, Go.newRow, a1]
    intro h0
    exact absurd h0 hne

theorem op_mks {o : Oper} {t E : TypeId} {s bytes : Nat} {l cp : Operand} {k1 k2 : IntKind} {a : Int} {zs : List V} {ob : Ob} {n : Nat} (hf : c.Fr n (n + 1)) (hsr : SR c) (ho : o.op = .makeSlice t l cp) (ht : slT P t = some (E, s)) (hby : byT P E = some bytes) (hz : zeroCells P E = some zs) (hs : 0 < s) (hzl : zs.length = s)
    (hl : ρc l = .int k1 a) (hc : ρc cp = .int k2 a) (h0 : 0 ≤ a) (hroom : a * bytes ≤ 140737488355328) (hfit : a ≤ 4611686018427387904) (hob : rowEs ob = some (true, E, s, List.replicate a.toNat zs)) :
    OpOK P ρc o c (upd c.S n (some ob)) n (n + 1) (.own n s a.toNat) := by
  obtain ⟨hu, hsz⟩ := slT_some ht
  obtain ⟨i, z, hi, hz', h1, h2, h3⟩ := zero_ok c hz
  have hib : i.bytes = bytes := by simp [byT, hi] at hby; exact hby
  have his : i.size = s := by simp [szT, hi] at hsz; exact hsz
  have hr := run_make (P := P) c.w t E i z hu hi hz' k1 k2 a a h0 (Int.le_refl _) (by rw [hib, Int.mul_comm]; omega) (by omega)
  have hzsz : z.cells.size = s := by omega
  have hml : (madeCells z.cells (a.toNat * i.size)).toList = (List.replicate a.toNat z.cells.toList).flatten := by
    rw [his, ← hzsz]
    exact zeros_list z.cells a.toNat (by omega)
  obtain ⟨c2, a1, a2, a3, a4, a5⟩ := made_row hsr (hf.head (by omega)) (E := E) (s := s) (n := a.toNat) (o := ob) (cells := madeCells z.cells (a.toNat * i.size)) rfl hob (by simp) (by simp [hzl]) (by simp only [maxLen]; omega)
    (by rw [hml]; exact rep_vals h1 _) (by
      rw [hml]
      intro u hu
      simp only [List.mem_flatten, List.mem_replicate] at hu
      obtain ⟨q, ⟨_, rfl⟩, hq⟩ := hu
      exact h2 u hq)
  refine ⟨_, _, c2, ?_, .inl rfl, a2, a3, a4, a5⟩
  simp [execOp, ho, hl, hc, hr, a1]

/-! ### maps -/
theorem ba_eq (a b : ByteArray) (h : (a == b) = true) : a = b := by
  have h' : (a.data == b.data) = true := h
  have : a.data = b.data := by simpa using h'
  cases a; cases b; simp_all
theorem ba_refl (a : ByteArray) : (a == a) = true := by
  show (a.data == a.data) = true
  simp

theorem kind_eq {kt : TypeId} {x y : D} {b : Bool} {u v : Value} {w : World} {fb : Forb} (h : eqK (kindT P kt) x y = some b) (hx : DRep w fb x u) (hy : DRep w fb y v) :
    ∃ d, P.underlying kt = some d ∧ Instr.sameNow d u v = some b ∧ (b = true → ∀ n, Instr.sameBits n v u = true) := by
  unfold eqK at h
  split at h
  · split at h
    · rename_i a b' hk
      simp at h; subst h
      simp only [DRep] at hx hy; subst hx hy
      unfold kindT at hk
      split at hk <;> simp at hk
      rename_i hu
      exact ⟨_, hu, rfl, fun hb n => by simp at hb; subst hb; cases n <;> simp [Instr.sameBits]⟩
    · cases h
  · split at h
    · rename_i j a j' b' hk
      obtain ⟨hk, rfl⟩ := hk
      simp at h; subst h
      simp only [DRep] at hx hy; subst hx hy
      unfold kindT at hk
      split at hk <;> simp at hk
      rename_i hu
      exact ⟨_, hu, by simp [Instr.sameNow], fun hb n => by simp at hb; subst hb; cases n <;> simp [Instr.sameBits]⟩
    · cases h
  · split at h
    · rename_i a b' hk
      simp at h; subst h
      simp only [DRep] at hx hy; subst hx hy
      unfold kindT at hk
      split at hk <;> simp at hk
      rename_i hu
      exact ⟨_, hu, rfl, fun hb n => by
        have := ba_eq a b' hb
        subst this
        cases n <;> exact ba_refl a⟩
    · cases h
  · cases h

theorem find_ok {kt : TypeId} {x : D} {u : Value} {d : TypeDesc} (hd : P.underlying kt = some d) (hx : DRep c.w c.fb x u) : ∀ (ents : List (D × V)) (es : List MapEntry) (i : Nat) {r : Option V}, MapR c ents es → lookupE (kindT P kt) x ents = some r →
    (r = none ∧ Instr.findNow d u es i = some none) ∨ (∃ v e j, r = some v ∧ es[j]? = some e ∧ Instr.findNow d u es i = some (some (i + j, e.val)) ∧ VRep c v e.val)
  | [], es, i, r, hm, h => by
    simp only [MapR] at hm
    subst hm
    simp [lookupE] at h
    exact .inl ⟨h.symm, rfl⟩
  | (k, v) :: rest, es, i, r, hm, h => by
    simp only [MapR] at hm
    obtain ⟨e, q, rfl, h1, h2, h3⟩ := hm
    simp only [lookupE] at h
    split at h
    · rename_i hk
      obtain ⟨d', hd', hs, _⟩ := kind_eq hk hx h1
      rw [hd] at hd'
      cases hd'
      simp at h
      exact .inr ⟨v, e, 0, h.symm, rfl, by simp [Instr.findNow, hs], h2⟩
    · rename_i hk
      obtain ⟨d', hd', hs, _⟩ := kind_eq hk hx h1
      rw [hd] at hd'
      cases hd'
      rcases find_ok hd hx rest q (i + 1) h3 h with ⟨hr, hf⟩ | ⟨v', e', j, hr, hj, hf, hv⟩
      · exact .inl ⟨hr, by simp [Instr.findNow, hs, hf]⟩
      · exact .inr ⟨v', e', j + 1, hr, by simpa using hj, by simp [Instr.findNow, hs, hf]; omega, hv⟩
    · cases h

theorem mp_valid {k : Nat} {v : Value} {ents : List (D × V)} (h : VRep c (.mp k) v) (hk : c.S k = some (.map ents)) : v = c.σ k := by
  simp only [VRep] at h
  rcases h.1 with ⟨e, h1, h2⟩ | ⟨_, h1⟩
  · exact h2
  · rw [hk] at h1; cases h1

theorem checkKey_kind {kt : TypeId} {u : Value} (hk : kindT P kt ≠ 3) (hu : (∃ b, u = .bool b) ∨ (∃ k n, u = .int k n) ∨ ∃ s, u = .string s) (b : Bool) (w : World) : (Instr.checkKey b 10000 kt u).run P w = .ok () w := by
  show (Instr.checkKey b (9999 + 1) kt u).run P w = _
  generalize 9999 = n
  unfold kindT at hk
  split at hk
  · rename_i h; rcases hu with ⟨_, rfl⟩ | ⟨_, _, rfl⟩ | ⟨_, rfl⟩ <;> simp [Instr.checkKey, run_underlying h]
  · rename_i h; rcases hu with ⟨_, rfl⟩ | ⟨_, _, rfl⟩ | ⟨_, rfl⟩ <;> simp [Instr.checkKey, run_underlying h]
  · rename_i h; rcases hu with ⟨_, rfl⟩ | ⟨_, _, rfl⟩ | ⟨_, rfl⟩ <;> simp [Instr.checkKey, run_underlying h]
  · exact absurd rfl hk

theorem zeroV_ok (c : Cx) {t : TypeId} {z : V} (h : zeroV P t = some z) : ∃ v, (∀ w, (zeroValue t).run P w = .ok v w) ∧ VRep c z v := by
  unfold zeroV at h
  split at h
  · rename_i i hi
    split at h
    · rename_i a ha
      simp only [Option.map_eq_some_iff] at h
      obtain ⟨cs, hz, rfl⟩ := h
      obtain ⟨i', v, hi', hv, h1, h2, h3⟩ := zero_ok c hz
      rw [hi] at hi'
      cases hi'
      rw [ha] at hv
      cases hv
      refine ⟨.agg a, fun w => by simp [zeroValue, typeInfo, hi, ha], ?_⟩
      have := mkAgg_ok h1 h2
      simpa [Value.cells] using this
    · cases h
    · rename_i v hne1 hne2 ha
      split at h
      · rename_i x hz
        simp at h
        subst h
        obtain ⟨i', v', hi', hv, h1, h2, h3⟩ := zero_ok c hz
        rw [hi] at hi'
        cases hi'
        rw [ha] at hv
        cases hv
        refine ⟨v, fun w => by simp [zeroValue, typeInfo, hi, ha], ?_⟩
        simp only [VVals] at h1
        obtain ⟨u, r, hu, hr, rfl⟩ := h1
        have : v.cells = #[v] := by
          cases v <;> first | rfl | exact absurd rfl (hne1 _)
        rw [this] at hu
        simp at hu
        subst hu
        exact hr
      · cases h
    · cases h
  · cases h

theorem lookupE_kind {kk : Nat} {x : D} {k : D} {v : V} {r : List (D × V)} {q : Option V} (h : lookupE kk x ((k, v) :: r) = some q) : ∃ b, eqK kk x k = some b := by
  simp only [lookupE] at h
  split at h
  · exact ⟨_, by assumption⟩
  · exact ⟨_, by assumption⟩
  · cases h

theorem scalar_key {x : D} {u : Value} {w : World} {fb : Forb} (hx : DRep w fb x u) (hs : (∃ b, x = .bool b) ∨ (∃ k n, x = .int k n) ∨ ∃ s, x = .str s) : (∃ b, u = .bool b) ∨ (∃ k n, u = .int k n) ∨ ∃ s, u = .string s := by
  rcases hs with ⟨b, rfl⟩ | ⟨k, n, rfl⟩ | ⟨s, rfl⟩ <;> simp only [DRep] at hx <;> subst hx <;> simp

theorem op_lkp {o : Oper} {t kt E : TypeId} {m k : Operand} {ok : Bool} {z : V} {i : Nat} {x : D} {ents : List (D × V)} {r : Option V} (hsr : SR c) (ho : o.op = .lookup t m k ok) (hu : P.underlying t = some (.map kt E)) (hkk : kindT P kt ≠ 3) (hz : zeroV P E = some z)
    (hm : VRep c (.mp i) (ρc m)) (hx : VRep c (.d x) (ρc k)) (hs : (∃ b, x = .bool b) ∨ (∃ k n, x = .int k n) ∨ ∃ s, x = .str s) (hk : c.S i = some (.map ents)) (h : lookupE (kindT P kt) x ents = some r) :
    OpOK P ρc o c c.S n0 n0 (match r with | some v => if ok then .tup [v, .d (.bool true)] else v | none => if ok then .tup [z, .d (.bool false)] else z) := by
  have hmv := mp_valid hm hk
  obtain ⟨b, es, cl, h1, h2, h3⟩ := hsr.ob i _ hk
  simp only [VRep] at hx
  have hck := checkKey_kind (P := P) hkk (scalar_key hx hs) es.isEmpty c.w
  obtain ⟨zv, hzr, hzv⟩ := zeroV_ok c hz
  obtain ⟨d, hd⟩ : ∃ d, P.underlying kt = some d := by
    cases hq : P.underlying kt with
    | none => exact absurd (by simp [kindT, hq]) hkk
    | some d => exact ⟨d, rfl⟩
  have hget : (getObj b).run P c.w = .ok (.map es cl) c.w := MapKept.run_getObj_map h2
  rcases find_ok hd hx ents es.toList 0 h3 h with ⟨rfl, hf⟩ | ⟨v, e, j, rfl, hj, hf, hv⟩
  · refine OpOK.pure hsr (vc := if ok then .tuple #[zv, .bool false] else zv) ?_ ?_
    · simp [execOp, ho, hmv, h1, Instr.lookup, run_underlying hu, hget, hck, Instr.findKey, run_underlying hd, hf, hzr]
    · cases ok
      · simpa using hzv
      · simp only [VRep, VVals]; exact ⟨[zv, .bool false], rfl, zv, _, rfl, hzv, .bool false, [], rfl, by simp [VRep, DRep], rfl⟩
  · refine OpOK.pure hsr (vc := if ok then .tuple #[e.val, .bool true] else e.val) ?_ ?_
    · simp [execOp, ho, hmv, h1, Instr.lookup, run_underlying hu, hget, hck, Instr.findKey, run_underlying hd, hf]
    · cases ok
      · simpa using hv
      · simp only [VRep, VVals]; exact ⟨[e.val, .bool true], rfl, e.val, _, rfl, hv, .bool true, [], rfl, by simp [VRep, DRep], rfl⟩

theorem update_ok {kt : TypeId} {x : D} {u uv : Value} {v : V} {d : TypeDesc} (hd : P.underlying kt = some d) (hx : DRep c.w c.fb x u) : ∀ (ents : List (D × V)) (es : List MapEntry) (i : Nat) {ents' : List (D × V)}, MapR c ents es → updateE (kindT P kt) x v ents = some ents' →
    (Instr.findNow d u es i = some none ∧ ∀ c', Pres c c' → VRep c' v uv → ∀ n, MapR c' ents' (es ++ [⟨u, uv, n⟩])) ∨
    (∃ e j, es[j]? = some e ∧ Instr.findNow d u es i = some (some (i + j, e.val)) ∧ (∀ n, Instr.sameBits n e.key u = true) ∧ ∀ c', Pres c c' → VRep c' v uv → MapR c' ents' (es.modify j fun e => { e with key := u, val := uv }))
  | [], es, i, ents', hm, h => by
    simp only [MapR] at hm
    subst hm
    simp [updateE] at h
    subst h
    refine .inl ⟨rfl, fun c' hp hv n => ?_⟩
    simp only [List.nil_append, MapR]
    exact ⟨_, [], rfl, DRep.keep hp.keeps _ _ hx, hv, rfl⟩
  | (k, v0) :: rest, es, i, ents', hm, h => by
    simp only [MapR] at hm
    obtain ⟨e, q, rfl, h1, h2, h3⟩ := hm
    simp only [updateE] at h
    split at h
    · rename_i hk
      obtain ⟨d', hd', hs, hb⟩ := kind_eq hk hx h1
      rw [hd] at hd'
      cases hd'
      simp at h
      subst h
      refine .inr ⟨e, 0, rfl, by simp [Instr.findNow, hs], hb rfl, fun c' hp hv => ?_⟩
      simp only [List.modify_zero_cons, MapR]
      exact ⟨_, q, rfl, DRep.keep hp.keeps _ _ hx, hv, MapR.keep hp _ _ h3⟩
    · rename_i hk
      obtain ⟨d', hd', hs, _⟩ := kind_eq hk hx h1
      rw [hd] at hd'
      cases hd'
      simp only [Option.map_eq_some_iff] at h
      obtain ⟨r', hr', rfl⟩ := h
      rcases update_ok hd hx rest q (i + 1) h3 hr' with ⟨hf, hg⟩ | ⟨e', j, hj, hf, hb, hg⟩
      · refine .inl ⟨by simp [Instr.findNow, hs, hf], fun c' hp hv n => ?_⟩
        simp only [List.cons_append, MapR]
        exact ⟨e, _, rfl, DRep.keep hp.keeps _ _ h1, VRep.keep hp _ _ h2, hg c' hp hv n⟩
      · refine .inr ⟨e', j + 1, by simpa using hj, by simp [Instr.findNow, hs, hf]; omega, hb, fun c' hp hv => ?_⟩
        simp only [List.modify_succ_cons, MapR]
        exact ⟨e, _, rfl, DRep.keep hp.keeps _ _ h1, VRep.keep hp _ _ h2, hg c' hp hv⟩
    · cases h

theorem op_mup {o : Oper} {t kt E : TypeId} {m k v : Operand} {i : Nat} {x : D} {xv : V} {ents ents' : List (D × V)} (hsr : SR c) (ho : o.op = .mapUpdate t m k v) (hu : P.underlying t = some (.map kt E)) (hkk : kindT P kt ≠ 3)
    (hm : VRep c (.mp i) (ρc m)) (hx : VRep c (.d x) (ρc k)) (hs : (∃ b, x = .bool b) ∨ (∃ k n, x = .int k n) ∨ ∃ s, x = .str s) (hv : VRep c xv (ρc v)) (hk : c.S i = some (.map ents)) (h : updateE (kindT P kt) x xv ents = some ents') :
    OpOK P ρc o c (upd c.S i (some (.map ents'))) n0 n0 .junk := by
  have hmv := mp_valid hm hk
  obtain ⟨b, es, cl, h1, h2, h3⟩ := hsr.ob i _ hk
  simp only [VRep] at hx
  have hck := checkKey_kind (P := P) hkk (scalar_key hx hs) false c.w
  obtain ⟨d, hd⟩ : ∃ d, P.underlying kt = some d := by
    cases hq : P.underlying kt with
    | none => exact absurd (by simp [kindT, hq]) hkk
    | some d => exact ⟨d, rfl⟩
  have hget : (getObj b).run P c.w = .ok (.map es cl) c.w := MapKept.run_getObj_map h2
  have hset : ∀ ob : Obj, (setObj b ob).run P c.w = .ok () { c.w with heap := c.w.heap.setIfInBounds b ob } := fun ob => MapKept.run_setObj_map ob h2
  have hlt : b < c.w.heap.size := (Array.getElem?_eq_some_iff.1 h2).1
  have hg : ∀ ob : Obj, c.w.grownBy { c.w with heap := c.w.heap.setIfInBounds b ob } (some b) := fun ob => ⟨rfl, rfl, rfl, by simp, fun q hq hne => by
    have : b ≠ q := fun e => hne (by rw [e])
    simp [Array.getElem?_setIfInBounds_ne this]⟩
  have hnew : ∀ ob : Obj, ({ c.w with heap := c.w.heap.setIfInBounds b ob } : World).heap[b]? = some ob := fun ob => by simp [hlt]
  have fin : ∀ (es' : Array MapEntry) (cl' : Nat), (∀ c', Pres c c' → VRep c' xv (ρc v) → MapR c' ents' es'.toList) → (execOp ρc o).run P c.w = .ok .skip { c.w with heap := c.w.heap.setIfInBounds b (.map es' cl') } → OpOK P ρc o c (upd c.S i (some (.map ents'))) n0 n0 .junk := by
    intro es' cl' hmr hrun
    obtain ⟨g1, g2⟩ := put_map hsr hk (ents' := ents') h1 (hg (.map es' cl')) (fun c' hp _ => ⟨es', cl', hnew _, hmr c' hp (VRep.keep hp _ _ hv)⟩)
    refine ⟨.skip, undef, _, hrun, .inr ⟨rfl, rfl⟩, ⟨g1, g2, ⟨rfl, rfl, rfl, by simp [Cx.put], fun q hq hn => ?_⟩, fun q hq => ?_, rfl⟩, rfl, Gave.put _ _ _ _ _, by simp [VRep]⟩
    · refine (hg (.map es' cl')).block q hq fun e => hn ?_
      simp at e
      subst e
      exact ⟨i, _, hk, rfl, by rw [h1]; rfl⟩
    · rcases Cx.put_M hq with ⟨k', o2, _, h2', hm2, hk2⟩ | ⟨_, hv2⟩
      · exact .inl ⟨k', o2, h2', hm2, hk2⟩
      · exact .inl ⟨i, _, hk, rfl, hv2⟩
  rcases update_ok (uv := ρc v) hd hx ents es.toList 0 h3 h with ⟨hf, hgd⟩ | ⟨e, j, hj, hf, hb, hgd⟩
  · refine fin (es.push ⟨ρc k, ρc v, cl⟩) (cl + 1) (fun c' hp hv' => by rw [Array.toList_push]; exact hgd c' hp hv' cl) ?_
    simp [execOp, ho, hmv, h1, Instr.mapUpdate, run_underlying hu, hget, hck, Instr.findKey, run_underlying hd, hf, hset]
  · have hje : es[j]? = some e := by simpa using hj
    refine fin (es.modify j fun e => { e with key := ρc k, val := ρc v }) cl (fun c' hp hv' => by rw [Array.toList_modify]; exact hgd c' hp hv') ?_
    simp [execOp, ho, hmv, h1, Instr.mapUpdate, run_underlying hu, hget, hck, Instr.findKey, run_underlying hd, hf, hset, hje, Instr.keyThatStays, hb]

theorem op_mkmap {o : Oper} {t : TypeId} {n : Nat} (hf : c.Fr n (n + 1)) (hsr : SR c) (ho : o.op = .makeMap t none) : OpOK P ρc o c (upd c.S n (some (.map []))) n (n + 1) (.mp n) := by
  have hext : Ext (fun _ => False) c.w (c.w.alloc (.map #[] 0)) := Ext.alloc _ _ _
  have hb : ∀ b, blkOf (.map (some c.w.heap.size)) = some b → c.w.heap.size ≤ b := by simp [blkOf]
  have hq := hf.head (by omega)
  have hp := Cx.add_pres hsr hext hq (o := .map []) hb
  have hs := Cx.add_sr hsr hext hq (o := .map []) hb ⟨c.w.heap.size, #[], 0, by simp [Cx.add, upd_same], by simp only [Cx.add]; exact Go.heap_alloc_new _ _, by simp [MapR]⟩
  refine ⟨.value (.map (some c.w.heap.size)), _, _, ?_, .inl rfl, Go1_add hext hb hs hp, rfl, Gave.add _ _ _ _, ?_⟩
  · simp [execOp, ho, Instr.makeMap, Cx.add]
  · simp only [VRep]
    exact ⟨.inl ⟨[], by simp [Cx.add, upd_same], by simp [Cx.add, upd_same]⟩, _, rfl⟩

end
end Go.R

namespace Go.R
section
variable {P : Program} {c : Cx} {n0 : Nat} {ρ : Opd → V} {ρc : Operand → Value}

theorem run_append_zero {t ty E : TypeId} {s : Nat} {w : World} {v : Value} {N : Nat} {flat : List Value} (hu : P.underlying t = some (.slice E)) (hsz : szT P E = some s) (h : w.ownsRow 0 E s v N flat) (A : Option Addr) (q : Nat) :
    (Builtin.append_ #[t, t] ty #[v, .slice A 0 q]).run P w = .ok v w := by
  obtain ⟨i, hi, his⟩ : ∃ i, P.info? E = some i ∧ i.size = s := by simpa [szT] using hsz
  rcases h.2 with ⟨rfl, rfl⟩ | ⟨g, cap, cur, rfl, _, _, hnc, _⟩
  · cases A <;> simp [Builtin.append_, run_underlying hu, sizeOf, typeInfo, hi, Builtin.lenOf, Builtin.firstCells, loadCells, loadCellsFrom]
  · cases A <;> simp [Builtin.append_, run_underlying hu, sizeOf, typeInfo, hi, Builtin.lenOf, Builtin.firstCells, loadCells, loadCellsFrom, hnc, storeCells]

theorem DRows_vals {w : World} {fb : Forb} {b s : Nat} {c' : Cx} (hw : c'.w = w) (hfb : c'.fb = fb) : ∀ {es : List (List D)} {o : Nat}, DRows w fb b s es o → ∃ vs : List Value, DVals w fb es.flatten vs ∧ (∀ u ∈ vs, u.oneCell' = true) ∧ (∀ j v, vs[j]? = some v → w.cell? ⟨b, o + j, none⟩ = some v) ∧ (∀ e ∈ es, e.length = s) ∧ vs.length = es.length * s
  | [], o, _ => ⟨[], by simp [DVals], by simp, by simp, by simp, by simp⟩
  | e :: es, o, h => by
    simp only [DRows] at h
    obtain ⟨hl, hc, hr⟩ := h
    obtain ⟨vs, g1, g2, g3⟩ := DCells_vals hc
    obtain ⟨us, f1, f2, f3, f4, f5⟩ := DRows_vals hw hfb hr
    have hvl : vs.length = s := by rw [DVals_length g1, hl]
    refine ⟨vs ++ us, ?_, ?_, ?_, ?_, ?_⟩
    · subst hw hfb
      have := VVals_append ((DVals_map _ _).2 g1) ((DVals_map _ _).2 f1)
      rw [← List.map_append] at this
      exact (DVals_map _ _).1 this
    · intro u hu
      rcases List.mem_append.1 hu with hu | hu
      · exact g2 u hu
      · exact f2 u hu
    · intro j v hj
      by_cases hlt : j < vs.length
      · rw [List.getElem?_append_left hlt] at hj
        exact g3 j v hj
      · rw [List.getElem?_append_right (by omega)] at hj
        have := f3 _ v hj
        rwa [show o + s + (j - vs.length) = o + j by omega] at this
    · intro x hx
      rcases List.mem_cons.1 hx with rfl | hx
      · exact hl
      · exact f4 x hx
    · simp only [List.length_append, f5, hvl, List.length_cons, Nat.add_mul]
      omega

/-- What is appended: a slice value, the cells that it leads to. -/
theorem app_src (hsr : SR c) {s : Nat} {y : V} {u : Value} {os : List Ob} {ys : List (List V)} (hy : VRep c y u) (hos : mapO c.S (idsApp y) = some os) (h : appEs s y os = some ys) :
    ∃ A q, u = .slice A ys.length q ∧ (ys ≠ [] → (∀ e ∈ ys, e.length = s)) ∧ (ys ≠ [] → ∃ b o news, A = some ⟨b, o, none⟩ ∧ VVals c ys.flatten news ∧ (∀ x ∈ news, x.oneCell' = true) ∧ news.length = ys.length * s ∧ ∀ j v, news[j]? = some v → c.w.cell? ⟨b, o + j, none⟩ = some v) := by
  unfold appEs at h
  split at h
  · rename_i os' g s' es
    simp only [VRep, DRep] at hy
    obtain ⟨A, q, hu, _, hr⟩ := hy
    split at h
    · rename_i hc
      simp at h
      subst h
      refine ⟨A, q, by simpa using hu, fun hne e he => ?_, fun hne => ?_⟩
      · have hne' : es ≠ [] := by rintro rfl; simp at hne
        obtain ⟨b, o, _, _, _, hrow⟩ := hr hne'
        obtain ⟨vs, f1, f2, f3, f4, f5⟩ := DRows_vals (c' := c) rfl rfl hrow
        obtain ⟨a, ha, rfl⟩ := List.mem_map.1 he
        rw [List.length_map, f4 a ha]
        exact hc.resolve_right hne'
      · have hne' : es ≠ [] := by rintro rfl; simp at hne
        obtain ⟨b, o, ha, _, _, hrow⟩ := hr hne'
        obtain ⟨vs, f1, f2, f3, f4, f5⟩ := DRows_vals (c' := c) rfl rfl hrow
        refine ⟨b, o, vs, ha, by rw [flatten_mapD]; exact (DVals_map _ _).2 f1, f2, ?_, f3⟩
        rw [f5, List.length_map, hc.resolve_right hne']
    · cases h
  · simp at h
    subst h
    simp only [VRep] at hy
    exact ⟨none, 0, hy, by simp, by simp⟩
  · rename_i k s' N o
    simp only [idsApp, mapO] at hos
    have hk : c.S k = some o := by
      cases hq : c.S k with
      | none => simp [hq] at hos
      | some o' => simp [hq] at hos; rw [hos]
    split at h
    · rename_i m E s2 es hr
      split at h
      · rename_i hc
        obtain ⟨rfl, hN⟩ := hc
        simp at h
        subst h
        simp only [VRep] at hy
        obtain ⟨hy, A, q, hu, hsh⟩ := hy
        have hσ : c.σ k = u := by
          rcases hy with ⟨o', m', E', es', h1, h2, h3, h4⟩ | ⟨_, hd | ⟨o', m', E', s', es', h1, h2, h3⟩⟩
          · exact h4.symm
          · rw [hk] at hd; cases hd
          · rw [hk] at h1; cases h1; rw [hr] at h2; cases h2; omega
        refine ⟨A, q, by rw [hu, hN], fun hne => ?_, fun hne => ?_⟩
        · cases m with
          | true =>
            obtain ⟨flat, f1, f2, f3, f4⟩ := (obOK_row hr).1 (hsr.ob k o hk)
            exact f2
          | false =>
            obtain ⟨ds, rfl, rfl, h1, h2⟩ := rowEs_frozen hr (hsr.ob k o hk)
            intro e he
            obtain ⟨a, ha, rfl⟩ := List.mem_map.1 he
            rw [List.length_map]; exact h2 a ha
        · have hpos : 0 < N := by
            rw [← hN]
            exact List.length_pos_iff.2 hne
          obtain ⟨b, o', rfl⟩ := hsh hpos
          cases m with
          | true =>
            obtain ⟨flat, f1, f2, f3, f4⟩ := (obOK_row hr).1 (hsr.ob k o hk)
            have f1' := f1
            rw [hσ, hu, ← hN] at f1'
            have hq0 : o' = 0 := by
              rcases f1'.2 with ⟨h, _⟩ | ⟨g', cap', cur, h, _⟩
              · cases h
              · simp at h; exact h.1.2
            subst hq0
            refine ⟨b, 0, flat, rfl, f3, f4, f1.1, fun j v hj => ?_⟩
            have := f1'.cells (g := b) rfl j v hj
            rwa [add_eq] at this
          | false =>
            obtain ⟨ds, rfl, rfl, h1, h2⟩ := rowEs_frozen hr (hsr.ob k o hk)
            rw [hσ, hu] at h1
            simp only [DRep] at h1
            obtain ⟨A', c', hv, _, hrow⟩ := h1
            simp at hv
            obtain ⟨rfl, _, rfl⟩ := hv
            obtain ⟨b', o2, ha, _, _, hrows⟩ := hrow (by rintro rfl; simp at hne)
            simp at ha
            obtain ⟨rfl, rfl⟩ := ha
            obtain ⟨vs, g1, g2, g3, g4, g5⟩ := DRows_vals (c' := c) rfl rfl hrows
            refine ⟨b, o', vs, rfl, by rw [flatten_mapD]; exact (DVals_map _ _).2 g1, g2, by rw [g5, List.length_map], g3⟩
      · cases h
    · cases h
  · cases h

theorem appDs_ok {s : Nat} {y : V} {os : List Ob} {ys : List (List V)} {l : List (List D)} (h : appEs s y os = some ys) (hl : appDs y os = some l) : ys = l.map (·.map V.d) := by
  unfold appDs at hl
  split at hl
  · simp at hl; subst hl
    simp only [appEs] at h
    split at h
    · simp at h; exact h.symm
    · cases h
  · simp at hl; subst hl
    simp [appEs] at h; simp [h]
  · simp at hl; subst hl
    simp only [appEs, rowEs] at h
    split at h
    · simp at h; exact h.symm
    · cases h
  · cases hl

theorem op_app_nil {o : Oper} {cl : Call} {t E : TypeId} {s bytes : Nat} {x y : Operand} {yv : V} {os : List Ob} {ys : List (List V)} {n : Nat} (hf : c.Fr n (n + 1)) (hsr : SR c) (ho : o.op = .call cl) (hcal : cl.callee = .builtin .append) (hargs : cl.args.toList = [x, y]) (hty : cl.argTypes.toList = [t, t])
    (ht : slT P t = some (E, s)) (hby : byT P E = some bytes) (hs : 0 < s) (hb0 : 0 < bytes) (hzero : ∃ i z, P.info? E = some i ∧ i.zero = some z ∧ z.cells.size = s)
    (hx : ρc x = .slice none 0 0) (hy : VRep c yv (ρc y)) (hos : mapO c.S (idsApp yv) = some os) (h : appEs s yv os = some ys) (hroom : ys.length * bytes ≤ roomB) :
    OpOK P ρc o c (upd c.S n (some (newRow E s ys (appDs yv os)))) n (n + 1) (.own n s ys.length) := by
  obtain ⟨hu, hsz⟩ := slT_some ht
  have ha : cl.args = #[x, y] := by rw [← Array.toArray_toList (xs := cl.args), hargs]
  have hta : cl.argTypes = #[t, t] := by rw [← Array.toArray_toList (xs := cl.argTypes), hty]
  obtain ⟨i, z, hi, hz, hzs⟩ := hzero
  have his : i.size = s := by simp [szT, hi] at hsz; exact hsz
  have hib : i.bytes = bytes := by simp [byT, hi] at hby; exact hby
  obtain ⟨A, q, hyv, hlens, hsrc⟩ := app_src hsr hy hos h
  have hrow : rowEs (newRow E s ys (appDs yv os)) = some (true, E, s, ys) := by
    unfold newRow
    split
    · rename_i l hl
      rw [appDs_ok h hl]; rfl
    · rfl
  by_cases hne : ys = []
  · subst hne
    have hr := run_append_zero (P := P) (ty := o.type) hu hsz (World.ownsRow_nil c.w 0 E s) A q
    obtain ⟨h2, h3⟩ := add_row hsr (w' := c.w) (Ext.refl _ _) (hf.head (by omega)) hrow (v := .slice none 0 0) (flat := []) (by simp [blkOf]) (World.ownsRow_nil _ _ _ _) (by simp) (by simp [VVals]) (by simp)
    refine ⟨.value (.slice none 0 0), _, _, ?_, .inl rfl, Go1_add (Ext.refl _ _) (by simp [blkOf]) h2 h3, rfl, Gave.add _ _ _ _, ?_⟩
    · simp only [List.length_nil] at hyv
      simp [execOp, ho, resolve, hcal, ha, hta, invoke, builtin, hx, hyv, hr, Cx.add]
    · simp only [VRep]
      exact ⟨.inl ⟨_, true, E, [], by simp [Cx.add, upd_same], hrow, rfl, by simp [Cx.add, upd_same]⟩, none, 0, rfl, by simp⟩
  · obtain ⟨b, o', news, rfl, hv, h1, hlen, hcells⟩ := hsrc hne
    have hnb : ys.length ≤ 140737488355328 := Nat.le_trans (Nat.le_mul_of_pos_right _ hb0) hroom
    obtain ⟨v', w', hr, hown, hg, hnil, hblk⟩ := run_append_own_at (P := P) c.w 0 t o.type E i z s bytes hu hi hz his hib hzs hs (.slice none 0 0) 0 [] (World.ownsRow_nil _ _ _ _) ⟨b, o', none⟩ ys.length q news (by simpa using hlen) (fun j u hj => by rw [add_eq]; exact hcells j u hj) h1 (by simp only [maxLen]; omega) (by simpa [roomB] using hroom) (Nat.zero_le _)
    simp only [Nat.zero_add, List.nil_append] at hown
    have hb' : ∀ b, blkOf v' = some b → c.w.heap.size ≤ b := by
      intro b hb
      rcases hblk with h | h
      · simp [Value.ownBlock] at h
        exfalso
        rcases hown.2 with ⟨rfl, _⟩ | ⟨g, cap, cur, rfl, _⟩
        · simp [blkOf] at hb
        · simp at h
      · have := blkOf_ownBlock h
        rw [hb] at this
        simp at this
        omega
    have hext : Ext (fun _ => False) c.w w' := Ext.none (by simpa [Value.ownBlock] using hg)
    obtain ⟨h2, h3⟩ := add_row hsr hext (hf.head (by omega)) hrow hb' hown (hlens hne) hv h1
    refine ⟨.value v', _, _, ?_, .inl rfl, Go1_add hext hb' h2 h3, rfl, Gave.add _ _ _ _, ?_⟩
    · simp [execOp, ho, resolve, hcal, ha, hta, invoke, builtin, hx, hyv, hr, Cx.add]
    · simp only [VRep]
      refine ⟨.inl ⟨_, true, E, ys, by simp [Cx.add, upd_same], hrow, rfl, by simp [Cx.add, upd_same]⟩, ?_⟩
      rcases hown.2 with ⟨_, h0⟩ | ⟨g, cap, cur, rfl, _⟩
      · exact absurd (List.eq_nil_of_length_eq_zero h0) hne
      · exact ⟨_, _, rfl, fun _ => ⟨_, _, rfl⟩⟩

theorem op_app_own {o : Oper} {cl : Call} {t E : TypeId} {s bytes k N : Nat} {x y : Operand} {yv : V} {ob ob' : Ob} {os : List Ob} {ys : List (List V)} (hsr : SR c) (ho : o.op = .call cl) (hcal : cl.callee = .builtin .append) (hargs : cl.args.toList = [x, y]) (hty : cl.argTypes.toList = [t, t])
    (ht : slT P t = some (E, s)) (hby : byT P E = some bytes) (hs : 0 < s) (hb0 : 0 < bytes) (hzero : ∃ i z, P.info? E = some i ∧ i.zero = some z ∧ z.cells.size = s)
    (hx : VRep c (.own k s N) (ρc x)) (hk : c.S k = some ob) (hy : VRep c yv (ρc y)) (hos : mapO c.S (idsApp yv) = some os) (h : appEs s yv os = some ys) (hg : grown E s bytes N ys (appDs yv os) ob = some ob') :
    OpOK P ρc o c (upd c.S k (some ob')) n0 n0 (.own k s (N + ys.length)) := by
  obtain ⟨hu, hsz⟩ := slT_some ht
  have ha : cl.args = #[x, y] := by rw [← Array.toArray_toList (xs := cl.args), hargs]
  have hta : cl.argTypes = #[t, t] := by rw [← Array.toArray_toList (xs := cl.argTypes), hty]
  obtain ⟨i, z, hi, hz, hzs⟩ := hzero
  have his : i.size = s := by simp [szT, hi] at hsz; exact hsz
  have hib : i.bytes = bytes := by simp [byT, hi] at hby; exact hby
  obtain ⟨A, q, hyv, hlens, hsrc⟩ := app_src hsr hy hos h
  obtain ⟨es, hr, hN, hroom, hr'⟩ : ∃ es, rowEs ob = some (true, E, s, es) ∧ es.length = N ∧ (N + ys.length) * bytes ≤ roomB ∧ rowEs ob' = some (true, E, s, es ++ ys) := by
    unfold grown at hg
    split at hg
    · rename_i E' s' ds
      split at hg
      · rename_i hc
        obtain ⟨rfl, rfl, hl, hrm⟩ := hc
        refine ⟨ds.map (·.map V.d), rfl, by simpa using hl, hrm, ?_⟩
        split at hg
        · rename_i l hl'
          simp at hg
          subst hg
          rw [appDs_ok h hl']
          simp [rowEs]
        · simp at hg
          subst hg
          rfl
      · cases hg
    · rename_i E' s' es
      split at hg
      · rename_i hc
        obtain ⟨rfl, rfl, hl, hrm⟩ := hc
        simp at hg
        subst hg
        exact ⟨es, rfl, hl, hrm, rfl⟩
      · cases hg
    · cases hg
  obtain ⟨flat, f1, f2, f3, f4⟩ := (obOK_row hr).1 (hsr.ob k ob hk)
  have hσ : ρc x = c.σ k := by
    simp only [VRep] at hx
    rcases hx.1 with ⟨o', m', E', es', h1, h2, h3, h4⟩ | ⟨_, hd | ⟨o', m', E', s', es', h1, h2, h3⟩⟩
    · exact h4
    · rw [hk] at hd; cases hd
    · rw [hk] at h1; cases h1; rw [hr] at h2; cases h2; omega
  have hm := (rowEs_mut hr).1
  by_cases hne : ys = []
  · subst hne
    have hrun := run_append_zero (P := P) (ty := o.type) hu hsz f1 A q
    have hgr : c.w.grownBy c.w none := ⟨rfl, rfl, rfl, Nat.le_refl _, fun _ _ _ => rfl⟩
    obtain ⟨h2, h3⟩ := put_row hsr hk hr hr' hgr (fun b hb => by cases hb) (v := c.σ k) (flat := flat) (by simp) (fun _ => rfl) (fun b hb => .inr hb) (by simpa using f1) (by simpa using f2) (fun c' hp => by simpa using VVals.keep hp _ _ f3) f4
    refine ⟨.value (c.σ k), _, _, ?_, .inl rfl, ⟨h2, h3, Ext.refl _ _, fun b hb => ?_, rfl⟩, rfl, Gave.put _ _ _ _ _, ?_⟩
    · simp only [List.length_nil] at hyv
      simp [execOp, ho, resolve, hcal, ha, hta, invoke, builtin, hσ, hyv, hrun, Cx.put]
    · rcases Cx.put_M hb with ⟨k', o2, _, h2', hm2, hk2⟩ | ⟨_, hv2⟩
      · exact .inl ⟨k', o2, h2', hm2, hk2⟩
      · exact .inl ⟨k, ob, hk, hm, hv2⟩
    · simp only [VRep]
      refine ⟨.inl ⟨ob', true, E, es ++ [], by simp [Cx.put, upd_same], hr', by simp [hN], by simp [Cx.put, upd_same]⟩, ?_⟩
      simp only [VRep] at hx
      rw [hσ] at hx
      simpa using hx.2
  · obtain ⟨b, o', news, rfl, hv, h1, hlen, hcells⟩ := hsrc hne
    have hnb : N + ys.length ≤ 140737488355328 := Nat.le_trans (Nat.le_mul_of_pos_right _ hb0) hroom
    obtain ⟨v', w', hrun, hown, hg', hnil, hblk⟩ := run_append_own_at (P := P) c.w 0 t o.type E i z s bytes hu hi hz his hib hzs hs (c.σ k) es.length flat f1 ⟨b, o', none⟩ ys.length q news (by simpa using hlen) (fun j u hj => by rw [add_eq]; exact hcells j u hj) h1 (by rw [hN]; simp only [maxLen]; omega) (by rw [hN]; simpa [roomB] using hroom) (Nat.zero_le _)
    have hbo : ∀ q, (c.σ k).ownBlock = some q → blkOf (c.σ k) = some q := fun q hq => blkOf_ownBlock hq
    have hb' : ∀ b, blkOf v' = some b → c.w.heap.size ≤ b ∨ blkOf (c.σ k) = some b := by
      intro b hb
      have hvo : v'.ownBlock = some b := by
        rcases hown.2 with ⟨rfl, _⟩ | ⟨g, cap, cur, rfl, _⟩
        · simp [blkOf] at hb
        · simpa [blkOf, Value.ownBlock] using hb
      rcases hblk with h | h
      · exact .inr (hbo b (by rw [← h]; exact hvo))
      · rw [hvo] at h; simp at h; exact .inl (by omega)
    obtain ⟨h2, h3⟩ := put_row hsr hk hr hr' (w' := w') (row := (c.σ k).ownBlock) hg' (fun b hb => hbo b hb) (v := v') (flat := flat ++ news) (by simp) (fun he => by
        exfalso
        simp at he
        exact hne he) hb' (by simpa using hown) (fun e he => by
        rcases List.mem_append.1 he with he | he
        · exact f2 e he
        · exact hlens hne e he) (fun c' hp => by rw [List.flatten_append]; exact VVals_append (VVals.keep hp _ _ f3) (VVals.keep hp _ _ hv)) (fun u hu => by
        rcases List.mem_append.1 hu with hu | hu
        · exact f4 u hu
        · exact h1 u hu)
    refine ⟨.value v', _, _, ?_, .inl rfl, ⟨h2, h3, ⟨hg'.os, hg'.tape, hg'.output, hg'.size, fun b hb hn => hg'.block b hb fun e => hn ⟨k, ob, hk, hm, hbo b e.symm⟩⟩, fun b hb => ?_, rfl⟩, rfl, Gave.put _ _ _ _ _, ?_⟩
    · simp [execOp, ho, resolve, hcal, ha, hta, invoke, builtin, hσ, hyv, hrun, Cx.put]
    · rcases Cx.put_M hb with ⟨k', o2, _, h2', hm2, hk2⟩ | ⟨_, hv2⟩
      · exact .inl ⟨k', o2, h2', hm2, hk2⟩
      · rcases hb' b hv2 with hh | hh
        · exact .inr hh
        · exact .inl ⟨k, ob, hk, hm, hh⟩
    · simp only [VRep]
      refine ⟨.inl ⟨ob', true, E, es ++ ys, by simp [Cx.put, upd_same], hr', by simp [hN], by simp [Cx.put, upd_same]⟩, ?_⟩
      rcases hown.2 with ⟨_, h0⟩ | ⟨g, cap, cur, rfl, _⟩
      · exact absurd (List.eq_nil_of_length_eq_zero (by omega)) hne
      · exact ⟨_, _, by rw [hN], fun _ => ⟨_, _, rfl⟩⟩

end
end Go.R

namespace Go.R
section
variable {P : Program} {c : Cx} {T : Nat → V} {a : Act} {n : Nat}

theorem evs_ok (hT : TRep c T a) {an : Nat × Nat} : ∀ {xs : List Operand} {ys : List Opd}, mapO (trOpd an) xs = some ys → VVals c (ys.map (ev T)) (xs.map a.eval)
  | [], ys, h => by simp [mapO] at h; subst h; simp [VVals]
  | x :: xs, ys, h => by
    simp only [mapO] at h
    split at h
    · rename_i y q hy hq
      simp at h
      subst h
      simp only [List.map_cons, VVals]
      exact ⟨_, _, rfl, ev_ok hT hy, evs_ok hT hq⟩
    · cases h

theorem mapO_one {S : Store} {k : Nat} {os : List Ob} (h : mapO S [k] = some os) : ∃ o, os = [o] ∧ S k = some o := by
  simp only [mapO] at h
  cases hk : S k with
  | none => simp [hk] at h
  | some o => simp [hk] at h; exact ⟨o, h.symm, rfl⟩

theorem fst_snd {α β γ : Type} {a a' : α} {b b' : β} {c c' : γ} (h : (a, b, c) = (a', b', c')) : a = a' ∧ b = b' ∧ c = c' := by cases h; exact ⟨rfl, rfl, rfl⟩

/-- A request that touches nothing. -/
theorem rqo_ok {o : Oper} {v0 : Option V} {r : Req} (h : rqo v0 = some r) {os os' news : List Ob} {v : V} (ho : mapO c.S r.ids = some os) (hact : r.act os = some (v, os', news))
    (hok : ∀ w, v0 = some w → OpOK P a.eval o c c.S n n w) : OpOK P a.eval o c (putNew (putAll c.S r.ids os') n news) n (n + news.length) v := by
  simp only [rqo, Option.map_eq_some_iff] at h
  obtain ⟨w, hw, rfl⟩ := h
  simp only [Option.some.injEq] at hact
  obtain ⟨rfl, rfl, rfl⟩ := fst_snd hact
  simpa [putAll, putNew] using hok w hw
theorem rq_ok {o : Oper} {v0 : V} {r : Req} (h : rq v0 = some r) {os os' news : List Ob} {v : V} (ho : mapO c.S r.ids = some os) (hact : r.act os = some (v, os', news))
    (hok : OpOK P a.eval o c c.S n n v0) : OpOK P a.eval o c (putNew (putAll c.S r.ids os') n news) n (n + news.length) v :=
  rqo_ok (v0 := some v0) (by simpa [rq, rqo] using h) ho hact fun w hw => by cases hw; exact hok
/-- A request that touches nothing, and makes something. -/
theorem rqn_ok {o : Oper} {v0 : V} {n1 : List Ob} {r : Req} (h : some ⟨[], fun _ => some (v0, [], n1)⟩ = some r) {os os' news : List Ob} {v : V} (hact : r.act os = some (v, os', news))
    (hf : c.Fr n (n + news.length)) (hok : c.Fr n (n + n1.length) → OpOK P a.eval o c (putNew c.S n n1) n (n + n1.length) v0) : OpOK P a.eval o c (putNew (putAll c.S r.ids os') n news) n (n + news.length) v := by
  simp only [Option.some.injEq] at h
  subst h
  simp only [Option.some.injEq] at hact
  obtain ⟨rfl, rfl, rfl⟩ := fst_snd hact
  simpa [putAll] using hok hf

theorem op_nilv' {o : Oper} {x : Operand} (hf : c.Fr n (n + 1)) (hsr : SR c) (ho : o.op = .move x ∨ o.op = .assign x) (hx : isNilSlice x = true) (E s : Nat) : OpOK P a.eval o c (putNew c.S n [.grow true E s []]) n (n + 1) (.own n s 0) := by
  obtain ⟨g1, g2⟩ := add_nil hsr (hf.head (by omega)) E s
  refine ⟨.value (.slice none 0 0), _, _, ?_, .inl rfl, g1, rfl, Gave.add _ _ _ _, g2⟩
  have hxx : x = .const (.slice none 0 0) := by
    unfold isNilSlice at hx
    split at hx
    · rfl
    · cases hx
  subst hxx
  rcases ho with ho | ho <;> simp [execOp, ho, Cx.add, Act.eval]

theorem ok_move (hsr : SR c) (hT : TRep c T a) {o : Oper} {x : Operand} {ao : AOp} (ho : o.op = .move x ∨ o.op = .assign x) (ht : (if isNilSlice x then (slT P o.type).map fun p => AOp.nilv p.1 p.2 else (trOpd (0, 0) x).map .mv) = some ao)
    {r : Req} (h : aop n ao (ev T) = some r) {os os' news : List Ob} {v : V} (hos : mapO c.S r.ids = some os) (hact : r.act os = some (v, os', news)) (hf : c.Fr n (n + news.length)) : OpOK P a.eval o c (putNew (putAll c.S r.ids os') n news) n (n + news.length) v := by
  split at ht
  · rename_i hn
    simp only [Option.map_eq_some_iff] at ht
    obtain ⟨p, _, rfl⟩ := ht
    simp only [aop] at h
    exact rqn_ok h hact hf fun hf => op_nilv' hf hsr ho hn p.1 p.2
  · simp only [Option.map_eq_some_iff] at ht
    obtain ⟨y, hy, rfl⟩ := ht
    simp only [aop] at h
    exact rq_ok h hos hact (op_mv hsr ho (ev_ok hT hy))

theorem ok_build (hsr : SR c) (hT : TRep c T a) {o : Oper} {t : TypeId} {ps : Array (Nat × Operand)} {ao : AOp} (ho : o.op = .build t ps) (ht : trOp P o = some ao)
    {r : Req} (h : aop n ao (ev T) = some r) {os os' news : List Ob} {v : V} (hos : mapO c.S r.ids = some os) (hact : r.act os = some (v, os', news)) (hf : c.Fr n (n + news.length)) : OpOK P a.eval o c (putNew (putAll c.S r.ids os') n news) n (n + news.length) v := by
  simp only [trOp, ho] at ht
  split at ht
  · rename_i fs zs hu hz hag
    split at ht
    · rename_i hall
      simp only [Option.map_eq_some_iff] at ht
      obtain ⟨l, hl, rfl⟩ := ht
      simp only [aop] at h
      split at h
      · rename_i l2 hl2
        refine rqo_ok h hos hact fun w hw => ?_
        simp only [Option.map_eq_some_iff] at hw
        obtain ⟨cs, hcs, rfl⟩ := hw
        refine op_build hsr ho hu hz (fun f hf => ?_) ?_ hcs
        · have := (Array.all_eq_true_iff_forall_mem.1 hall) f hf
          exact Option.isSome_iff_exists.1 this
        · clear hcs h hact hall
          generalize ps.toList = pl at hl
          induction pl generalizing l l2 with
          | nil =>
            simp [mapO] at hl; subst hl
            simp [mapO] at hl2; subst hl2
            trivial
          | cons p pl ih =>
            simp only [mapO] at hl
            split at hl
            · rename_i y q hy hq
              simp at hl
              subst hl
              simp only [mapO] at hl2
              split at hl2
              · rename_i y2 q2 hy2 hq2
                simp at hl2
                subst hl2
                refine ⟨?_, (by first | exact ih q q2 hq hq2 | exact ih q q2 hq2 hq)⟩
                split at hy
                · rename_i f hf
                  split at hy
                  · rename_i s x hs hx
                    simp at hy
                    subst hy
                    simp only [Option.map_eq_some_iff] at hy2
                    obtain ⟨cs, hcs, rfl⟩ := hy2
                    obtain ⟨vs, hv, h1, h2⟩ := cells_ok (ev_ok hT hx) hcs
                    exact ⟨⟨f, hf, rfl, hs⟩, vs, hv, h1, h2⟩
                  · cases hy
                · cases hy
              · cases hl2
            · cases hl
      · cases h
    · cases ht
  · cases ht

theorem ok_bsl (hsr : SR c) (hT : TRep c T a) {o : Oper} {t : TypeId} {len : Nat} {ps : Array (Nat × Operand)} {ao : AOp} (ho : o.op = .buildSlice t len ps) (ht : trOp P o = some ao)
    {r : Req} (h : aop n ao (ev T) = some r) {os os' news : List Ob} {v : V} (hact : r.act os = some (v, os', news)) (hf : c.Fr n (n + news.length)) : OpOK P a.eval o c (putNew (putAll c.S r.ids os') n news) n (n + news.length) v := by
  simp only [trOp, ho] at ht
  split at ht
  · rename_i E s hsl
    split at ht
    · rename_i zs l hz hl
      split at ht
      · simp at ht
        subst ht
        simp only [aop] at h
        split at h
        · rename_i hc
          obtain ⟨hroom, hs, hzl⟩ := hc
          split at h
          · rename_i cs hcs
            simp only [Option.bind_eq_some_iff] at hcs
            obtain ⟨l2, hl2, hfill⟩ := hcs
            refine rqn_ok h hact hf fun hf => ?_
            refine op_bsl hf hsr ho hsl hz hs hzl hroom (l := l2) ?_ hfill ?_
            · clear hfill h hact
              generalize ps.toList = pl at hl
              induction pl generalizing l l2 with
              | nil =>
                simp [mapO] at hl; subst hl
                simp [mapO] at hl2; subst hl2
                trivial
              | cons p pl ih =>
                simp only [mapO] at hl
                split at hl
                · rename_i y q hy hq
                  simp at hl
                  subst hl
                  simp only [mapO] at hl2
                  split at hl2
                  · rename_i y2 q2 hy2 hq2
                    simp at hl2
                    subst hl2
                    refine ⟨?_, (by first | exact ih q q2 hq hq2 | exact ih q q2 hq2 hq)⟩
                    simp only [Option.map_eq_some_iff] at hy
                    obtain ⟨x, hx, rfl⟩ := hy
                    simp only [Option.map_eq_some_iff] at hy2
                    obtain ⟨cs2, hcs2, rfl⟩ := hy2
                    obtain ⟨vs, hv, h1, h2⟩ := cells_ok (ev_ok hT hx) hcs2
                    exact ⟨⟨rfl, rfl⟩, vs, hv, h1, h2⟩
                  · cases hl2
                · cases hl
            · split
              · rename_i q hq
                rw [allD_eq hq]
                simp [rowEs, List.map_drop, List.map_take]
              · rfl
          · cases h
        · cases h
      · cases ht
    · cases ht
  · cases ht

theorem isSc_ok {x : D} (h : isSc x = true) : (∃ b, x = .bool b) ∨ (∃ k n, x = .int k n) ∨ ∃ s, x = .str s := by
  cases x <;> simp [isSc] at h <;> simp

theorem ok_call (hsr : SR c) (hT : TRep c T a) {o : Oper} {cl : Call} {ao : AOp} (ho : o.op = .call cl) (ht : trOp P o = some ao) (hnc : ∀ f xs, ao ≠ .call f xs)
    {r : Req} (h : aop n ao (ev T) = some r) {os os' news : List Ob} {v : V} (hos : mapO c.S r.ids = some os) (hact : r.act os = some (v, os', news)) (hf : c.Fr n (n + news.length)) : OpOK P a.eval o c (putNew (putAll c.S r.ids os') n news) n (n + news.length) v := by
  simp only [trOp, ho] at ht
  split at ht
  · split at ht
    · split at ht
      · simp at ht
        exact absurd ht.symm (hnc _ _)
      · cases ht
    · cases ht
  · cases ht
  · rename_i b hcal
    split at ht
    · rename_i x t hargs hty
      split at ht
      · rename_i e hu
        simp only [Option.map_eq_some_iff] at ht
        obtain ⟨y, hy, rfl⟩ := ht
        simp only [aop] at h
        refine rqo_ok h hos hact fun w hw => ?_
        simp only [Option.map_eq_some_iff] at hw
        obtain ⟨k, hk, rfl⟩ := hw
        exact op_len hsr ho hcal hargs hty (ev_ok hT hy) (str := false) ⟨e, hu⟩ hk
      · rename_i hu
        simp only [Option.map_eq_some_iff] at ht
        obtain ⟨y, hy, rfl⟩ := ht
        simp only [aop] at h
        refine rqo_ok h hos hact fun w hw => ?_
        simp only [Option.map_eq_some_iff] at hw
        obtain ⟨k, hk, rfl⟩ := hw
        exact op_len hsr ho hcal hargs hty (ev_ok hT hy) (str := true) hu hk
      · cases ht
    · rename_i x y t u hargs hty
      split at ht
      · rename_i htu
        subst htu
        split at ht
        · rename_i e s xo yo hsl hx hy
          split at ht
          · rename_i bytes hby
            split at ht
            · rename_i hc
              simp only [Bool.and_eq_true, decide_eq_true_eq] at hc
              obtain ⟨⟨hs, hb0⟩, hz⟩ := hc
              simp at ht
              subst ht
              have hzero : ∃ i z, P.info? e = some i ∧ i.zero = some z ∧ z.cells.size = s := by
                unfold okZ at hz
                split at hz
                · rename_i i hi
                  split at hz
                  · rename_i z hz'
                    exact ⟨i, z, hi, hz', by simpa using hz⟩
                  · cases hz
                · cases hz
              simp only [aop] at h
              have hxr := ev_ok hT hx
              have hyr := ev_ok hT hy
              split at h
              · rename_i E' s' hxv
                rw [hxv] at hxr
                simp only [VRep] at hxr
                simp only [Option.some.injEq] at h
                subst h
                simp only at hact hos
                split at hact
                · rename_i ys hys
                  split at hact
                  · rename_i hroom
                    simp only [Option.some.injEq] at hact
                    obtain ⟨rfl, rfl, rfl⟩ := fst_snd hact
                    have hput : putAll c.S (idsApp (ev T yo)) os = c.S := by
                      have : ∀ (l : List Nat) (os : List Ob), mapO c.S l = some os → putAll c.S l os = c.S := by
                        intro l
                        induction l with
                        | nil => intro os _; cases os <;> rfl
                        | cons k l ih =>
                          intro os h
                          simp only [mapO] at h
                          split at h
                          · rename_i o q ho hq
                            simp at h
                            subst h
                            simp only [putAll]
                            have : upd c.S k (some o) = c.S := by
                              funext j
                              simp only [upd]
                              split
                              · rename_i hj; rw [hj, ho]
                              · rfl
                            rw [this]
                            exact ih q hq
                          · cases h
                      exact this _ _ hos
                    rw [hput]
                    exact op_app_nil hf hsr ho hcal hargs hty hsl hby hs hb0 hzero hxr hyr hos hys hroom
                  · cases hact
                · cases hact
              · rename_i k s' N hxv
                rw [hxv] at hxr
                split at h
                · rename_i hc
                  obtain ⟨rfl, hkn⟩ := hc
                  simp only [Option.some.injEq] at h
                  subst h
                  simp only at hact hos
                  simp only [mapO] at hos
                  split at hos
                  · rename_i ob q hob hq
                    simp at hos
                    subst hos
                    simp only at hact
                    split at hact
                    · rename_i ys hys
                      simp only [Option.map_eq_some_iff] at hact
                      obtain ⟨ob', hg, hact⟩ := hact
                      obtain ⟨rfl, rfl, rfl⟩ := fst_snd hact
                      have := op_app_own (n0 := n) hsr ho hcal hargs hty hsl hby hs hb0 hzero hxr hob hyr hq hys hg
                      have hput : putAll (upd c.S k (some ob')) (idsApp (ev T yo)) q = upd c.S k (some ob') := by
                        have : ∀ (l : List Nat) (os : List Ob), k ∉ l → mapO c.S l = some os → putAll (upd c.S k (some ob')) l os = upd c.S k (some ob') := by
                          intro l
                          induction l with
                          | nil => intro os _ _; cases os <;> rfl
                          | cons k2 l ih =>
                            intro os hk2 h
                            simp only [mapO] at h
                            split at h
                            · rename_i o q ho hq
                              simp at h
                              subst h
                              simp only [putAll]
                              have : upd (upd c.S k (some ob')) k2 (some o) = upd c.S k (some ob') := by
                                funext j
                                simp only [upd]
                                split
                                · rename_i hj
                                  subst hj
                                  rw [if_neg (fun e => hk2 (by simp [e])), ho]
                                · rfl
                              rw [this]
                              exact ih q (fun hh => hk2 (by simp [hh])) hq
                            · cases h
                        exact this _ _ hkn hq
                      simp only [putAll, putNew, List.length_nil, Nat.add_zero, hput]
                      exact this
                    · cases hact
                  · cases hos
                · cases h
              · cases h
            · cases ht
          · cases ht
        · cases ht
      · cases ht
    · rename_i l tys hl
      simp only [Option.map_eq_some_iff] at ht
      obtain ⟨ys, hys, rfl⟩ := ht
      simp only [aop] at h
      have hv := evs_ok hT hys
      split at h
      · cases h
      · rename_i y q
        cases hcl : cl.args.toList with
        | nil => rw [hcl] at hys; simp [mapO] at hys
        | cons x xs =>
          rw [hcl] at hv
          simp only [List.map_cons, VVals, List.cons.injEq] at hv
          obtain ⟨_, _, ⟨rfl, rfl⟩, h1, h2⟩ := hv
          exact rqo_ok h hos hact fun w hw => op_mx hsr ho hcal hcl h1 h2 hw
    · rename_i l tys hl
      simp only [Option.map_eq_some_iff] at ht
      obtain ⟨ys, hys, rfl⟩ := ht
      simp only [aop] at h
      have hv := evs_ok hT hys
      split at h
      · cases h
      · rename_i y q
        cases hcl : cl.args.toList with
        | nil => rw [hcl] at hys; simp [mapO] at hys
        | cons x xs =>
          rw [hcl] at hv
          simp only [List.map_cons, VVals, List.cons.injEq] at hv
          obtain ⟨_, _, ⟨rfl, rfl⟩, h1, h2⟩ := hv
          exact rqo_ok h hos hact fun w hw => op_mn hsr ho hcal hcl h1 h2 hw
    · cases ht

end
end Go.R

namespace Go.R
section
variable {P : Program} {c : Cx} {T : Nat → V} {a : Act} {nn : Nat}

theorem op_ok (hsr : SR c) (hT : TRep c T a) {o : Oper} {ao : AOp} (ht : trOp P o = some ao) (hnc : ∀ f xs, ao ≠ .call f xs)
    {r : Req} (h : aop nn ao (ev T) = some r) {os os' news : List Ob} {v : V} (hos : mapO c.S r.ids = some os) (hact : r.act os = some (v, os', news)) (hf : c.Fr nn (nn + news.length)) :
    OpOK P a.eval o c (putNew (putAll c.S r.ids os') nn news) nn (nn + news.length) v := by
  have ht0 := ht
  unfold trOp at ht
  split at ht
  -- move, assign
  · rename_i x ho; exact ok_move hsr hT (.inl ho) ht h hos hact hf
  · rename_i x ho; exact ok_move hsr hT (.inr ho) ht h hos hact hf
  -- pick
  · rename_i k x y ho
    split at ht
    · rename_i k' x' y' hk hx hy
      simp at ht; subst ht
      simp only [aop] at h
      split at h
      · rename_i t ht
        exact rq_ok h hos hact (op_pick hsr ho (ev_ok hT hk) (ev_ok hT hx) (ev_ok hT hy) ht)
      · cases h
    · cases ht
  -- alloc
  · rename_i e ho
    simp only [Option.map_eq_some_iff] at ht
    obtain ⟨zs, hz, rfl⟩ := ht
    simp only [aop] at h
    exact rqn_ok h hact hf fun hf => op_nbox hsr ho hz hf
  -- box
  · rename_i e x ho
    split at ht
    · rename_i n x' hn hx
      simp at ht; subst ht
      simp only [aop] at h
      split at h
      · rename_i cs hcs
        split at h
        · rename_i hl
          subst hl
          exact rqn_ok h hact hf fun hf => op_box hsr ho (ev_ok hT hx) hcs hf
        · cases h
      · cases h
    · cases ht
  -- build
  · rename_i t ps ho; exact ok_build hsr hT ho ht0 h hos hact hf
  -- buildSlice
  · rename_i t len ps ho; exact ok_bsl hsr hT ho ht0 h hact hf
  -- load
  · rename_i t x ho
    split at ht
    · rename_i n b x' hn hb hx
      split at ht
      · simp at ht; subst ht
        simp only [aop] at h
        have hxr := ev_ok hT hx
        split at h
        · rename_i g es j hv
          rw [hv] at hxr
          exact rqo_ok h hos hact fun w hw => op_ldc hsr ho hxr hn hb hw
        · rename_i k N i j hv
          rw [hv] at hxr
          simp only [Option.some.injEq] at h
          subst h
          obtain ⟨ob, rfl, hk⟩ := mapO_one hos
          simp only [Option.map_eq_some_iff] at hact
          obtain ⟨w, hw, hact⟩ := hact
          obtain ⟨rfl, rfl, rfl⟩ := fst_snd hact
          have := op_ldl (n0 := nn) hsr ho hxr hk hn hb hw
          have hup : upd c.S k (some ob) = c.S := by
            funext q
            simp only [upd]
            split
            · rename_i hq; rw [hq, hk]
            · rfl
          simpa [putAll, putNew, hup] using this
        · cases h
      · cases ht
    · cases ht
  -- store
  · rename_i t x y ho
    split at ht
    · rename_i n x' y' hn hx hy
      simp at ht; subst ht
      simp only [aop] at h
      have hxr := ev_ok hT hx
      split at h
      · rename_i k N i j hv
        rw [hv] at hxr
        split at h
        · rename_i cs hcs
          split at h
          · rename_i hl
            simp only [Option.some.injEq] at h
            subst h
            obtain ⟨ob, rfl, hk⟩ := mapO_one hos
            simp only [Option.map_eq_some_iff] at hact
            obtain ⟨w, hw, hact⟩ := hact
            obtain ⟨rfl, rfl, rfl⟩ := fst_snd hact
            exact op_st hsr ho hxr (ev_ok hT hy) hk hn hcs hl hw hf
          · cases h
        · cases h
      · cases h
    · cases ht
  -- nilCheck
  · rename_i x ho
    simp only [Option.map_eq_some_iff] at ht
    obtain ⟨x', hx, rfl⟩ := ht
    simp only [aop] at h
    exact rqo_ok h hos hact fun w hw => op_nc hsr ho (ev_ok hT hx) hw
  -- binOp
  · rename_i op t x y yt ho
    split at ht
    · rename_i hnil
      have hy : a.eval y = .slice none 0 0 := by
        unfold isNilSlice at hnil
        split at hnil
        · rfl
        · cases hnil
      split at ht
      · rename_i e hu
        simp only [Option.map_eq_some_iff] at ht
        obtain ⟨x', hx, rfl⟩ := ht
        simp only [aop] at h
        exact rqo_ok h hos hact fun w hw => op_isn (neg := false) hsr ho (ev_ok hT hx) hy hu hw
      · rename_i e hu
        simp only [Option.map_eq_some_iff] at ht
        obtain ⟨x', hx, rfl⟩ := ht
        simp only [aop] at h
        exact rqo_ok h hos hact fun w hw => op_isn (neg := true) hsr ho (ev_ok hT hx) hy hu hw
      · cases ht
    · split at ht
      rotate_left
      · cases ht
      rename_i x' y' hx hy
      split at ht
      · simp at ht; subst ht
        simp only [aop] at h
        exact rqo_ok h hos hact fun w hw => op_bin hsr ho (ev_ok hT hx) (ev_ok hT hy) hw
      · split at ht
        · rename_i hb
          split at ht
          · simp at ht; subst ht
            simp only [aop] at h
            exact rqo_ok h hos hact fun w hw => op_beq (neg := false) hsr ho (ev_ok hT hx) (ev_ok hT hy) hb hw
          · simp at ht; subst ht
            simp only [aop] at h
            exact rqo_ok h hos hact fun w hw => op_beq (neg := true) hsr ho (ev_ok hT hx) (ev_ok hT hy) hb hw
          · cases ht
        · split at ht
          · rename_i ks hks
            split at ht
            · simp at ht; subst ht
              simp only [aop] at h
              exact rqo_ok h hos hact fun w hw => op_eqa (neg := false) hsr ho (ev_ok hT hx) (ev_ok hT hy) hks hw
            · simp at ht; subst ht
              simp only [aop] at h
              exact rqo_ok h hos hact fun w hw => op_eqa (neg := true) hsr ho (ev_ok hT hx) (ev_ok hT hy) hks hw
            · cases ht
          · cases ht
  -- unOp
  · rename_i op t x ho
    simp only [Option.map_eq_some_iff] at ht
    obtain ⟨x', hx, rfl⟩ := ht
    simp only [aop] at h
    exact rqo_ok h hos hact fun w hw => op_un hsr ho (ev_ok hT hx) hw
  -- fieldAddr
  · rename_i s x i ho
    split at ht
    · rename_i fs x' hu hx
      split at ht
      · rename_i f hf
        split at ht
        · rename_i n hn
          split at ht
          · cases ht
          · rename_i h0
            simp at ht; subst ht
            simp only [aop] at h
            exact rqo_ok h hos hact fun w hw => op_fa hsr ho (ev_ok hT hx) hu hf hn h0 hw
        · cases ht
      · cases ht
    · cases ht
  -- field
  · rename_i s x i ho
    split at ht
    · rename_i fs x' hu hx
      split at ht
      · rename_i f hf
        split at ht
        · rename_i n b hn hb
          split at ht
          · simp at ht; subst ht
            simp only [aop] at h
            have hxr := ev_ok hT hx
            split at h
            · rename_i cs hv
              rw [hv] at hxr
              simp only [VRep, DRep] at hxr
              obtain ⟨vs, hxu, h1, h2⟩ := hxr
              exact rqo_ok h hos hact fun w hw => op_fld hsr ho rfl hxu ((DVals_map _ _).2 h1) h2 hu hf hn hb (by rw [sub_map]; exact hw)
            · rename_i cs hv
              rw [hv] at hxr
              simp only [VRep] at hxr
              obtain ⟨vs, hxu, h1, h2⟩ := hxr
              exact rqo_ok h hos hact fun w hw => op_fld hsr ho rfl hxu h1 h2 hu hf hn hb hw
            · cases h
          · cases ht
        · cases ht
      · cases ht
    · cases ht
  -- indexAddr
  · rename_i t x i ho
    split at ht
    · rename_i e s x' i' hsl hx hi
      simp at ht; subst ht
      simp only [aop] at h
      exact rqo_ok h hos hact fun w hw => op_ia hsr ho (ev_ok hT hx) (ev_ok hT hi) hsl hw
    · cases ht
  -- slice
  · rename_i t x lo hi ho
    split at ht
    · rename_i e s x' hsl hx
      split at ht
      · rename_i hl hh
        have hlo : lo = none := by cases lo <;> simp_all
        have hhi : hi = none := by cases hi <;> simp_all
        subst hlo hhi
        simp at ht; subst ht
        simp only [aop] at h
        exact rqo_ok h hos hact fun w hw => op_slc hsr ho (ev_ok hT hx) rfl trivial hsl hw
      · rename_i l hl hh
        have hhi : hi = none := by cases hi <;> simp_all
        subst hhi
        simp at ht; subst ht
        simp only [aop] at h
        cases lo with
        | none => simp at hl
        | some lo =>
          simp at hl
          exact rqo_ok h hos hact fun w hw => op_slc hsr ho (ev_ok hT hx) (by simpa [loV] using ev_ok hT hl) trivial hsl hw
      · rename_i y hl hh
        have hlo : lo = none := by cases lo <;> simp_all
        subst hlo
        simp at ht; subst ht
        simp only [aop] at h
        cases hi with
        | none => simp at hh
        | some hi =>
          simp at hh
          exact rqo_ok h hos hact fun w hw => op_slc hsr ho (ev_ok hT hx) rfl (by simpa using ev_ok hT hh) hsl hw
      · rename_i l y hl hh
        simp at ht; subst ht
        simp only [aop] at h
        cases lo with
        | none => simp at hl
        | some lo =>
          cases hi with
          | none => simp at hh
          | some hi =>
            simp at hl hh
            exact rqo_ok h hos hact fun w hw => op_slc hsr ho (ev_ok hT hx) (by simpa [loV] using ev_ok hT hl) (by simpa using ev_ok hT hh) hsl hw
      · cases ht
    · cases ht
  -- makeSlice
  · rename_i t l k ho
    split at ht
    · rename_i e s l' k' hsl hl hk
      split at ht
      · rename_i zs b hz hb
        split at ht
        · rename_i hs
          simp at ht; subst ht
          simp only [aop] at h
          have hlr := ev_ok hT hl
          have hkr := ev_ok hT hk
          split at h
          · rename_i k1 x k2 y hx hy
            rw [hx] at hlr
            rw [hy] at hkr
            simp only [VRep, DRep] at hlr hkr
            split at h
            · rename_i hc
              obtain ⟨rfl, h0, hroom, _, hzl, hfit⟩ := hc
              refine rqn_ok h hact hf fun hf => (op_mks hf hsr ho hsl hb hz hs hzl hlr hkr h0 (by simpa [roomB] using hroom) hfit ?_)
              split
              · rename_i q hq
                rw [allD_eq hq]
                simp [rowEs]
              · rfl
            · cases h
          · cases h
        · cases ht
      · cases ht
    · cases ht
  -- extract
  · rename_i t i ho
    simp only [Option.map_eq_some_iff] at ht
    obtain ⟨x', hx, rfl⟩ := ht
    simp only [aop] at h
    have hxr := ev_ok hT hx
    split at h
    · rename_i vs hv
      rw [hv] at hxr
      exact rqo_ok h hos hact fun w hw => op_ext hsr ho hxr hw
    · cases h
  -- makeFunc
  · rename_i fn fst caps ho
    split at ht
    · rename_i x y hx hy
      simp at ht; subst ht
      simp only [aop] at h
      exact rq_ok h hos hact (op_mkf hsr ho (evs_ok hT hx) (evs_ok hT hy))
    · cases ht
  -- makeMap
  · rename_i t ho
    simp at ht; subst ht
    simp only [aop] at h
    exact rqn_ok h hact hf fun hf => op_mkmap hf hsr ho
  -- lookup
  · rename_i t m k ok ho
    split at ht
    · rename_i kt e hu
      split at ht
      · rename_i z m' k' hz hm hk
        split at ht
        · rename_i hkk
          simp at ht; subst ht
          simp only [aop] at h
          have hmr := ev_ok hT hm
          have hkr := ev_ok hT hk
          split at h
          · rename_i i x hmv hkv
            rw [hmv] at hmr
            rw [hkv] at hkr
            split at h
            · cases h
            · rename_i hsc
              simp only [Option.some.injEq] at h
              subst h
              obtain ⟨ob, rfl, hk0⟩ := mapO_one hos
              have hup : upd c.S i (some ob) = c.S := by
                funext q
                simp only [upd]
                split
                · rename_i hq; rw [hq, hk0]
                · rfl
              simp only at hact
              split at hact
              · rename_i ents hob
                simp at hob
                subst hob
                split at hact
                · rename_i v' hl
                  simp only [Option.some.injEq] at hact
                  obtain ⟨rfl, rfl, rfl⟩ := fst_snd hact
                  have := op_lkp (n0 := nn) hsr ho hu hkk hz hmr hkr (isSc_ok (by simpa using hsc)) hk0 hl
                  simpa [putAll, putNew, hup] using this
                · rename_i hl
                  simp only [Option.some.injEq] at hact
                  obtain ⟨rfl, rfl, rfl⟩ := fst_snd hact
                  have := op_lkp (n0 := nn) hsr ho hu hkk hz hmr hkr (isSc_ok (by simpa using hsc)) hk0 hl
                  simpa [putAll, putNew, hup] using this
                · cases hact
              · cases hact
          · cases h
        · cases ht
      · cases ht
    · cases ht
  -- mapUpdate
  · rename_i t m k v' ho
    split at ht
    · rename_i kt e hu
      split at ht
      · rename_i m' k' v2 hm hk hv
        split at ht
        · rename_i hkk
          simp at ht; subst ht
          simp only [aop] at h
          have hmr := ev_ok hT hm
          have hkr := ev_ok hT hk
          split at h
          · rename_i i x hmv hkv
            rw [hmv] at hmr
            rw [hkv] at hkr
            split at h
            · cases h
            · rename_i hsc
              simp only [Option.some.injEq] at h
              subst h
              obtain ⟨ob, rfl, hk0⟩ := mapO_one hos
              simp only at hact
              split at hact
              · rename_i ents hob
                simp at hob
                subst hob
                simp only [Option.map_eq_some_iff] at hact
                obtain ⟨w, hw, hact⟩ := hact
                obtain ⟨rfl, rfl, rfl⟩ := fst_snd hact
                exact op_mup hsr ho hu hkk hmr hkr (isSc_ok (by simpa using hsc)) (ev_ok hT hv) hk0 hw
              · cases hact
          · cases h
        · cases ht
      · cases ht
    · cases ht
  -- call
  · rename_i cl ho; exact ok_call hsr hT ho ht0 hnc h hos hact hf
  · cases ht

end
end Go.R
