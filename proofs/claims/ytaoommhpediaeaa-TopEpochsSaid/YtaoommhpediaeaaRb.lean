/- The machine's operations do what the evaluator says, first part. -/
import Derived.Test.YtaoommhpediaeaaRa
import Derived.Laws.Entries
import Derived.Laws.Cells
import Derived.Laws.Small
import Derived.Laws.StructEq
import Derived.Laws.Cover3
set_option linter.unusedVariables false
set_option linter.unusedSimpArgs false
set_option linter.defProp false

namespace Go.R

structure Go1 (c c' : Cx) : Prop where
  sr : SR c'
  pres : Pres c c'
  ext : Ext c.M c.w c'.w
  mb : ∀ b, c'.M b → c.M b ∨ c.w.heap.size ≤ b
  F : c'.F = c.F

theorem Pres.refl {c : Cx} (h : SR c) : Pres c c where
  keeps := ⟨Nat.le_refl _, fun _ _ _ hn => ⟨rfl, hn⟩⟩
  n := fun _ h => h
  gone := fun _ _ hn => hn
  row := fun _ o m E _ es ho hr => .inr ⟨o, m, E, es, ho, hr, Nat.le_refl _, fun _ => rfl⟩
  map := fun _ ents ho => .inr ⟨ents, ho, rfl⟩
  lt := fun _ _ ho => h.lt ho

theorem Pres.trans {c c' c'' : Cx} (h : Pres c c') (h' : Pres c' c'') : Pres c c'' where
  keeps := ⟨Nat.le_trans h.keeps.1 h'.keeps.1, fun g b hlt hn => by
    obtain ⟨h1, h2⟩ := h.keeps.2 g b hlt hn
    obtain ⟨h3, h4⟩ := h'.keeps.2 g b (Nat.lt_of_lt_of_le hlt h.keeps.1) h2
    exact ⟨h3.trans h1, h4⟩⟩
  n := fun k hk => h'.n k (h.n k hk)
  gone := fun k hk hn => h'.gone k (h.n k hk) (h.gone k hk hn)
  row := fun k o m E s es ho hr => by
    rcases h.row k o m E s es ho hr with hn | ⟨o', m', E', es', ho', hr', hl, hs⟩
    · exact .inl (h'.gone k (h.n k (h.lt k o ho)) hn)
    · rcases h'.row k o' m' E' s es' ho' hr' with hn | ⟨o2, m2, E2, es2, ho2, hr2, hl2, hs2⟩
      · exact .inl hn
      · exact .inr ⟨o2, m2, E2, es2, ho2, hr2, by omega, fun he => (hs2 (by omega)).trans (hs (by omega))⟩
  map := fun k ents ho => by
    rcases h.map k ents ho with hn | ⟨e', ho', hs⟩
    · exact .inl (h'.gone k (h.n k (h.lt k _ ho)) hn)
    · rcases h'.map k e' ho' with hn | ⟨e2, ho2, hs2⟩
      · exact .inl hn
      · exact .inr ⟨e2, ho2, hs2.trans hs⟩
  lt := h.lt

theorem Go1.refl {c : Cx} (h : SR c) : Go1 c c := ⟨h, .refl h, .refl _ _, fun _ hb => .inl hb, rfl⟩
theorem Go1.trans {c c' c'' : Cx} (h : Go1 c c') (h' : Go1 c' c'') : Go1 c c'' :=
  ⟨h'.sr, h.pres.trans h'.pres, h.ext.trans h'.ext fun b hlt hb => (h.mb b hb).resolve_right (by omega),
    fun b hb => by
      rcases h'.mb b hb with h1 | h1
      · exact h.mb b h1
      · exact .inr (Nat.le_trans h.ext.size h1),
    h'.F.trans h.F⟩

/-- The numbers from n up to m have not been given away. -/
def Cx.Fr (c : Cx) (n m : Nat) : Prop := ∀ k, n ≤ k → k < m → ¬ c.U k
/-- A step gives away the numbers from n up to m. -/
def Gave (c c' : Cx) (n m : Nat) : Prop := ∀ k, c'.U k ↔ c.U k ∨ (n ≤ k ∧ k < m)

theorem Gave.refl (c : Cx) (n : Nat) : Gave c c n n := fun k => ⟨.inl, fun h => h.elim id fun h => by omega⟩
theorem Gave.trans {c c' c'' : Cx} {n m q : Nat} (h : Gave c c' n m) (h' : Gave c' c'' m q) (h1 : n ≤ m) (h2 : m ≤ q) : Gave c c'' n q := fun k => by
  rw [h' k, h k]
  constructor
  · rintro ((h | h) | h)
    · exact .inl h
    · exact .inr (by omega)
    · exact .inr (by omega)
  · rintro (h | h)
    · exact .inl (.inl h)
    · by_cases hk : k < m
      · exact .inl (.inr (by omega))
      · exact .inr (by omega)

def OpOK (P : Program) (ρc : Operand → Value) (o : Oper) (c : Cx) (S' : Store) (n n' : Nat) (v : V) : Prop :=
  ∃ r vc c', (execOp ρc o).run P c.w = .ok r c'.w ∧ (r = .value vc ∨ (r = .skip ∧ vc = undef)) ∧ Go1 c c' ∧ c'.S = S' ∧ Gave c c' n n' ∧ VRep c' v vc

theorem OpOK.pure {P : Program} {ρc : Operand → Value} {o : Oper} {c : Cx} {n0 : Nat} {v : V} {vc : Value} (hsr : SR c) (h : (execOp ρc o).run P c.w = .ok (.value vc) c.w) (hv : VRep c v vc) : OpOK P ρc o c c.S n0 n0 v :=
  ⟨_, vc, c, h, .inl rfl, .refl hsr, rfl, .refl c n0, hv⟩

/-! ### cells of a value -/
theorem DVals_length {w : World} {fb : Forb} : ∀ {xs : List D} {vs : List Value}, DVals w fb xs vs → vs.length = xs.length
  | [], vs, h => by simp only [DVals] at h; simp [h]
  | d :: ds, vs, h => by
    simp only [DVals] at h
    obtain ⟨v, r, rfl, _, h2⟩ := h
    simp [DVals_length h2]

theorem cells_ok {c : Cx} : ∀ {x : V} {v : Value} {cs : List V}, VRep c x v → cellsV x = some cs → ∃ vs : List Value, v.cells = vs.toArray ∧ VVals c cs vs ∧ ∀ u ∈ vs, u.oneCell' = true
  | .d x, v, cs, h, hc => by
    simp only [VRep] at h
    cases x with
    | agg ds =>
      simp only [cellsV, Option.some.injEq] at hc
      subst hc
      simp only [DRep] at h
      obtain ⟨vs, rfl, h1, h2⟩ := h
      exact ⟨vs, rfl, (DVals_map _ _).2 h1, h2⟩
    | bool b => simp only [cellsV, Option.some.injEq] at hc; subst hc; simp only [DRep] at h; subst h; exact ⟨[_], rfl, ⟨_, [], rfl, by simp [VRep, DRep], rfl⟩, by simp [Value.oneCell']⟩
    | int k n => simp only [cellsV, Option.some.injEq] at hc; subst hc; simp only [DRep] at h; subst h; exact ⟨[_], rfl, ⟨_, [], rfl, by simp [VRep, DRep], rfl⟩, by simp [Value.oneCell']⟩
    | str s => simp only [cellsV, Option.some.injEq] at hc; subst hc; simp only [DRep] at h; subst h; exact ⟨[_], rfl, ⟨_, [], rfl, by simp [VRep, DRep], rfl⟩, by simp [Value.oneCell']⟩
    | slice g s es =>
      simp only [cellsV, Option.some.injEq] at hc
      subst hc
      have h' := h
      simp only [DRep] at h
      obtain ⟨A, q, rfl, _⟩ := h
      exact ⟨[_], rfl, ⟨_, [], rfl, by simpa only [VRep] using h', rfl⟩, by simp [Value.oneCell']⟩
    | cptr g es j =>
      simp only [cellsV, Option.some.injEq] at hc
      subst hc
      have h' := h
      simp only [DRep] at h
      obtain ⟨b, o, rfl, _⟩ := h
      exact ⟨[_], rfl, ⟨_, [], rfl, by simpa only [VRep] using h', rfl⟩, by simp [Value.oneCell']⟩
    | func fn a b =>
      simp only [cellsV, Option.some.injEq] at hc
      subst hc
      have h' := h
      simp only [DRep] at h
      obtain ⟨f, q, rfl, _⟩ := h
      exact ⟨[_], rfl, ⟨_, [], rfl, by simpa only [VRep] using h', rfl⟩, by simp [Value.oneCell']⟩
    | nilfunc => simp only [cellsV, Option.some.injEq] at hc; subst hc; simp only [DRep] at h; subst h; exact ⟨[_], rfl, ⟨_, [], rfl, by simp [VRep, DRep], rfl⟩, by simp [Value.oneCell']⟩
    | nilptr => simp only [cellsV, Option.some.injEq] at hc; subst hc; simp only [DRep] at h; subst h; exact ⟨[_], rfl, ⟨_, [], rfl, by simp [VRep, DRep], rfl⟩, by simp [Value.oneCell']⟩
  | .nil E s, v, cs, h, hc => by
    simp only [cellsV, Option.some.injEq] at hc; subst hc; simp only [VRep] at h; subst h
    exact ⟨[_], rfl, ⟨_, [], rfl, by simp [VRep], rfl⟩, by simp [Value.oneCell']⟩
  | .own k s N, v, cs, h, hc => by
    simp only [cellsV, Option.some.injEq] at hc; subst hc
    have h1 : v.oneCell' = true := by simp only [VRep] at h; obtain ⟨A, cap, rfl, _⟩ := h.2; rfl
    refine ⟨[v], by cases v <;> simp_all [Value.cells, Value.oneCell'], ⟨v, [], rfl, h, rfl⟩, by simpa using h1⟩
  | .loc k N i j, v, cs, h, hc => by
    simp only [cellsV, Option.some.injEq] at hc; subst hc
    have h1 : v.oneCell' = true := by simp only [VRep] at h; obtain ⟨b, q, rfl⟩ := h.2; rfl
    refine ⟨[v], by cases v <;> simp_all [Value.cells, Value.oneCell'], ⟨v, [], rfl, h, rfl⟩, by simpa using h1⟩
  | .mp k, v, cs, h, hc => by
    simp only [cellsV, Option.some.injEq] at hc; subst hc
    have h1 : v.oneCell' = true := by simp only [VRep] at h; obtain ⟨r, rfl⟩ := h.2; rfl
    refine ⟨[v], by cases v <;> simp_all [Value.cells, Value.oneCell'], ⟨v, [], rfl, h, rfl⟩, by simpa using h1⟩
  | .nilmp, v, cs, h, hc => by
    simp only [cellsV, Option.some.injEq] at hc; subst hc; simp only [VRep] at h; subst h
    exact ⟨[_], rfl, ⟨_, [], rfl, by simp [VRep], rfl⟩, by simp [Value.oneCell']⟩
  | .agg ds, v, cs, h, hc => by
    simp only [cellsV, Option.some.injEq] at hc
    subst hc
    simp only [VRep] at h
    obtain ⟨vs, rfl, h1, h2⟩ := h
    exact ⟨vs, rfl, h1, h2⟩
  | .tup _, _, _, _, hc => by simp [cellsV] at hc
  | .func fn a b, v, cs, h, hc => by
    simp only [cellsV, Option.some.injEq] at hc
    subst hc
    have h' := h
    simp only [VRep] at h
    obtain ⟨f, q, rfl, _⟩ := h
    exact ⟨[_], rfl, ⟨_, [], rfl, h', rfl⟩, by simp [Value.oneCell']⟩
  | .junk, _, _, _, hc => by simp [cellsV] at hc
  | .ub, _, _, _, hc => by simp [cellsV] at hc
  | .un, _, _, _, hc => by simp [cellsV] at hc

theorem allD_eq : ∀ {cs : List V} {l : List D}, allD cs = some l → cs = l.map .d
  | [], l, h => by simp [allD] at h; subst h; rfl
  | .d x :: r, l, h => by
    simp only [allD] at h
    cases hr : allD r with
    | none => simp [hr] at h
    | some q => simp [hr] at h; subst h; simp [allD_eq hr]
  | .nil _ _ :: _, l, h => by simp [allD] at h
  | .own _ _ _ :: _, l, h => by simp [allD] at h
  | .loc _ _ _ _ :: _, l, h => by simp [allD] at h
  | .mp _ :: _, l, h => by simp [allD] at h
  | .nilmp :: _, l, h => by simp [allD] at h
  | .agg _ :: _, l, h => by simp [allD] at h
  | .tup _ :: _, l, h => by simp [allD] at h
  | .func _ _ _ :: _, l, h => by simp [allD] at h
  | .junk :: _, l, h => by simp [allD] at h
  | .ub :: _, l, h => by simp [allD] at h
  | .un :: _, l, h => by simp [allD] at h

theorem mkAgg_ok {c : Cx} {cs : List V} {vs : List Value} (h : VVals c cs vs) (h1 : ∀ u ∈ vs, u.oneCell' = true) : VRep c (mkAgg cs) (.agg vs.toArray) := by
  unfold mkAgg
  cases hd : allD cs with
  | none => simp only [VRep]; exact ⟨vs, rfl, h, h1⟩
  | some l =>
    rw [allD_eq hd] at h
    simp only [VRep, DRep]
    exact ⟨vs, rfl, (DVals_map _ _).1 h, h1⟩

theorem mkFunc_ok {c : Cx} {fn : Fn} {a b : List V} {f q : List Value} (h : VVals c a f) (h' : VVals c b q) : VRep c (mkFunc fn a b) (.func fn f.toArray q.toArray) := by
  unfold mkFunc
  split
  · rename_i x y hx hy
    rw [allD_eq hx] at h
    rw [allD_eq hy] at h'
    simp only [VRep, DRep]
    exact ⟨f, q, rfl, (DVals_map _ _).1 h, (DVals_map _ _).1 h'⟩
  · simp only [VRep]; exact ⟨f, q, rfl, h, h'⟩

/-! ### operands -/
theorem constV_ok {c : Cx} {a : Nat × Nat} {v : Value} {x : V} (h : constV a v = some x) : VRep c x v := by
  unfold constV at h
  split at h <;> simp at h <;> subst h <;> simp [VRep, DRep, DVals]

/-- The temporaries of both sides. -/
def TRep (c : Cx) (T : Nat → V) (a : Act) : Prop := ∀ i, VRep c (T i) (a.tmps.getD i undef)

theorem ev_ok {c : Cx} {T : Nat → V} {a : Act} (hT : TRep c T a) {an : Nat × Nat} {x : Operand} {y : Opd} (h : trOpd an x = some y) : VRep c (ev T y) (a.eval x) := by
  cases x with
  | tmp t => simp [trOpd] at h; subst h; exact hT t
  | const v =>
    simp only [trOpd, Option.map_eq_some_iff] at h
    obtain ⟨z, hz, rfl⟩ := h
    exact constV_ok hz
  | func f => simp [trOpd] at h; subst h; simp only [ev, VRep, DRep, Act.eval]; exact ⟨[], [], rfl, rfl, rfl⟩
  | global g => simp [trOpd] at h

/-! ### types -/
theorem run_sizeOf {P : Program} {t : TypeId} {n : Nat} (h : szT P t = some n) (w : World) : (sizeOf t).run P w = .ok n w := by
  unfold szT at h
  simp only [Option.map_eq_some_iff] at h
  obtain ⟨i, hi, rfl⟩ := h
  simp [sizeOf, typeInfo, hi]

theorem run_isAgg {P : Program} {t : TypeId} {b : Bool} (h : aggT P t = some b) (w : World) : (isAgg t).run P w = .ok b w := by
  unfold aggT at h
  split at h <;> simp at h <;> subst h <;> rename_i hu <;> simp [isAgg, run_underlying hu]

theorem slT_some {P : Program} {t : TypeId} {e : TypeId} {s : Nat} (h : slT P t = some (e, s)) : P.underlying t = some (.slice e) ∧ szT P e = some s := by
  unfold slT at h
  split at h
  · rename_i e' he
    simp only [Option.map_eq_some_iff, Prod.mk.injEq] at h
    obtain ⟨n, hn, rfl, rfl⟩ := h
    exact ⟨he, hn⟩
  · cases h

theorem add_eq (b o n : Nat) : (⟨b, o, none⟩ : Addr).add n = ⟨b, o + n, none⟩ := by unfold Addr.add; split <;> simp_all

theorem eqD_ok {w : World} {fb : Forb} {x y : D} {u v : Value} {b : Bool} (h : eqD x y = some b) (hx : DRep w fb x u) (hy : DRep w fb y v) :
    (∃ p q, u = .bool p ∧ v = .bool q ∧ b = (p == q)) ∨ (∃ k p q, u = .int k p ∧ v = .int k q ∧ b = (p == q)) ∨ (∃ p q, u = .string p ∧ v = .string q ∧ b = (p == q)) := by
  unfold eqD at h
  split at h
  · simp at h; subst h; simp only [DRep] at hx hy; exact .inl ⟨_, _, hx, hy, rfl⟩
  · split at h
    · rename_i hk; subst hk; simp at h; subst h; simp only [DRep] at hx hy; exact .inr (.inl ⟨_, _, _, hx, hy, rfl⟩)
    · cases h
  · simp at h; subst h; simp only [DRep] at hx hy; exact .inr (.inr ⟨_, _, hx, hy, rfl⟩)
  · cases h

/-! ### the operations -/
section
variable {P : Program} {c : Cx} {n0 : Nat} {ρ : Opd → V} {ρc : Operand → Value}

theorem op_mv {o : Oper} {x : Operand} {y : Opd} (hsr : SR c) (ho : o.op = .move x ∨ o.op = .assign x) (hx : VRep c (ρ y) (ρc x)) : OpOK P ρc o c c.S n0 n0 (ρ y) := by
  refine OpOK.pure hsr (vc := ρc x) ?_ hx
  rcases ho with ho | ho <;> simp [execOp, ho]

theorem op_pick {o : Oper} {k a b : Operand} {k' a' b' : Opd} {t : Bool} (hsr : SR c) (ho : o.op = .pick k a b) (hk : VRep c (ρ k') (ρc k)) (ha : VRep c (ρ a') (ρc a)) (hb : VRep c (ρ b') (ρc b))
    (ht : ρ k' = .d (.bool t)) : OpOK P ρc o c c.S n0 n0 (if t then ρ a' else ρ b') := by
  rw [ht] at hk
  simp only [VRep, DRep] at hk
  refine OpOK.pure hsr (vc := if t then ρc a else ρc b) ?_ ?_
  · cases t <;> simp [execOp, ho, hk, asBool]
  · cases t <;> simpa

theorem op_bin {o : Oper} {op : BinOp} {t yt : TypeId} {x y : Operand} {x' y' : Opd} {v : V} (hsr : SR c) (ho : o.op = .binOp op t x y yt) (hx : VRep c (ρ x') (ρc x)) (hy : VRep c (ρ y') (ρc y))
    (h : binV op (ρ x') (ρ y') = some v) : OpOK P ρc o c c.S n0 n0 v := by
  unfold binV at h
  split at h
  · rename_i j a k b ha hb
    rw [ha] at hx; rw [hb] at hy
    simp only [VRep, DRep] at hx hy
    split at h
    · rename_i hjk
      subst hjk
      simp only [Option.map_eq_some_iff] at h
      obtain ⟨d, hd, rfl⟩ := h
      cases op <;> simp only [intBin, Option.some.injEq, reduceCtorEq] at hd
      case quo =>
        split at hd
        · cases hd
        · rename_i hb0
          simp at hd; subst hd
          exact OpOK.pure hsr (vc := .int j (j.wrap (a.tdiv b))) (by simp [execOp, ho, hx, hy, eqGuard, binOp, Op.intDiv, hb0]) (by simp [VRep, DRep])
      case rem =>
        split at hd
        · cases hd
        · rename_i hb0
          simp at hd; subst hd
          exact OpOK.pure hsr (vc := .int j (a.tmod b)) (by simp [execOp, ho, hx, hy, eqGuard, binOp, Op.intDiv, hb0]) (by simp [VRep, DRep])
      all_goals (subst hd; exact OpOK.pure hsr (by simp [execOp, ho, hx, hy, eqGuard, binOp, Op.intArith, Op.intCmp]; rfl) (by simp [VRep, DRep]))
    · cases h
  · rename_i a b ha hb
    rw [ha] at hx; rw [hb] at hy
    simp only [VRep, DRep] at hx hy
    cases op <;> simp at h <;> subst h
    · exact OpOK.pure hsr (vc := .bool (a.toList == b.toList)) (by simp [execOp, ho, hx, hy, eqGuard, binOp, Op.stringOp]) (by simp [VRep, DRep])
    · exact OpOK.pure hsr (vc := .bool (!(a.toList == b.toList))) (by simp [execOp, ho, hx, hy, eqGuard, binOp, Op.stringOp]) (by simp [VRep, DRep])
  · cases h

theorem op_isn {o : Oper} {neg : Bool} {t yt e : TypeId} {x y : Operand} {x' : Opd} {v : V} (hsr : SR c) (ho : o.op = .binOp (if neg then .neq else .eql) t x y yt) (hx : VRep c (ρ x') (ρc x)) (hy : ρc y = .slice none 0 0)
    (hu : P.underlying t = some (.slice e)) (h : isnV neg (ρ x') = some v) : OpOK P ρc o c c.S n0 n0 v := by
  have key : ∀ A l cp, ρc x = .slice A l cp → VRep c v (.bool (if neg then !A.isNone else A.isNone)) → OpOK P ρc o c c.S n0 n0 v := by
    intro A l cp hA hv
    refine OpOK.pure hsr ?_ hv
    have he := fun w => run_equal_slice_nil (P := P) w t e A l cp hu
    cases neg <;> simp [execOp, ho, hA, hy, eqGuard, binOp, he]
  unfold isnV at h
  split at h
  · rename_i hq
    rw [hq] at hx
    simp only [VRep] at hx
    simp at h; subst h
    exact key _ _ _ hx (by cases neg <;> simp [VRep, DRep])
  · rename_i k s N hq
    rw [hq] at hx
    simp only [VRep] at hx
    obtain ⟨A, cp, h1, h2⟩ := hx.2
    split at h
    · simp at h; subst h
      exact key _ _ _ h1 (by simp [VRep])
    · rename_i hN
      simp at h; subst h
      obtain ⟨b, q, rfl⟩ := h2 (by omega)
      exact key _ _ _ h1 (by cases neg <;> simp [VRep, DRep])
  · rename_i g s es hq
    rw [hq] at hx
    simp only [VRep, DRep] at hx
    obtain ⟨A, cp, h1, _, h2⟩ := hx
    split at h
    · simp at h; subst h
      exact key _ _ _ h1 (by simp [VRep])
    · simp at h; subst h
      obtain ⟨b, q, rfl, _⟩ := h2 (by simp)
      exact key _ _ _ h1 (by cases neg <;> simp [VRep, DRep])
  · cases h

theorem op_beq {o : Oper} {neg : Bool} {t yt : TypeId} {x y : Operand} {x' y' : Opd} {v : V} (hsr : SR c) (ho : o.op = .binOp (if neg then .neq else .eql) t x y yt) (hx : VRep c (ρ x') (ρc x)) (hy : VRep c (ρ y') (ρc y))
    (hi : isBoolT P t = true) (h : beqV neg (ρ x') (ρ y') = some v) : OpOK P ρc o c c.S n0 n0 v := by
  unfold beqV at h
  split at h
  · rename_i a b ha hb
    rw [ha] at hx; rw [hb] at hy
    simp only [VRep, DRep] at hx hy
    simp at h
    subst h
    unfold isBoolT at hi
    split at hi
    · rename_i hu
      have he := fun w => run_equal_bool (P := P) w t a b hu
      cases neg
      · exact OpOK.pure hsr (vc := .bool (a == b)) (by simp [execOp, ho, hx, hy, eqGuard, binOp, he]) (by simp [VRep, DRep])
      · exact OpOK.pure hsr (vc := .bool (!(a == b))) (by simp [execOp, ho, hx, hy, eqGuard, binOp, he]) (by simp [VRep, DRep])
    · cases hi
  · cases h

theorem part_kind {t : TypeId} (hs : kindT P t ≠ 3) {cs : Array Value} {i : Nat} {v : Value} (h : cs[i]? = some v) (w : World) : (part t cs i).run P w = .ok v w := by
  have ha : (isAgg t).run P w = .ok false w := by
    unfold kindT at hs
    split at hs
    · rename_i hu; simp [isAgg, run_underlying hu]
    · rename_i hu; simp [isAgg, run_underlying hu]
    · rename_i hu; simp [isAgg, run_underlying hu]
    · exact absurd rfl hs
  simp [part, ha, h]

theorem equal_kind {w : World} {fb : Forb} {t : TypeId} {d : Nat} {p q : D} {u v : Value} {b : Bool} (h : eqK (kindT P t) p q = some b) (hp : DRep w fb p u) (hq : DRep w fb q v) (w' : World) :
    (Op.equalIn (d + 1) t u v).run P w' = .ok b w' := by
  unfold eqK at h
  split at h
  · split at h
    · rename_i a b' hk
      simp at h; subst h
      simp only [DRep] at hp hq
      subst hp hq
      unfold kindT at hk
      split at hk <;> simp at hk
      rename_i hu
      exact run_equalIn_bool _ _ _ _ _ hu
    · cases h
  · split at h
    · rename_i j a j' b' hk
      obtain ⟨hk, rfl⟩ := hk
      simp at h; subst h
      simp only [DRep] at hp hq
      subst hp hq
      unfold kindT at hk
      split at hk <;> simp at hk
      rename_i hu
      simp [Op.equalIn, run_underlying hu]
    · cases h
  · split at h
    · rename_i a b' hk
      simp at h; subst h
      simp only [DRep] at hp hq
      subst hp hq
      unfold kindT at hk
      split at hk <;> simp at hk
      rename_i hu
      simp only [Op.equalIn, Sem.run_bind, run_underlying hu, Result.andThen_ok]
      rfl
    · cases h
  · cases h

theorem eqK_ne {k : Nat} {p q : D} {b : Bool} (h : eqK k p q = some b) : k ≠ 3 := by
  unfold eqK at h
  repeat' split at h
  all_goals (first | (rename_i hk; omega) | cases h)

theorem eqFields_ok {w : World} {fb : Forb} {d : Nat} : ∀ (fs : List Field) (j : Nat) (xs ys : List D) (us vs : Array Value) {b : Bool},
    (∀ p ∈ fs.zipIdx j, (p.1.name != "_" && p.1.offset == p.2) = true) → eqDs (fs.map fun f => kindT P f.type) xs ys = some b →
    DVals w fb xs (us.toList.drop j) → DVals w fb ys (vs.toList.drop j) → ∀ w', (Op.eqFields (d + 1) us vs fs).run P w' = .ok b w'
  | [], j, xs, ys, us, vs, b, _, h, _, _, w' => by
    cases xs <;> cases ys <;> simp [eqDs] at h
    subst h
    simp [Op.eqFields]
  | f :: fs, j, xs, ys, us, vs, b, hf, h, hx, hy, w' => by
    cases xs with
    | nil => simp [eqDs] at h
    | cons x xs =>
      cases ys with
      | nil => simp [eqDs] at h
      | cons y ys =>
        simp only [List.map_cons, eqDs] at h
        split at h
        · rename_i a b' ha hb
          simp at h
          subst h
          simp only [DVals] at hx hy
          obtain ⟨u, ur, hu, hx1, hx2⟩ := hx
          obtain ⟨v, vr, hv, hy1, hy2⟩ := hy
          have h0 := hf (f, j) (by simp [List.zipIdx_cons])
          simp only [Bool.and_eq_true, bne_iff_ne, ne_eq, beq_iff_eq] at h0
          have hu0 : us[f.offset]? = some u := by
            have := congrArg (fun l => l[0]?) hu
            simpa [h0.2] using this
          have hv0 : vs[f.offset]? = some v := by
            have := congrArg (fun l => l[0]?) hv
            simpa [h0.2] using this
          have hur : us.toList.drop (j + 1) = ur := by
            have := congrArg (List.drop 1) hu
            simpa [Nat.add_comm] using this
          have hvr : vs.toList.drop (j + 1) = vr := by
            have := congrArg (List.drop 1) hv
            simpa [Nat.add_comm] using this
          have ih := eqFields_ok (d := d) fs (j + 1) xs ys us vs (fun p hp => hf p (by simp [List.zipIdx_cons, hp])) hb (by rw [hur]; exact hx2) (by rw [hvr]; exact hy2) w'
          have hk := eqK_ne ha
          simp only [Op.eqFields, if_pos h0.1, Sem.run_bind, part_kind hk hu0, part_kind hk hv0, equal_kind ha hx1 hy1, Result.andThen_ok]
          cases a
          · simp
          · simpa using ih
        · cases h

theorem op_eqa {o : Oper} {neg : Bool} {ks : List Nat} {t yt : TypeId} {x y : Operand} {x' y' : Opd} {v : V} (hsr : SR c) (ho : o.op = .binOp (if neg then .neq else .eql) t x y yt) (hx : VRep c (ρ x') (ρc x)) (hy : VRep c (ρ y') (ρc y))
    (hi : flatT P t = some ks) (h : eqaV neg ks (ρ x') (ρ y') = some v) : OpOK P ρc o c c.S n0 n0 v := by
  unfold eqaV at h
  split at h
  · rename_i xs ys ha hb
    rw [ha] at hx; rw [hb] at hy
    simp only [VRep, DRep] at hx hy
    obtain ⟨us, hx, hx2, _⟩ := hx
    obtain ⟨vs, hy, hy2, _⟩ := hy
    simp only [Option.map_eq_some_iff] at h
    obtain ⟨b, hb', rfl⟩ := h
    unfold flatT at hi
    split at hi
    · rename_i fs hu
      split at hi
      · rename_i hall
        simp only [Bool.and_eq_true, Bool.not_eq_true'] at hall
        obtain ⟨⟨hall, hst⟩, hg⟩ := hall
        simp only [Option.some.injEq] at hi
        subst hi
        have hfo : P.fieldsOf t = fs := by simp [Program.fieldsOf, hu]
        have he : ∀ w, (Op.equal t (.agg us.toArray) (.agg vs.toArray)).run P w = .ok b w := fun w => by
          show (Op.equalIn (9999 + 1) t _ _).run P w = _
          rw [run_equalIn_struct (P := P) w 9999 t _ _ (by rw [hfo]; exact hu) hst, hfo]
          exact eqFields_ok (d := 9998) fs.toList 0 xs ys us.toArray vs.toArray (by simpa using hall) hb' (by simpa using hx2) (by simpa using hy2) w
        have hgd : ∀ (op : BinOp) (x y : Operand) w, (eqGuard op t x y (.agg us.toArray) (.agg vs.toArray)).run P w = .ok () w := fun op x y w => by
          unfold eqGuard
          simp only [Sem.run_bind, Sem.run_ite, Sem.run_pure, run_program, Result.andThen_ok, hg]
          cases op <;> simp
        cases neg
        · exact OpOK.pure hsr (vc := .bool b) (by simp [execOp, ho, hx, hy, hgd, binOp, he]) (by simp [VRep, DRep])
        · exact OpOK.pure hsr (vc := .bool !b) (by simp [execOp, ho, hx, hy, hgd, binOp, he]) (by simp [VRep, DRep])
      · cases hi
    · cases hi
  · cases h

end

end Go.R

namespace Go.R
section
variable {P : Program} {c : Cx} {n0 : Nat} {ρ : Opd → V} {ρc : Operand → Value}

theorem op_un {o : Oper} {op : UnOp} {t : TypeId} {x : Operand} {x' : Opd} {v : V} (hsr : SR c) (ho : o.op = .unOp op t x) (hx : VRep c (ρ x') (ρc x)) (h : unV op (ρ x') = some v) : OpOK P ρc o c c.S n0 n0 v := by
  unfold unV at h
  split at h
  · rename_i b hb
    rw [hb] at hx
    simp only [VRep, DRep] at hx
    cases op <;> simp at h
    subst h
    exact OpOK.pure hsr (vc := .bool !b) (by simp [execOp, ho, hx, Op.unary]) (by simp [VRep, DRep])
  · rename_i k n hb
    rw [hb] at hx
    simp only [VRep, DRep] at hx
    cases op <;> simp at h
    subst h
    exact OpOK.pure hsr (vc := .int k (k.wrap (0 - n))) (by simp [execOp, ho, hx, Op.unary, Op.intArith]) (by simp [VRep, DRep])
  · cases h

theorem fa_ok {off : Nat} : ∀ {x v : V} {u : Value}, VRep c x u → faV off x = some v → ∃ b q, u = .pointer (some ⟨b, q, none⟩) ∧ VRep c v (.pointer (some ⟨b, q + off, none⟩)) := by
  intro x v u hx h
  unfold faV at h
  split at h
  · rename_i k N i j
    simp at h
    subst h
    simp only [VRep] at hx
    obtain ⟨hx, b, q, rfl⟩ := hx
    refine ⟨b, q, rfl, ?_⟩
    simp only [VRep]
    refine ⟨?_, b, q + off, rfl⟩
    rcases hx with ⟨o, m, E, s, es, h1, h2, h3, g, q', cap, h4, h5⟩ | hd
    · refine .inl ⟨o, m, E, s, es, h1, h2, h3, g, q', cap, h4, ?_⟩
      simp only [Value.pointer.injEq, Option.some.injEq, Addr.mk.injEq, and_true] at h5 ⊢
      omega
    · exact .inr hd
  · rename_i g es j
    simp at h
    subst h
    simp only [VRep, DRep] at hx
    obtain ⟨b, q, rfl, h1, h2, h3⟩ := hx
    refine ⟨b, q + j, rfl, ?_⟩
    simp only [VRep, DRep]
    exact ⟨b, q, by simp [Nat.add_assoc], h1, h2, h3⟩
  · cases h

theorem op_fa {o : Oper} {s : TypeId} {i n : Nat} {x : Operand} {x' : Opd} {v : V} {fs : Array Field} {f : Field} (hsr : SR c) (ho : o.op = .fieldAddr s x i) (hx : VRep c (ρ x') (ρc x))
    (hu : P.underlying s = some (.struct fs)) (hf : fs[i]? = some f) (hn : szT P f.type = some n) (h0 : n ≠ 0) (h : faV f.offset (ρ x') = some v) : OpOK P ρc o c c.S n0 n0 v := by
  obtain ⟨b, q, hb, hv⟩ := fa_ok hx h
  refine OpOK.pure hsr ?_ hv
  simp [execOp, ho, hb, Instr.fieldAt, run_underlying hu, hf, Instr.sureAddr, fieldPlace, run_sizeOf hn, h0, add_eq]

theorem op_nc {o : Oper} {x : Operand} {x' : Opd} {v : V} (hsr : SR c) (ho : o.op = .nilCheck x) (hx : VRep c (ρ x') (ρc x)) (h : faV 0 (ρ x') = some v) : OpOK P ρc o c c.S n0 n0 v := by
  obtain ⟨b, q, hb, hv⟩ := fa_ok hx h
  refine OpOK.pure hsr ?_ hv
  simp [execOp, ho, hb]

theorem part_ok {t : TypeId} {n off : Nat} {agg : Bool} (hn : szT P t = some n) (ha : aggT P t = some agg) {cs : Array Value} {v : Value}
    (h : if agg then v = .agg (cs.extract off (off + n)) else cs[off]? = some v) (w : World) : (part t cs off).run P w = .ok v w := by
  cases agg
  · simp at h; simp [part, run_isAgg ha, h]
  · simp at h; simp [part, run_isAgg ha, run_sizeOf hn, h]

theorem DVals_take {w : World} {fb : Forb} {c' : Cx} (hw : c'.w = w) (hfb : c'.fb = fb) {xs : List D} {vs : List Value} (n : Nat) (h : DVals w fb xs vs) : DVals w fb (xs.take n) (vs.take n) := by
  subst hw hfb
  have := VVals_take n ((DVals_map (c := c') xs vs).2 h)
  rw [← List.map_take] at this
  exact (DVals_map _ _).1 this
theorem DVals_drop {w : World} {fb : Forb} {c' : Cx} (hw : c'.w = w) (hfb : c'.fb = fb) {xs : List D} {vs : List Value} (n : Nat) (h : DVals w fb xs vs) : DVals w fb (xs.drop n) (vs.drop n) := by
  subst hw hfb
  have := VVals_drop n ((DVals_map (c := c') xs vs).2 h)
  rw [← List.map_drop] at this
  exact (DVals_map _ _).1 this

theorem sub_ok {n j : Nat} {agg : Bool} {cs : List V} {vs : List Value} {x : V} (h : VVals c cs vs) (h1 : ∀ u ∈ vs, u.oneCell' = true) (hx : sub n j agg cs = some x) :
    ∃ v, VRep c x v ∧ (if agg then v = .agg (vs.toArray.extract j (j + n)) else vs[j]? = some v) ∧ (agg = true → j + n ≤ vs.length) := by
  unfold sub at hx
  cases agg
  · simp at hx
    obtain ⟨v, hv, hr⟩ := VVals_get j h hx
    exact ⟨v, hr, by simpa using hv, by simp⟩
  · simp at hx
    obtain ⟨hl, rfl⟩ := hx
    refine ⟨.agg ((vs.drop j).take n).toArray, mkAgg_ok (VVals_take n (VVals_drop j h)) (fun u hu => h1 u (List.mem_of_mem_drop (List.mem_of_mem_take hu))), ?_, fun _ => by rw [VVals_length h]; exact hl⟩
    simp [List.extract_eq_take_drop]

theorem sub_map {n j : Nat} {agg : Bool} {cs : List D} : sub n j agg (cs.map .d) = subD n j agg cs := by
  unfold sub subD
  have hall : ∀ l : List D, allD (l.map V.d) = some l := by
    intro l
    induction l with
    | nil => rfl
    | cons a r ih => simp [allD, ih]
  cases agg
  · simp
  · simp [mkAgg, ← List.map_drop, ← List.map_take, hall]

theorem op_fld {o : Oper} {s : TypeId} {i n : Nat} {agg : Bool} {x : Operand} {v : V} {u : Value} {cs : List V} {fs : Array Field} {f : Field} (hsr : SR c) (ho : o.op = .field s x i) (hxu : ρc x = u) {vs : List Value} (hu' : u = .agg vs.toArray) (hvs : VVals c cs vs) (h1 : ∀ u ∈ vs, u.oneCell' = true)
    (hu : P.underlying s = some (.struct fs)) (hf : fs[i]? = some f) (hn : szT P f.type = some n) (ha : aggT P f.type = some agg) (h : sub n f.offset agg cs = some v) : OpOK P ρc o c c.S n0 n0 v := by
  obtain ⟨r, hr, hp, _⟩ := sub_ok hvs h1 h
  refine OpOK.pure hsr (vc := r) ?_ hr
  have := part_ok (P := P) hn ha (cs := vs.toArray) (v := r) (off := f.offset) (by cases agg <;> simpa using hp) c.w
  simp [execOp, ho, hxu, hu', Instr.field, run_underlying hu, hf, asAgg, this]

theorem DCells_drop {w : World} {fb : Forb} {b : Nat} : ∀ (j : Nat) {es : List D} {o : Nat}, DCells w fb b es o → DCells w fb b (es.drop j) (o + j)
  | 0, _, _, h => by simpa using h
  | j + 1, [], _, _ => by simp [DCells]
  | j + 1, d :: ds, o, h => by
    simp only [DCells] at h
    have := DCells_drop j h.2
    rwa [Nat.add_assoc, Nat.add_comm 1 j] at this
theorem DCells_get {w : World} {fb : Forb} {b : Nat} : ∀ (j : Nat) {es : List D} {o : Nat} {x : D}, DCells w fb b es o → es[j]? = some x → ∃ v, w.cell? ⟨b, o + j, none⟩ = some v ∧ v.oneCell' = true ∧ DRep w fb x v
  | _, [], _, _, _, h => by simp at h
  | 0, d :: ds, o, x, h, hx => by
    simp only [DCells] at h
    simp at hx
    subst hx
    exact h.1
  | j + 1, d :: ds, o, x, h, hx => by
    simp only [DCells] at h
    have := DCells_get j h.2 (by simpa using hx)
    rwa [Nat.add_assoc, Nat.add_comm 1 j] at this
/-- The values in some cells. -/
theorem DCells_vals {w : World} {fb : Forb} {b : Nat} : ∀ {es : List D} {o : Nat}, DCells w fb b es o → ∃ vs : List Value, DVals w fb es vs ∧ (∀ u ∈ vs, u.oneCell' = true) ∧ ∀ j v, vs[j]? = some v → w.cell? ⟨b, o + j, none⟩ = some v
  | [], o, _ => ⟨[], by simp [DVals], by simp, by simp⟩
  | d :: ds, o, h => by
    simp only [DCells] at h
    obtain ⟨⟨v, h1, h2, h3⟩, h4⟩ := h
    obtain ⟨vs, g1, g2, g3⟩ := DCells_vals h4
    refine ⟨v :: vs, ⟨v, vs, rfl, h3, g1⟩, fun u hu => ?_, fun j u hu => ?_⟩
    · rcases List.mem_cons.1 hu with rfl | hu
      · exact h2
      · exact g2 u hu
    · cases j with
      | zero => simp at hu; subst hu; exact h1
      | succ j => simp at hu; have := g3 j u hu; rwa [Nat.add_assoc, Nat.add_comm 1 j] at this

theorem DRows_get {w : World} {fb : Forb} {b s : Nat} : ∀ (i : Nat) {es : List (List D)} {o : Nat} {e : List D}, DRows w fb b s es o → es[i]? = some e → e.length = s ∧ DCells w fb b e (o + i * s)
  | _, [], _, _, _, h => by simp at h
  | 0, d :: ds, o, e, h, he => by
    simp only [DRows] at h
    simp at he
    subst he
    simpa using ⟨h.1, h.2.1⟩
  | i + 1, d :: ds, o, e, h, he => by
    simp only [DRows] at h
    have := DRows_get i h.2.2 (by simpa using he)
    refine ⟨this.1, ?_⟩
    have h2 := this.2
    rwa [show o + s + i * s = o + (i + 1) * s by rw [Nat.add_mul]; omega] at h2

theorem op_ia {o : Oper} {t e : TypeId} {s : Nat} {x i : Operand} {x' i' : Opd} {v : V} (hsr : SR c) (ho : o.op = .indexAddr t x i) (hx : VRep c (ρ x') (ρc x)) (hi : VRep c (ρ i') (ρc i))
    (ht : slT P t = some (e, s)) (h : iaV s (ρ x') (ρ i') = some v) : OpOK P ρc o c c.S n0 n0 v := by
  obtain ⟨hu, hs⟩ := slT_some ht
  unfold iaV at h
  split at h
  · rename_i g s' es k n ha hb
    rw [ha] at hx; rw [hb] at hi
    simp only [VRep, DRep] at hx hi
    split at h
    · rename_i hc
      obtain ⟨rfl, h0⟩ := hc
      simp only [Option.map_eq_some_iff] at h
      obtain ⟨e', he, rfl⟩ := h
      obtain ⟨A, cap, hA, _, hr⟩ := hx
      have hlt : n.toNat < es.length := (List.getElem?_eq_some_iff.1 he).1
      obtain ⟨b, q, rfl, hf, hbl, hrow⟩ := hr (by rintro rfl; simp at hlt)
      obtain ⟨hl, hcells⟩ := DRows_get n.toNat hrow he
      refine OpOK.pure hsr (vc := .pointer (some ⟨b, q + n.toNat * s', none⟩)) ?_ ?_
      · have : n < es.length := by omega
        simp [execOp, ho, hA, hi, Instr.indexAt, asIntOf, run_underlying hu, h0, this, run_sizeOf hs, add_eq]
      · simp only [VRep, DRep]
        exact ⟨b, q + n.toNat * s', rfl, hf, hbl, hcells⟩
    · cases h
  · rename_i ob s' N k n ha hb
    rw [ha] at hx; rw [hb] at hi
    simp only [VRep, DRep] at hx hi
    split at h
    · rename_i hc
      obtain ⟨rfl, h0, hN⟩ := hc
      simp at h
      subst h
      obtain ⟨hx, A, cap, hA, hsh⟩ := hx
      obtain ⟨b, q, rfl⟩ := hsh (by omega)
      refine OpOK.pure hsr (vc := .pointer (some ⟨b, q + n.toNat * s', none⟩)) ?_ ?_
      · simp [execOp, ho, hA, hi, Instr.indexAt, asIntOf, run_underlying hu, h0, hN, run_sizeOf hs, add_eq]
      · simp only [VRep]
        refine ⟨?_, b, _, rfl⟩
        rcases hx with ⟨o', m, E, es, h1, h2, h3, h4⟩ | hd
        · exact .inl ⟨o', m, E, s', es, h1, h2, h3, b, q, cap, by rw [← h4, hA], by simp⟩
        · exact .inr hd
    · cases h
  · cases h

theorem DRows_drop {w : World} {fb : Forb} {b s : Nat} : ∀ (i : Nat) {es : List (List D)} {o : Nat}, DRows w fb b s es o → DRows w fb b s (es.drop i) (o + i * s)
  | 0, _, _, h => by simpa using h
  | i + 1, [], _, _ => by simp [DRows]
  | i + 1, d :: ds, o, h => by
    simp only [DRows] at h
    have := DRows_drop i h.2.2
    rwa [show o + s + i * s = o + (i + 1) * s by rw [Nat.add_mul]; omega] at this
theorem DRows_take {w : World} {fb : Forb} {b s : Nat} : ∀ (i : Nat) {es : List (List D)} {o : Nat}, DRows w fb b s es o → DRows w fb b s (es.take i) o
  | 0, _, _, _ => by simp [DRows]
  | i + 1, [], _, _ => by simp [DRows]
  | i + 1, d :: ds, o, h => by
    simp only [DRows] at h
    simp only [List.take_succ_cons, DRows]
    exact ⟨h.1, h.2.1, DRows_take i h.2.2⟩

theorem run_sliceBound {x y : Nat} {k : IntKind} (code : BoundsCode) (h : x ≤ y) (w : World) : (Instr.sliceBound (.int k x) y code).run P w = .ok x w := by
  simp [Instr.sliceBound, asIntOf, h]

theorem slice_part {w : World} {fb : Forb} {g s n m cap : Nat} {es : List (List D)} {A : Option Addr} (hle : es.length ≤ cap) (hr : es ≠ [] → ∃ b o, A = some ⟨b, o, none⟩ ∧ ¬ fb g b ∧ b < w.heap.size ∧ DRows w fb b s es o) (h1 : n ≤ m) (h2 : m ≤ es.length) :
    DRep w fb (.slice g s ((es.take m).drop n)) (.slice (if cap = n then A else A.map (·.add (n * s))) (m - n) (cap - n)) := by
  have hlen : ((es.take m).drop n).length = m - n := by simp [Nat.min_eq_left h2]
  simp only [DRep, hlen]
  refine ⟨_, _, rfl, by omega, fun hne => ?_⟩
  have hlt : n < m := by
    rcases Nat.lt_or_ge n m with h | h
    · exact h
    · exact absurd (List.eq_nil_of_length_eq_zero (by omega)) hne
  obtain ⟨b, q, rfl, g1, g2, g3⟩ := hr (by rintro rfl; simp at h2; omega)
  exact ⟨b, q + n * s, by simp [show cap ≠ n by omega, add_eq], g1, g2, DRows_drop n (DRows_take m g3)⟩

theorem op_slc {o : Oper} {t e : TypeId} {s : Nat} {x : Operand} {lo hi : Option Operand} {v : V} {xv lv : V} {hv : Option V} (hsr : SR c) (ho : o.op = .slice t x lo hi none) (hx : VRep c xv (ρc x))
    (hl : match lo with | none => lv = .d (.int .i64 0) | some l => VRep c lv (ρc l)) (hh : match hi, hv with | none, none => True | some h, some y => VRep c y (ρc h) | _, _ => False)
    (ht : slT P t = some (e, s)) (h : slcV s xv lv hv = some v) : OpOK P ρc o c c.S n0 n0 v := by
  obtain ⟨hu, hs⟩ := slT_some ht
  unfold slcV at h
  split at h
  · rename_i g s' es k l
    simp only [VRep, DRep] at hx
    split at h
    · rename_i hc
      obtain ⟨rfl, h0, hle⟩ := hc
      simp at h
      subst h
      obtain ⟨A, cap, hA, hcap, hr⟩ := hx
      obtain ⟨n, rfl⟩ := Int.eq_ofNat_of_zero_le h0
      have hle' : n ≤ es.length := by simpa using hle
      have hrep := slice_part (n := n) hcap hr hle' (Nat.le_refl _)
      rw [List.take_length] at hrep
      cases hi with
      | some y => simp at hh
      | none =>
        refine OpOK.pure hsr (vc := .slice (if cap = n then A else A.map (·.add (n * s'))) (es.length - n) (cap - n)) ?_ (by simp only [VRep, Int.toNat_natCast]; exact hrep)
        cases lo with
        | none =>
          simp only [V.d.injEq, D.int.injEq] at hl
          obtain ⟨_, hl⟩ := hl
          have : n = 0 := by omega
          subst this
          simp [execOp, ho, hA, Instr.sliceAt, Instr.slice, run_underlying hu, Instr.sliceBounds, run_sizeOf hs]
        | some y =>
          simp only [VRep, DRep] at hl
          simp [execOp, ho, hA, Instr.sliceAt, Instr.slice, run_underlying hu, Instr.sliceBounds, run_sizeOf hs, hl, run_sliceBound _ hle']
    · cases h
  · rename_i g s' es k l k2 m
    simp only [VRep, DRep] at hx
    split at h
    · rename_i hc
      obtain ⟨rfl, h0, hlm, hle⟩ := hc
      simp at h
      subst h
      obtain ⟨A, cap, hA, hcap, hr⟩ := hx
      obtain ⟨n, rfl⟩ := Int.eq_ofNat_of_zero_le h0
      obtain ⟨m, rfl⟩ := Int.eq_ofNat_of_zero_le (Int.le_trans h0 hlm)
      have hle' : m ≤ es.length := by simpa using hle
      have hnm : n ≤ m := by simpa using hlm
      have hrep := slice_part (n := n) (m := m) hcap hr hnm hle'
      cases hi with
      | none => simp at hh
      | some y =>
        simp only [VRep, DRep] at hh
        refine OpOK.pure hsr (vc := .slice (if cap = n then A else A.map (·.add (n * s'))) (m - n) (cap - n)) ?_ (by simp only [VRep, Int.toNat_natCast]; exact hrep)
        have hmc : m ≤ cap := by omega
        cases lo with
        | none =>
          simp only [V.d.injEq, D.int.injEq] at hl
          obtain ⟨_, hl⟩ := hl
          have : n = 0 := by omega
          subst this
          simp [execOp, ho, hA, Instr.sliceAt, Instr.slice, run_underlying hu, Instr.sliceBounds, run_sizeOf hs, hh, run_sliceBound _ hmc]
        | some z =>
          simp only [VRep, DRep] at hl
          simp [execOp, ho, hA, Instr.sliceAt, Instr.slice, run_underlying hu, Instr.sliceBounds, run_sizeOf hs, hl, hh, run_sliceBound _ hmc, run_sliceBound _ hnm]
    · cases h
  · cases h

theorem op_ext {o : Oper} {x : Operand} {i : Nat} {v : V} {vs : List V} (hsr : SR c) (ho : o.op = .extract x i) (hx : VRep c (.tup vs) (ρc x)) (h : vs[i]? = some v) : OpOK P ρc o c c.S n0 n0 v := by
  simp only [VRep] at hx
  obtain ⟨us, hu, hr⟩ := hx
  obtain ⟨u, hu2, hr2⟩ := VVals_get i hr h
  exact OpOK.pure hsr (vc := u) (by simp [execOp, ho, hu, Instr.extract, hu2]) hr2

theorem op_len {o : Oper} {ty : TypeId} {x : Operand} {x' : Opd} {k : Nat} {str : Bool} (hsr : SR c) {cl : Call} (ho : o.op = .call cl) (hcal : cl.callee = .builtin .len) (hargs : cl.args.toList = [x]) (hty : cl.argTypes.toList = [ty])
    (hx : VRep c (ρ x') (ρc x)) (hu : if str then P.underlying ty = some .string else ∃ e, P.underlying ty = some (.slice e)) (h : lenV str (ρ x') = some k) : OpOK P ρc o c c.S n0 n0 (.d (.int .i64 k)) := by
  have ha : cl.args = #[x] := by rw [← Array.toArray_toList (xs := cl.args), hargs]
  have ht : cl.argTypes = #[ty] := by rw [← Array.toArray_toList (xs := cl.argTypes), hty]
  refine OpOK.pure hsr (vc := .int .i64 k) ?_ (by simp [VRep, DRep])
  have hlen : (Builtin.len_ #[ty] o.type #[ρc x]).run P c.w = .ok (.int .i64 k) c.w := by
    unfold lenV at h
    split at h
    · rename_i g s es hv
      simp at h hu; subst h
      obtain ⟨e, hu⟩ := hu
      rw [hv] at hx
      simp only [VRep, DRep] at hx
      obtain ⟨A, cap, hA, _⟩ := hx
      simp [Builtin.len_, run_underlying hu, hA, goInt]
    · rename_i s hv
      simp at h hu; subst h
      rw [hv] at hx
      simp only [VRep, DRep] at hx
      simp [Builtin.len_, run_underlying hu, hx, goInt]
    · rename_i E s hv
      simp at h hu; subst h
      obtain ⟨e, hu⟩ := hu
      rw [hv] at hx
      simp only [VRep] at hx
      simp [Builtin.len_, run_underlying hu, hx, goInt]
    · rename_i q s N hv
      simp at h hu; subst h
      obtain ⟨e, hu⟩ := hu
      rw [hv] at hx
      simp only [VRep] at hx
      obtain ⟨_, A, cap, hA, _⟩ := hx
      simp [Builtin.len_, run_underlying hu, hA, goInt]
    · cases h
  simp [execOp, ho, resolve, hcal, ha, ht, invoke, builtin, hlen]

theorem foldV_ok {f : V → V → Option V} {g : Value → Value → Sem Value} {w : World} (hfg : ∀ x y z u v, VRep c x u → VRep c y v → f x y = some z → ∃ r, (g u v).run P w = .ok r w ∧ VRep c z r) :
    ∀ (l : List V) (us : List Value) {x z : V} {u : Value}, VRep c x u → VVals c l us → foldV f x l = some z → ∃ r, (us.foldlM g u).run P w = .ok r w ∧ VRep c z r
  | [], us, x, z, u, hx, hl, h => by
    simp only [VVals] at hl
    subst hl
    simp [foldV] at h
    subst h
    exact ⟨u, by simp, hx⟩
  | y :: r, us, x, z, u, hx, hl, h => by
    simp only [VVals] at hl
    obtain ⟨v, q, rfl, h1, h2⟩ := hl
    simp only [foldV] at h
    split at h
    · rename_i t ht
      obtain ⟨a, ha, hr⟩ := hfg x y t u v hx h1 ht
      obtain ⟨b, hb, hr2⟩ := foldV_ok hfg r q hr h2 h
      exact ⟨b, by simp [List.foldlM_cons, ha, hb], hr2⟩
    · cases h

theorem maxI_ok {w : World} : ∀ x y z u v, VRep c x u → VRep c y v → maxI x y = some z → ∃ r, (Builtin.max2 u v).run P w = .ok r w ∧ VRep c z r := by
  intro x y z u v hx hy h
  unfold maxI at h
  split at h
  · split at h
    · rename_i k a k' b hk
      subst hk
      simp at h
      subst h
      simp only [VRep, DRep] at hx hy
      subst hx hy
      exact ⟨_, by simp [Builtin.max2]; rfl, by simp [VRep, DRep]⟩
    · cases h
  · cases h
theorem minI_ok {w : World} : ∀ x y z u v, VRep c x u → VRep c y v → minI x y = some z → ∃ r, (Builtin.min2 u v).run P w = .ok r w ∧ VRep c z r := by
  intro x y z u v hx hy h
  unfold minI at h
  split at h
  · split at h
    · rename_i k a k' b hk
      subst hk
      simp at h
      subst h
      simp only [VRep, DRep] at hx hy
      subst hx hy
      exact ⟨_, by simp [Builtin.min2]; rfl, by simp [VRep, DRep]⟩
    · cases h
  · cases h

theorem op_mx {o : Oper} {x : Operand} {r : List Operand} {xv z : V} {rv : List V} (hsr : SR c) {cl : Call} (ho : o.op = .call cl) (hcal : cl.callee = .builtin .max) (hargs : cl.args.toList = x :: r)
    (hx : VRep c xv (ρc x)) (hr : VVals c rv (r.map ρc)) (h : foldV maxI xv rv = some z) : OpOK P ρc o c c.S n0 n0 z := by
  have ha : cl.args = (x :: r).toArray := by rw [← Array.toArray_toList (xs := cl.args), hargs]
  obtain ⟨q, hq, hz⟩ := foldV_ok (P := P) (w := c.w) maxI_ok rv (r.map ρc) hx hr h
  exact OpOK.pure hsr (vc := q) (by simp [execOp, ho, resolve, hcal, ha, invoke, builtin, Builtin.max_, hq]) hz
theorem op_mn {o : Oper} {x : Operand} {r : List Operand} {xv z : V} {rv : List V} (hsr : SR c) {cl : Call} (ho : o.op = .call cl) (hcal : cl.callee = .builtin .min) (hargs : cl.args.toList = x :: r)
    (hx : VRep c xv (ρc x)) (hr : VVals c rv (r.map ρc)) (h : foldV minI xv rv = some z) : OpOK P ρc o c c.S n0 n0 z := by
  have ha : cl.args = (x :: r).toArray := by rw [← Array.toArray_toList (xs := cl.args), hargs]
  obtain ⟨q, hq, hz⟩ := foldV_ok (P := P) (w := c.w) minI_ok rv (r.map ρc) hx hr h
  exact OpOK.pure hsr (vc := q) (by simp [execOp, ho, resolve, hcal, ha, invoke, builtin, Builtin.min_, hq]) hz

theorem op_mkf {o : Oper} {fn : Fn} {fst caps : Array Operand} {a b : List V} (hsr : SR c) (ho : o.op = .makeFunc fn fst caps) (ha : VVals c a (fst.toList.map ρc)) (hb : VVals c b (caps.toList.map ρc)) :
    OpOK P ρc o c c.S n0 n0 (mkFunc fn a b) := by
  refine OpOK.pure hsr (vc := .func fn (fst.toList.map ρc).toArray (caps.toList.map ρc).toArray) ?_ (mkFunc_ok ha hb)
  simp only [execOp, ho, Instr.makeFunc]
  simp
  constructor <;> (apply Array.ext'; simp)

end
end Go.R

namespace Go.R
section
variable {P : Program} {c : Cx} {n0 : Nat} {ρ : Opd → V} {ρc : Operand → Value}

theorem load_ok {t : TypeId} {n j : Nat} {agg : Bool} (hn : szT P t = some n) (ha : aggT P t = some agg) {w : World} {g b : Nat} {vs : List Value} {r : Value}
    (hc : ∀ p u, vs[p]? = some u → w.cell? ⟨g, b + p, none⟩ = some u) (hr : if agg then r = .agg (vs.toArray.extract j (j + n)) else vs[j]? = some r) (hl : agg = true → j + n ≤ vs.length) :
    (loadVar t ⟨g, b + j, none⟩).run P w = .ok r w := by
  cases agg
  · simp at hr
    simp [loadVar, run_isAgg ha, hc j r hr]
  · simp at hr hl
    have hcs : (loadCells ⟨g, b + j, none⟩ n).run P w = .ok ((vs.drop j).take n).toArray w := by
      have := run_loadCells_list (P := P) w ⟨g, b + j, none⟩ ((vs.drop j).take n) (fun p u hp => by
        rw [add_eq, Nat.add_assoc]
        refine hc (j + p) u ?_
        rw [List.getElem?_take] at hp
        split at hp
        · rwa [List.getElem?_drop] at hp
        · cases hp)
      rwa [List.length_take, List.length_drop, Nat.min_eq_left (by omega)] at this
    simp [loadVar, run_isAgg ha, run_sizeOf hn, hcs, hr, List.extract_eq_take_drop]

/-- What lies in an element of an object. -/
theorem row_cells (hsr : SR c) {k : Nat} {o : Ob} {m : Bool} {E s : Nat} {es : List (List V)} (hk : c.S k = some o) (hr : rowEs o = some (m, E, s, es)) {i : Nat} {e : List V} (he : es[i]? = some e) {g q cap : Nat}
    (hσ : c.σ k = .slice (some ⟨g, q, none⟩) es.length cap) :
    ∃ vs : List Value, VVals c e vs ∧ (∀ u ∈ vs, u.oneCell' = true) ∧ ∀ p u, vs[p]? = some u → c.w.cell? ⟨g, q + i * s + p, none⟩ = some u := by
  cases m with
  | true =>
    obtain ⟨flat, h1, h2, h3, h4⟩ := (obOK_row hr).1 (hsr.ob k o hk)
    rw [hσ] at h1
    have hq : q = 0 := by
      rcases h1.2 with ⟨h, _⟩ | ⟨g', cap', cur, h, _⟩
      · cases h
      · simp at h; exact h.1.2
    subst hq
    obtain ⟨f1, f2, f3, f4⟩ := flatten_split h2 he
    refine ⟨(flat.drop (i * s)).take s, ?_, fun u hu => h4 u (List.mem_of_mem_drop (List.mem_of_mem_take hu)), fun p u hp => ?_⟩
    · have := VVals_take s (VVals_drop (i * s) h3)
      rwa [flatten_at i h2 he] at this
    · rw [List.getElem?_take] at hp
      split at hp
      · rw [List.getElem?_drop] at hp
        have := h1.cells (g := g) rfl (i * s + p) u hp
        rwa [add_eq, show 0 + (i * s + p) = 0 + i * s + p by omega] at this
      · cases hp
  | false =>
    obtain ⟨ds, rfl, rfl, h1, h2⟩ := rowEs_frozen hr (hsr.ob k o hk)
    simp only [List.getElem?_map, Option.map_eq_some_iff] at he
    obtain ⟨d, hd, rfl⟩ := he
    simp only [DRep] at h1
    obtain ⟨A, cap', hv, _, hrow⟩ := h1
    rw [hσ] at hv
    simp at hv
    obtain ⟨rfl, rfl⟩ := hv
    have hne : ds ≠ [] := by rintro rfl; simp at hd
    obtain ⟨b, q', ha, _, _, hrows⟩ := hrow hne
    simp at ha
    obtain ⟨rfl, rfl⟩ := ha
    obtain ⟨_, hcells⟩ := DRows_get i hrows hd
    obtain ⟨vs, g1, g2, g3⟩ := DCells_vals hcells
    exact ⟨vs, (DVals_map _ _).2 g1, g2, g3⟩

/-- A reference that is not stale. -/
theorem loc_valid {k N i j : Nat} {v : Value} (h : VRep c (.loc k N i j) v) {o : Ob} (hk : c.S k = some o) {m : Bool} {E s : Nat} {es : List (List V)} (hr : rowEs o = some (m, E, s, es)) (hl : es.length = N) :
    ∃ g q cap, c.σ k = .slice (some ⟨g, q, none⟩) es.length cap ∧ v = .pointer (some ⟨g, q + (i * s + j), none⟩) := by
  simp only [VRep] at h
  rcases h.1 with ⟨o', m', E', s', es', h1, h2, h3, g, q, cap, h4, h5⟩ | ⟨_, hd | ⟨o', m', E', s', es', h1, h2, h3⟩⟩
  · rw [hk] at h1
    cases h1
    rw [hr] at h2
    cases h2
    exact ⟨g, q, cap, by rw [hl]; exact h4, h5⟩
  · rw [hk] at hd; cases hd
  · rw [hk] at h1
    cases h1
    rw [hr] at h2
    cases h2
    omega

theorem rdOb_some {N i j n : Nat} {agg : Bool} {o : Ob} {v : V} (h : rdOb N i j n agg o = some v) :
    ∃ m E s es e, rowEs o = some (m, E, s, es) ∧ es.length = N ∧ es[i]? = some e ∧ sub n j agg e = some v := by
  cases o with
  | grow m E s ds =>
    simp only [rdOb] at h
    split at h
    · rename_i hN
      split at h
      · rename_i e he
        exact ⟨m, E, s, _, e.map .d, rfl, by simpa using hN, by simp [he], by rw [sub_map]; exact h⟩
      · cases h
    · cases h
  | row m E s es =>
    simp only [rdOb] at h
    split at h
    · rename_i hN
      split at h
      · rename_i e he
        exact ⟨m, E, s, es, e, rfl, hN, he, h⟩
      · cases h
    · cases h
  | map _ => simp [rdOb] at h

theorem rd_run (hsr : SR c) {t : TypeId} {k N i j n : Nat} {agg : Bool} {u : Value} {o : Ob} {v : V} (hx : VRep c (.loc k N i j) u) (hk : c.S k = some o) (hn : szT P t = some n) (ha : aggT P t = some agg) (h : rdOb N i j n agg o = some v) :
    ∃ a r, u = .pointer (some a) ∧ (loadVar t a).run P c.w = .ok r c.w ∧ VRep c v r := by
  obtain ⟨m, E, s, es, e, h1, h2, h3, h4⟩ := rdOb_some h
  obtain ⟨g, q, cap, hσ, hu⟩ := loc_valid hx hk h1 h2
  obtain ⟨vs, g1, g2, g3⟩ := row_cells hsr hk h1 h3 hσ
  obtain ⟨r, hr, hp, hl⟩ := sub_ok g1 g2 h4
  refine ⟨_, r, hu, ?_, hr⟩
  rw [← Nat.add_assoc]
  exact load_ok hn ha g3 hp hl

theorem op_ldl {o : Oper} {t : TypeId} {a : Operand} {k N i j n : Nat} {agg : Bool} {ob : Ob} {v : V} (hsr : SR c) (ho : o.op = .load t a) (hx : VRep c (.loc k N i j) (ρc a)) (hk : c.S k = some ob)
    (hn : szT P t = some n) (ha : aggT P t = some agg) (h : rdOb N i j n agg ob = some v) : OpOK P ρc o c c.S n0 n0 v := by
  obtain ⟨ad, r, hu, hr, hv⟩ := rd_run hsr hx hk hn ha h
  exact OpOK.pure hsr (vc := r) (by simp [execOp, ho, hu, Instr.loadAt, Instr.sureAddr, hr]) hv

theorem op_ldc {o : Oper} {t : TypeId} {a : Operand} {g j n : Nat} {agg : Bool} {es : List D} {v : V} (hsr : SR c) (ho : o.op = .load t a) (hx : VRep c (.d (.cptr g es j)) (ρc a))
    (hn : szT P t = some n) (ha : aggT P t = some agg) (h : subD n j agg es = some v) : OpOK P ρc o c c.S n0 n0 v := by
  simp only [VRep, DRep] at hx
  obtain ⟨b, q, hu, _, _, hc⟩ := hx
  obtain ⟨vs, g1, g2, g3⟩ := DCells_vals hc
  obtain ⟨r, hr, hp, hl⟩ := sub_ok ((DVals_map _ _).2 g1) g2 (by rw [sub_map]; exact h)
  refine OpOK.pure hsr (vc := r) ?_ hr
  have := load_ok (P := P) hn ha g3 hp hl
  simp [execOp, ho, hu, Instr.loadAt, Instr.sureAddr, this]

/-! ### stores -/
theorem grownBy_setRow (w : World) (g : Nat) (cs : Array Value) : w.grownBy (w.setRow g cs) (some g) :=
  ⟨rfl, rfl, rfl, by simp [World.setRow], fun k _ hk => setRow_other w g k cs (fun e => hk (by rw [e]))⟩

theorem store_owned {w : World} {E s N g cap : Nat} {flat vs : List Value} {p : Nat} (h : w.ownsRow 0 E s (.slice (some ⟨g, 0, none⟩) N cap) N flat) (hp : p + vs.length ≤ flat.length) (h1 : ∀ u ∈ vs, u.oneCell' = true) :
    ∃ w', (storeCells ⟨g, p, none⟩ vs).run P w = .ok () w' ∧ w'.ownsRow 0 E s (.slice (some ⟨g, 0, none⟩) N cap) N (splice flat p vs) ∧ w.grownBy w' (some g) := by
  rcases h.2 with ⟨h', _⟩ | ⟨g', cap', cur, h', h0, hg, hnc, hcm, hcs, htake⟩
  · cases h'
  · simp at h'
    obtain ⟨rfl, rfl⟩ := h'
    have hlen := h.1
    have hle : N * s ≤ cur.size := by rw [hcs]; exact Nat.mul_le_mul_right _ hnc
    have hr := run_storeCells_at (P := P) g p E vs 0 cur w hg (by omega) h1
    simp only [Nat.add_zero] at hr
    refine ⟨_, hr, ⟨by rw [splice_length hp]; exact hlen, .inr ⟨g, cap, _, rfl, h0, setRow_heap w g cur _ E _ hg, hnc, hcm, ?_, ?_⟩⟩, grownBy_setRow w g _⟩
    · simp only [List.size_toArray, List.length_append, List.length_take, List.length_drop, Array.length_toList]
      omega
    · subst htake
      unfold splice
      simp only []
      rw [List.take_append, List.take_append]
      simp only [List.length_take, List.length_append, Array.length_toList, List.take_take]
      rw [Nat.min_eq_left (by omega : p ≤ cur.size), Nat.min_eq_right (by omega : p ≤ N * s), List.take_of_length_le (by omega : vs.length ≤ N * s - p)]
      congr 1
      · rw [Nat.min_eq_left (by omega : p ≤ N * s)]
      · rw [List.drop_take]

theorem wrOb_some {N i j : Nat} {cs : List V} {o o' : Ob} (h : wrOb N i j cs o = some o') :
    ∃ E s es e, rowEs o = some (true, E, s, es) ∧ es.length = N ∧ es[i]? = some e ∧ j + cs.length ≤ e.length ∧ rowEs o' = some (true, E, s, es.set i (splice e j cs)) := by
  cases o with
  | grow m E s ds =>
    cases m with
    | false => simp [wrOb] at h
    | true =>
      simp only [wrOb] at h
      split at h
      · rename_i hN
        split at h
        · rename_i e he
          split at h
          · rename_i hj
            refine ⟨E, s, _, e.map .d, rfl, by simpa using hN, by simp [he], by simpa using hj, ?_⟩
            split at h
            · rename_i l hl
              simp at h
              subst h
              rw [allD_eq hl]
              simp only [rowEs, List.map_set, Option.some.injEq, Prod.mk.injEq, true_and]
              congr 1
              simp [splice, List.map_append, List.map_take, List.map_drop]
            · simp at h
              subst h
              rfl
          · cases h
        · cases h
      · cases h
  | row m E s es =>
    cases m with
    | false => simp [wrOb] at h
    | true =>
      simp only [wrOb] at h
      split at h
      · rename_i hN
        split at h
        · rename_i e he
          split at h
          · rename_i hj
            simp at h
            subst h
            exact ⟨E, s, es, e, rfl, hN, he, hj, rfl⟩
          · cases h
        · cases h
      · cases h
  | map _ => simp [wrOb] at h

theorem wr_run (hsr : SR c) {k N i j : Nat} {u : Value} {o o' : Ob} {cs : List V} {vs : List Value} (hx : VRep c (.loc k N i j) u) (hk : c.S k = some o) (h : wrOb N i j cs o = some o') (hv : VVals c cs vs) (h1 : ∀ x ∈ vs, x.oneCell' = true) :
    ∃ a w', u = .pointer (some a) ∧ (storeCells a vs).run P c.w = .ok () w' ∧ SR (c.put w' k o' (c.σ k)) ∧ Pres c (c.put w' k o' (c.σ k)) ∧ ∃ g, c.M g ∧ c.w.grownBy w' (some g) := by
  obtain ⟨E, s, es, e, h2, h3, h4, h5, h6⟩ := wrOb_some h
  obtain ⟨g, q, cap, hσ, hu⟩ := loc_valid hx hk h2 h3
  obtain ⟨flat, f1, f2, f3, f4⟩ := (obOK_row h2).1 (hsr.ob k o hk)
  have hown := f1
  rw [hσ] at hown
  have hq : q = 0 := by
    rcases hown.2 with ⟨h, _⟩ | ⟨g', cap', cur, h, _⟩
    · cases h
    · simp at h; exact h.1.2
  subst hq
  have hil : i < es.length := (List.getElem?_eq_some_iff.1 h4).1
  have hel : e.length = s := f2 e (List.mem_of_getElem? h4)
  have hfl : flat.length = es.length * s := f1.1
  have hcl := VVals_length hv
  have hmul : i * s + s ≤ es.length * s := by
    rw [← Nat.succ_mul]
    exact Nat.mul_le_mul_right _ hil
  obtain ⟨w', r1, r2, r3⟩ := store_owned (P := P) (p := i * s + j) (vs := vs) hown (by omega) h1
  refine ⟨⟨g, i * s + j, none⟩, w', by simpa using hu, r1, ?_⟩
  have hb : blkOf (c.σ k) = some g := by rw [hσ]; rfl
  have := put_row hsr hk h2 h6 r3 (row := some g) (fun b hb' => by simp at hb'; subst hb'; exact hb) (v := c.σ k) (flat := splice flat (i * s + j) vs)
    (by simp) (fun _ => rfl) (fun b hb' => .inr hb') (by rw [List.length_set, hσ]; exact r2) (set_lens i f2 (by rw [splice_length (by omega)]; exact hel))
    (fun c' hp => by rw [flatten_set f2 h4 h5]; exact VVals_splice _ (VVals.keep hp _ _ f3) (VVals.keep hp _ _ hv))
    (fun x hx => by
      unfold splice at hx
      rcases List.mem_append.1 hx with hx | hx
      · rcases List.mem_append.1 hx with hx | hx
        · exact f4 x (List.mem_of_mem_take hx)
        · exact h1 x hx
      · exact f4 x (List.mem_of_mem_drop hx))
  exact ⟨this.1, this.2, g, ⟨k, o, hk, (rowEs_mut h2).1, hb⟩, r3⟩

theorem Go1_add {w' : World} {q : Nat} {o : Ob} {v : Value} (he : Ext (fun _ => False) c.w w') (hb : ∀ b, blkOf v = some b → c.w.heap.size ≤ b) (hs : SR (c.add w' q o v)) (hp : Pres c (c.add w' q o v)) : Go1 c (c.add w' q o v) :=
  ⟨hs, hp, he.mono fun _ h => h.elim, fun b hM => by
    rcases Cx.add_M hM with h | ⟨_, h⟩
    · exact .inl h
    · exact .inr (hb b h), rfl⟩

theorem Gave.add (w' : World) (q : Nat) (o : Ob) (v : Value) : Gave c (c.add w' q o v) q (q + 1) := fun k => by
  simp only [Cx.add]
  constructor
  · rintro (h | h)
    · exact .inl h
    · exact .inr (by omega)
  · rintro (h | h)
    · exact .inl h
    · exact .inr (by omega)
theorem Gave.put (n : Nat) (w' : World) (q : Nat) (o : Ob) (v : Value) : Gave c (c.put w' q o v) n n := fun k => ⟨.inl, fun h => h.elim id fun h => by omega⟩
theorem Cx.Fr.step {c' : Cx} {n m q : Nat} (h : c.Fr n q) (hg : Gave c c' n m) (hle : n ≤ m) : c'.Fr m q := fun k h1 h2 hk => by
  rcases (hg k).1 hk with h3 | h3
  · exact h k (by omega) h2 h3
  · omega
theorem Cx.Fr.head {n q : Nat} (h : c.Fr n q) (hq : n < q) : ¬ c.U n := h n (Nat.le_refl _) hq
theorem Cx.Fr.out {n q k : Nat} (h : c.Fr n q) (hk : c.U k) : k < n ∨ q ≤ k := by
  by_cases h1 : k < n
  · exact .inl h1
  · by_cases h2 : k < q
    · exact absurd hk (h k (by omega) h2)
    · exact .inr (by omega)

theorem putNew_append (S : Store) (n : Nat) : ∀ (l l' : List Ob), putNew S n (l ++ l') = putNew (putNew S n l) (n + l.length) l'
  | [], l' => by simp [putNew]
  | o :: r, l' => by
    simp only [List.cons_append, putNew, List.length_cons]
    rw [putNew_append _ _ r l', show n + 1 + r.length = n + (r.length + 1) by omega]

theorem upd_comm {α : Type} (f : Nat → α) {i j : Nat} (x y : α) (h : i ≠ j) : upd (upd f i x) j y = upd (upd f j y) i x := by
  funext k
  simp only [upd]
  split <;> split <;> simp_all

theorem putNew_comm (k : Nat) (x : Option Ob) : ∀ (l : List Ob) (S : Store) (n : Nat), k < n ∨ n + l.length ≤ k → putNew (upd S k x) n l = upd (putNew S n l) k x
  | [], S, n, _ => by simp [putNew]
  | o :: r, S, n, h => by
    simp only [List.length_cons] at h
    simp only [putNew]
    rw [upd_comm _ _ _ (by omega), putNew_comm k x r _ _ (by omega)]

theorem putNew_out (k : Nat) : ∀ (l : List Ob) (S : Store) (n : Nat), k < n ∨ n + l.length ≤ k → putNew S n l k = S k
  | [], S, n, _ => by simp [putNew]
  | o :: r, S, n, h => by
    simp only [List.length_cons] at h
    simp only [putNew]
    rw [putNew_out k r _ _ (by omega), upd_ne _ _ (by omega)]

/-- A nil row of the call's own. -/
theorem add_nil (hsr : SR c) {q : Nat} (hq : ¬ c.U q) (E s : Nat) : Go1 c (c.add c.w q (.grow true E s []) (.slice none 0 0)) ∧ VRep (c.add c.w q (.grow true E s []) (.slice none 0 0)) (.own q s 0) (.slice none 0 0) := by
  obtain ⟨h1, h2⟩ := add_row hsr (w' := c.w) (Ext.refl _ _) hq (o := .grow true E s []) (v := .slice none 0 0) (E := E) (s := s) (es := []) (flat := []) rfl (by simp [blkOf]) (World.ownsRow_nil _ _ _ _) (by simp) (by simp [VVals]) (by simp)
  refine ⟨Go1_add (Ext.refl _ _) (by simp [blkOf]) h1 h2, ?_⟩
  simp only [VRep]
  exact ⟨.inl ⟨.grow true E s [], true, E, [], by simp [Cx.add, upd_same], rfl, rfl, by simp [Cx.add, upd_same]⟩, none, 0, rfl, by simp⟩

theorem nils_ok : ∀ (cs : List V) {c : Cx} (hsr : SR c) {n : Nat} (hf : c.Fr n (n + (ownNils n cs).2.length)) {vs : List Value}, VVals c cs vs →
    ∃ c1, c1.w = c.w ∧ c1.F = c.F ∧ c1.S = putNew c.S n (ownNils n cs).2 ∧ Gave c c1 n (n + (ownNils n cs).2.length) ∧ Go1 c c1 ∧ VVals c1 (ownNils n cs).1 vs ∧ (ownNils n cs).1.length = cs.length := by
  intro cs
  induction cs with
  | nil => intro c hsr n hf vs h; exact ⟨c, rfl, rfl, rfl, Gave.refl _ _, .refl hsr, h, rfl⟩
  | cons x r ih =>
    intro c hsr n hf vs h
    simp only [VVals] at h
    obtain ⟨v, q, rfl, h1, h2⟩ := h
    by_cases hx : ∃ E s, x = .nil E s
    · obtain ⟨E, s, rfl⟩ := hx
      simp only [VRep] at h1
      subst h1
      simp only [ownNils, List.length_cons] at hf
      obtain ⟨g1, g2⟩ := add_nil hsr (q := n) (hf.head (by omega)) E s
      have ga := Gave.add (c := c) c.w n (.grow true E s []) (.slice none 0 0)
      obtain ⟨c1, a1, a2, a3, a4, a5, a6, a7⟩ := ih g1.sr (n := n + 1) (by
        have := hf.step ga (by omega)
        rwa [show n + ((ownNils (n + 1) r).2.length + 1) = n + 1 + (ownNils (n + 1) r).2.length by omega] at this) (VVals.keep g1.pres _ _ h2)
      refine ⟨c1, a1, a2, ?_, ?_, g1.trans a5, ?_, ?_⟩
      · simp only [ownNils, putNew]
        exact a3
      · simp only [ownNils, List.length_cons]
        have := ga.trans a4 (by omega) (by omega)
        rwa [show n + 1 + (ownNils (n + 1) r).2.length = n + ((ownNils (n + 1) r).2.length + 1) by omega] at this
      · simp only [ownNils, VVals]
        exact ⟨_, q, rfl, VRep.keep a5.pres _ _ g2, a6⟩
      · simp only [ownNils, List.length_cons, a7]
    · have hon : ownNils n (x :: r) = (x :: (ownNils n r).1, (ownNils n r).2) := by
        cases x <;> first | rfl | exact absurd ⟨_, _, rfl⟩ hx
      rw [hon] at hf
      obtain ⟨c1, a1, a2, a3, a4, a5, a6, a7⟩ := ih hsr hf h2
      rw [hon]
      refine ⟨c1, a1, a2, a3, a4, a5, ?_, ?_⟩
      · simp only [VVals]
        exact ⟨v, q, rfl, VRep.keep a5.pres _ _ h1, a6⟩
      · simp only [List.length_cons, a7]

theorem op_st {o : Oper} {t : TypeId} {a x : Operand} {k N i j m n : Nat} {xv : V} {cs : List V} {ob ob' : Ob} (hsr : SR c) (ho : o.op = .store t a x) (ha : VRep c (.loc k N i j) (ρc a)) (hx : VRep c xv (ρc x))
    (hk : c.S k = some ob) (hn : szT P t = some m) (hc : cellsV xv = some cs) (hlen : cs.length = m) (h : wrOb N i j (ownNils n cs).1 ob = some ob') (hf : c.Fr n (n + (ownNils n cs).2.length)) :
    OpOK P ρc o c (putNew (upd c.S k (some ob')) n (ownNils n cs).2) n (n + (ownNils n cs).2.length) .junk := by
  obtain ⟨vs, hv, hvs, h1⟩ := cells_ok hx hc
  obtain ⟨c1, a1, a2, a3, a4, a5, a6, a7⟩ := nils_ok cs hsr hf hvs
  have hkn := hf.out (hsr.lt hk)
  have hk1 : c1.S k = some ob := by
    rw [a3, putNew_out k _ _ _ hkn, hk]
  obtain ⟨ad, w', hu, hr, hs2, hp2, g, hM, hg⟩ := wr_run (P := P) a5.sr (VRep.keep a5.pres _ _ ha) hk1 h a6 h1
  rw [a1] at hr hg
  have hsz : (ρc x).cells.size = m := by rw [hv]; simp [VVals_length hvs, hlen]
  have hext : Ext c.M c.w w' := ⟨hg.os, hg.tape, hg.output, hg.size, fun b hb hn => hg.block b hb (fun e => hn (by simp at e; subst e; exact (a5.mb b hM).resolve_right (by omega)))⟩
  have hgo : Go1 c1 (c1.put w' k ob' (c1.σ k)) := ⟨hs2, hp2, by
      rw [a1] at *
      exact ⟨hg.os, hg.tape, hg.output, hg.size, fun b hb hn => hg.block b hb (fun e => hn (by simp at e; subst e; exact hM))⟩, fun b hb => by
      rcases Cx.put_M hb with ⟨k', o2, _, h2, hm2, hk2⟩ | ⟨_, hv2⟩
      · exact .inl ⟨k', o2, h2, hm2, hk2⟩
      · obtain ⟨E, s, es, e, g1, _⟩ := wrOb_some h
        exact .inl ⟨k, ob, hk1, (rowEs_mut g1).1, hv2⟩, rfl⟩
  refine ⟨.skip, undef, c1.put w' k ob' (c1.σ k), ?_, .inr ⟨rfl, rfl⟩, a5.trans hgo, ?_, a4, by simp [VRep]⟩
  · have hvc : (ρc x).cells.toList = vs := by rw [hv]
    simp [execOp, ho, hu, Instr.storeAt, Instr.sureAddr, storeVar, run_sizeOf hn, hsz, hvc, hr, Cx.put]
  · simp only [Cx.put, a3]
    rw [putNew_comm k _ _ _ _ hkn]

end
end Go.R
