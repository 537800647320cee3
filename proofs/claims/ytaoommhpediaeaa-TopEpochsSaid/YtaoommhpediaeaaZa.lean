/- TopEpochs, for every number of controllers and all rounds: it returns true, and its input reads as it did. No condition. -/
import Derived.Test.YtaoommhpediaeaaRows
import Derived.Test.YtaoommhpediaeaaCg
import Derived.Test.YtaoommhpediaeaaRe
import Derived.ProofKit
set_option linter.unusedVariables false
set_option linter.unusedSimpArgs false
set_option linter.defProp false

namespace Go.Proofs.Ytaoommhpediaeaa
open Go.ChangeShapes Go.WideShapes Go.ChangeAt Go.RowKit

section
variable {H : Type} {enc : TypeId × Value → H} {P : Program}
theorem post_of_below {f : Func} {s : ChangeSpec} {apart fresh handsOn again : Bool} {W W' : World} {args : Array Value} {v : Value} {ds gs : List (DataW H)} {before pa pv : List MemPlace}
    (hW : DataW.Whole enc P f.params.toList s.vars apart W args.toList ds gs before)
    (hres : ∀ (b : Nat) (sp : Nat → Bool) (hd : Bool), DataW.TrodAll enc P W' b sp hd f.resultTypes.toList (v.resultList f.resultTypes.size) (s.fn H (ds ++ gs)).results [])
    (hargs : ∀ sp : Nat → Bool, (∀ p ∈ before, sp p.block = true) → DataW.TrodAll enc P W' 0 sp true f.params.toList args.toList (s.fn H (ds ++ gs)).args pa)
    (hvars : ∀ sp : Nat → Bool, (∀ p ∈ before, sp p.block = true) → DataW.TrodVars enc P W' sp s.vars (s.fn H (ds ++ gs)).vars pv)
    (hps : before = pa ++ pv) (hb : Below W.heap.size W W')
    (hok : ∀ (j : Nat) (t : TypeId) (r : Value), f.resultTypes[j]? = some t → (v.resultList f.resultTypes.size)[j]? = some r → Value.okWide P W' .any 0 t r) :
    s.post enc P f apart fresh handsOn again W args v W' := by
  have hlt : ∀ p ∈ before, p.block < W.heap.size := fun p hp => hW.lt p hp
  have hold : ∀ p ∈ before, (fun b => decide (b < W.heap.size)) p.block = true := fun p hp => by simpa using hlt p hp
  refine ⟨ds, gs, before, [], pa, pv, hW, hres _ _ _, hargs _ hold, hvars _ hold, World.keptBut_mono (fun p hp => ⟨hp, ?_⟩) (hb.frame (· ∈ before)), fun _ => ?_⟩
  · rw [hps, List.mem_append] at hp
    exact Or.inr hp
  · obtain ⟨_, _, _, _, _, hz, hn⟩ := hW
    refine ⟨hok, _, _, ([] ++ pa) ++ pv, ⟨[] ++ pa, pv, trodAll_append (hargs _ (fun _ _ => rfl)) (hres _ _ _), hvars _ (fun _ _ => rfl), rfl, ?_, ?_⟩, ?_⟩
    · intro b off hp
      have hin : MemPlace.cell b off ∈ before := by rw [hps]; simpa using hp
      rw [hb.frozen (hlt _ hin)]
      exact hz b off hin
    · intro ha
      have := hn ha
      rw [hps] at this
      simpa using this
    · intro p hp _
      rw [hps]
      simpa using hp
end

theorem Try.own : ownKnob Try.prog.godebug = none := by kernel_rfl
theorem Try.laidOut : laidOutB Try.prog = true := by kernel_rfl
theorem Try.mixed : Try.prog.follows .mixedOrders = true := by kernel_rfl

/-! ### the rounds, as the evaluator takes them -/
section
open Go.R
variable {H : Type} {enc : TypeId × Value → H} {w : World} {base : Nat} {spare : Nat → Bool} {held : Bool}

theorem in_ints {fuel : Nat} {cs : List Value} {d : DataW H} {ps : List MemPlace} (h : DataW.trod enc Try.prog w base spare held fuel 29 cs = some (d, ps)) :
    ∃ (l : List Int) (v : Value), cs = [v] ∧ DRep w (fun _ _ => False) (dJ l) v ∧ v.oneCell' = true ∧ l.length ≤ maxLen := by
  obtain ⟨xs, v, h1, h2, h3, h4, _⟩ := trod_slice (fb := fun _ _ => False) (s := 1) Try.underlying29 (by kernel_rfl) (by decide) j1 (fun _ => True) (fun _ => rfl) (fun _ _ h => h) (fun fuel cs d ps h => by
    obtain ⟨n, rfl⟩ := trod_int Try.underlying3 h
    refine ⟨n, ?_, by simp [Value.oneCell'], trivial⟩
    exact ⟨_, _, rfl, by simp [DRep, di], rfl⟩) h
  exact ⟨xs, v, h1, h2, h3, h4⟩
theorem in_bools {fuel : Nat} {cs : List Value} {d : DataW H} {ps : List MemPlace} (h : DataW.trod enc Try.prog w base spare held fuel 71 cs = some (d, ps)) :
    ∃ (l : List Bool) (v : Value), cs = [v] ∧ DRep w (fun _ _ => False) (.slice 0 1 (l.map b1)) v ∧ v.oneCell' = true ∧ l.length ≤ maxLen := by
  obtain ⟨xs, v, h1, h2, h3, h4, _⟩ := trod_slice (fb := fun _ _ => False) (s := 1) Try.underlying71 (by kernel_rfl) (by decide) b1 (fun _ => True) (fun _ => rfl) (fun _ _ h => h) (fun fuel cs d ps h => by
    obtain ⟨n, rfl⟩ := trod_bool Try.underlying4 h
    refine ⟨n, ?_, by simp [Value.oneCell'], trivial⟩
    exact ⟨_, _, rfl, by simp [DRep, db], rfl⟩) h
  exact ⟨xs, v, h1, h2, h3, h4⟩
theorem in_rows {fuel : Nat} {cs : List Value} {d : DataW H} {ps : List MemPlace} (h : DataW.trod enc Try.prog w base spare held fuel 30 cs = some (d, ps)) :
    ∃ (l : List (List Bool)) (v : Value), cs = [v] ∧ DRep w (fun _ _ => False) (dR l) v ∧ v.oneCell' = true ∧ l.length ≤ maxLen := by
  obtain ⟨xs, v, h1, h2, h3, h4, _⟩ := trod_slice (fb := fun _ _ => False) (s := 1) Try.underlying30 (by kernel_rfl) (by decide) r1 (fun _ => True) (fun _ => rfl) (fun _ _ h => h) (fun fuel cs d ps h => by
    obtain ⟨l, v, rfl, h2, h3, _⟩ := in_bools h
    refine ⟨l, ?_, by simpa using h3, trivial⟩
    exact ⟨_, _, rfl, h2, rfl⟩) h
  exact ⟨xs, v, h1, h2, h3, h4⟩

theorem take_drop_five {a b c d e : Value} : (([a, b, c, d, e].drop 0).take 1 = [a]) ∧ (([a, b, c, d, e].drop 1).take 1 = [b]) ∧ (([a, b, c, d, e].drop 2).take 1 = [c]) ∧ (([a, b, c, d, e].drop 3).take 1 = [d]) ∧ (([a, b, c, d, e].drop 4).take 1 = [e]) := ⟨rfl, rfl, rfl, rfl, rfl⟩

theorem in_round {fuel : Nat} {cs : List Value} {d : DataW H} {ps : List MemPlace} (h : DataW.trod enc Try.prog w base spare held fuel 32 cs = some (d, ps)) :
    ∃ x : Rnd, DVals w (fun _ _ => False) (rd5 x) cs ∧ (∀ v ∈ cs, v.oneCell' = true) ∧ x.ok := by
  obtain ⟨hl, hf⟩ := trod_struct Try.underlying32 h
  rw [show Try.prog.cellsOf 32 = 5 from by kernel_rfl] at hl
  obtain ⟨a, b, c, e, f, rfl⟩ : ∃ a b c e f, cs = [a, b, c, e, f] := by
    match cs, hl with
    | [a, b, c, e, f], _ => exact ⟨a, b, c, e, f, rfl⟩
  obtain ⟨t1, t2, t3, t4, t5⟩ := @take_drop_five a b c e f
  obtain ⟨_, _, _, g1⟩ := hf 0 29 0 rfl
  obtain ⟨_, _, _, g2⟩ := hf 1 29 1 rfl
  obtain ⟨_, _, _, g3⟩ := hf 2 30 2 rfl
  obtain ⟨_, _, _, g4⟩ := hf 3 3 3 rfl
  obtain ⟨_, _, _, g5⟩ := hf 4 3 4 rfl
  simp only [show Try.prog.cellsOf 29 = 1 from by kernel_rfl, show Try.prog.cellsOf 30 = 1 from by kernel_rfl, show Try.prog.cellsOf 3 = 1 from by kernel_rfl] at g1 g2 g3 g4 g5
  rw [t1] at g1
  rw [t2] at g2
  rw [t3] at g3
  rw [t4] at g4
  rw [t5] at g5
  obtain ⟨l1, v1, e1, r1, o1, b1⟩ := in_ints g1
  obtain ⟨l2, v2, e2, r2, o2, b2⟩ := in_ints g2
  obtain ⟨l3, v3, e3, r3, o3, b3⟩ := in_rows g3
  obtain ⟨n4, e4⟩ := trod_int Try.underlying3 g4
  obtain ⟨n5, e5⟩ := trod_int Try.underlying3 g5
  cases e1; cases e2; cases e3; cases e4; cases e5
  refine ⟨⟨l1, l2, l3, n4, n5⟩, ?_, ?_, b1, b2, b3⟩
  · exact ⟨_, _, rfl, r1, _, _, rfl, r2, _, _, rfl, r3, _, _, rfl, by simp [DRep, di], _, _, rfl, by simp [DRep, di], rfl⟩
  · simp only [List.mem_cons, List.not_mem_nil, or_false]
    rintro v (rfl | rfl | rfl | rfl | rfl)
    · exact o1
    · exact o2
    · exact o3
    · rfl
    · rfl

theorem in_rounds {fuel : Nat} {cs : List Value} {d : DataW H} {ps : List MemPlace} (h : DataW.trod enc Try.prog w base spare held fuel 22 cs = some (d, ps)) :
    ∃ (xs : List Rnd) (v : Value), cs = [v] ∧ DRep w (fun _ _ => False) (.slice 0 5 (xs.map rd5)) v ∧ xs.length ≤ maxLen ∧ ∀ x ∈ xs, x.ok := by
  obtain ⟨xs, v, h1, h2, _, h4, h5⟩ := trod_slice (fb := fun _ _ => False) (s := 5) Try.underlying22 (by kernel_rfl) (by decide) rd5 Rnd.ok (fun _ => rfl) (fun _ _ h => h) (fun fuel cs d ps h => in_round h) h
  exact ⟨xs, v, h1, h2, h4, h5⟩
end

/-! ### the program's functions, as the evaluator runs them -/
theorem cf_ok : Go.R.CfgOK Try.prog Go.R.CF := by
  refine ⟨fun f F h => ?_, fun f I h => by simp [Go.R.CF] at h⟩
  simp only [Go.R.CF, Go.R.cfgFn] at h
  split at h
  · cases h; exact ⟨Try.f3, Try.func3, Go.R.F3_tr, by kernel_rfl⟩
  · cases h; exact ⟨Try.f4, Try.func4, Go.R.F4_tr, by kernel_rfl⟩
  · cases h; exact ⟨Try.f5, Try.func5, Go.R.F5_tr, by kernel_rfl⟩
  · cases h; exact ⟨Try.f6, Try.func6, Go.R.F6_tr, by kernel_rfl⟩
  · cases h; exact ⟨Try.f7, Try.func7, Go.R.F7_tr, by kernel_rfl⟩
  · cases h; exact ⟨Try.f8, Try.func8, Go.R.F8_tr, by kernel_rfl⟩
  · cases h; exact ⟨Try.f9, Try.func9, Go.R.F9_tr, by kernel_rfl⟩
  · cases h; exact ⟨Try.f10, Try.func10, Go.R.F10_tr, by kernel_rfl⟩
  · cases h; exact ⟨Try.f11, Try.func11, Go.R.F11_tr, by kernel_rfl⟩
  · cases h; exact ⟨Try.f12, Try.func12, Go.R.F12_tr, by kernel_rfl⟩
  · cases h; exact ⟨Try.f13, Try.func13, Go.R.F13_tr, by kernel_rfl⟩
  · cases h; exact ⟨Try.f14, Try.func14, Go.R.F14_tr, by kernel_rfl⟩
  · cases h; exact ⟨Try.f15, Try.func15, Go.R.F15_tr, by kernel_rfl⟩
  · cases h; exact ⟨Try.f16, Try.func16, Go.R.F16_tr, by kernel_rfl⟩
  · cases h; exact ⟨Try.f17, Try.func17, Go.R.F17_tr, by kernel_rfl⟩
  · cases h; exact ⟨Try.f18, Try.func18, Go.R.F18_tr, by kernel_rfl⟩
  · cases h; exact ⟨Try.f19, Try.func19, Go.R.F19_tr, by kernel_rfl⟩
  · cases h; exact ⟨Try.f20, Try.func20, Go.R.F20_tr, by kernel_rfl⟩
  · cases h; exact ⟨Try.f21, Try.func21, Go.R.F21_tr, by kernel_rfl⟩
  · cases h; exact ⟨Try.f22, Try.func22, Go.R.F22_tr, by kernel_rfl⟩
  · cases h; exact ⟨Try.f23, Try.func23, Go.R.F23_tr, by kernel_rfl⟩
  · cases h; exact ⟨Try.f24, Try.func24, Go.R.F24_tr, by kernel_rfl⟩
  · cases h; exact ⟨Try.f25, Try.func25, Go.R.F25_tr, by kernel_rfl⟩
  · cases h; exact ⟨Try.f26, Try.func26, Go.R.F26_tr, by kernel_rfl⟩
  · cases h; exact ⟨Try.f27, Try.func27, Go.R.F27_tr, by kernel_rfl⟩
  · cases h; exact ⟨Try.f28, Try.func28, Go.R.F28_tr, by kernel_rfl⟩
  · cases h; exact ⟨Try.f29, Try.func29, Go.R.F29_tr, by kernel_rfl⟩
  · cases h; exact ⟨Try.f30, Try.func30, Go.R.F30_tr, by kernel_rfl⟩
  · cases h; exact ⟨Try.f31, Try.func31, Go.R.F31_tr, by kernel_rfl⟩
  · cases h; exact ⟨Try.f32, Try.func32, Go.R.F32_tr, by kernel_rfl⟩
  · cases h; exact ⟨Try.f33, Try.func33, Go.R.F33_tr, by kernel_rfl⟩
  · cases h; exact ⟨Try.f34, Try.func34, Go.R.F34_tr, by kernel_rfl⟩
  · cases h; exact ⟨Try.f35, Try.func35, Go.R.F35_tr, by kernel_rfl⟩
  · cases h; exact ⟨Try.f36, Try.func36, Go.R.F36_tr, by kernel_rfl⟩
  · cases h; exact ⟨Try.f37, Try.func37, Go.R.F37_tr, by kernel_rfl⟩
  · cases h; exact ⟨Try.f38, Try.func38, Go.R.F38_tr, by kernel_rfl⟩
  · cases h; exact ⟨Try.f39, Try.func39, Go.R.F39_tr, by kernel_rfl⟩
  · cases h; exact ⟨Try.f40, Try.func40, Go.R.F40_tr, by kernel_rfl⟩
  · cases h; exact ⟨Try.f41, Try.func41, Go.R.F41_tr, by kernel_rfl⟩
  · cases h; exact ⟨Try.f42, Try.func42, Go.R.F42_tr, by kernel_rfl⟩
  · cases h; exact ⟨Try.f43, Try.func43, Go.R.F43_tr, by kernel_rfl⟩
  · cases h; exact ⟨Try.f44, Try.func44, Go.R.F44_tr, by kernel_rfl⟩
  · cases h; exact ⟨Try.f45, Try.func45, Go.R.F45_tr, by kernel_rfl⟩
  · cases h; exact ⟨Try.f46, Try.func46, Go.R.F46_tr, by kernel_rfl⟩
  · cases h; exact ⟨Try.f47, Try.func47, Go.R.F47_tr, by kernel_rfl⟩
  · cases h; exact ⟨Try.f48, Try.func48, Go.R.F48_tr, by kernel_rfl⟩
  · cases h; exact ⟨Try.f49, Try.func49, Go.R.F49_tr, by kernel_rfl⟩
  · cases h; exact ⟨Try.f50, Try.func50, Go.R.F50_tr, by kernel_rfl⟩
  · cases h; exact ⟨Try.f51, Try.func51, Go.R.F51_tr, by kernel_rfl⟩
  · cases h

theorem run_true (n : Int) (xs : List Go.R.Rnd) (hxl : xs.length ≤ maxLen) (hx : ∀ x ∈ xs, x.ok) (v : Value) (w : World) (hv : Go.R.DRep w (fun _ _ => False) (.slice 0 5 (xs.map Go.R.rd5)) v) :
    Calls Try.prog 3 #[.int .i64 n, v] w fun e w' => e = .returned (.bool true) ∧ Below w.heap.size w w' := by
  have h := Go.R.F3_eq n xs hxl hx
  obtain ⟨k, hk⟩ := Go.R.RUN_iff.1 h
  refine ((Go.R.run_ok Try.mixed cf_ok k 3 _ _ _ hk).2 w (fun _ _ => False) [.int .i64 n, v] (fun _ _ h => h.elim) ⟨_, _, rfl, by simp [Go.R.DRep, Go.R.di], _, _, rfl, hv, rfl⟩).mono fun e w' ⟨u, c', he, hl, hr⟩ => ?_
  have hu : u = .bool true := by simpa [Go.R.VRep, Go.R.DRep, Go.R.db] using hr
  subst hu
  exact ⟨he, hl.ext.os, hl.ext.tape, hl.ext.output, hl.ext.size, fun b hb => hl.ext.block b hb (fun h => h)⟩

set_option maxRecDepth 100000 in
theorem f_lifted (os : Os) (started : os.Started) (H : Type) (enc : TypeId × Value → H) :
    ReturnsInHanded {} Try.checked os 3 .any (Rows.topEpochsSpec.pre6 enc Try.prog Try.f3 Rows.topEpochsRow.domain false) (Rows.topEpochsSpec.post enc Try.prog Try.f3 false true false false) := by
  refine returnsInHanded_of_change (C := Try.checked) Try.own started (by kernel_rfl) Try.func3
    (ChangeSpec.witness6 (enc := enc) (C := Try.checked) false ⟨#[], #[.int .i64 0, .slice none 0 0], []⟩ 8 (by kernel_rfl) (by kernel_rfl) (by kernel_rfl) (by kernel_rfl)) ?_
  intro W base args ds gs before hval0 hW hcnd _
  have hW' := hW
  obtain ⟨p, q, hA0, hV, rfl, hfz, hnd⟩ := hW
  have hA : DataW.TrodAll enc Try.prog W 0 (fun _ => true) true Try.f3.params.toList args.toList ds p := hA0
  rw [Try.params3] at hA
  obtain ⟨v0, v1, d0, d1, p0, p1, rfl, rfl, rfl, h0, h1⟩ := trodAll_two hA
  obtain ⟨rfl, rfl⟩ := trodVars_none hV
  have k0 := h0
  have k1 := h1
  have hval : ∀ (j : Nat) t v, Try.f3.params[j]? = some t → #[v0, v1][j]? = some v → Value.okWide Try.prog W .any base t v := hval0
  rw [Try.params3] at hval
  obtain ⟨n, rfl⟩ := okWide_int Try.underlying3 (hval 0 3 v0 rfl rfl)
  obtain ⟨a, len, cap, rfl⟩ := okWide_slice Try.underlying22 (hval 1 22 v1 rfl rfl)
  obtain ⟨fu1, h1⟩ := h1
  obtain ⟨xs, v, e1, r1, b1, b2⟩ := in_rounds h1
  cases e1
  obtain ⟨fu0, h0⟩ := h0
  obtain ⟨n', e0⟩ := Go.R.trod_int Try.underlying3 h0
  cases e0
  simp only [List.append_nil] at hW'
  refine (run_true _ xs b1 b2 _ W r1).mono fun e W' ⟨he, hb⟩ => ?_
  subst he
  have hlt : ∀ x ∈ p0 ++ p1, x.block < W.heap.size := fun x hx => hW'.lt x hx
  refine ⟨_, rfl, post_of_below (pa := p0 ++ p1) (pv := []) hW' (fun _ _ _ => trodAll_mk1 (shut_bool Try.underlying4 _)) (fun sp hsp => ?_) (fun _ _ => rfl) (by simp) hb (ok_one (by kernel_rfl) rfl (okWide_bool_mk Try.underlying4 _))⟩
  have hst : ∀ x ∈ p0 ++ p1, W.sameAt W' x := fun x hx => hb.same (hlt x hx)
  exact trodAll_mk2 (WideElems.Trod_stays Try.laidOut (by kernel_rfl) (of_decide_eq_true (by kernel_rfl)) k0 (fun x hx => hst x (List.mem_append_left _ hx)) (fun x hx => hsp x (List.mem_append_left _ hx)))
    (WideElems.Trod_stays Try.laidOut (by kernel_rfl) (of_decide_eq_true (by kernel_rfl)) k1 (fun x hx => hst x (List.mem_append_right _ hx)) (fun x hx => hsp x (List.mem_append_right _ hx)))

/-- The statement. -/
theorem top_epochs : Rows.TopEpochsSaid :=
  OpenClaim.holds_of_wide 3 Try.f3 rfl rfl rfl rfl rfl rfl rfl ⟨rfl, rfl, rfl, rfl, rfl⟩ rfl rfl rfl rfl rfl (by kernel_rfl) Try.func3 (by kernel_rfl)
    (of_decide_eq_true (by kernel_rfl)) (by unfold Func.isWrapper; first | (rw [if_pos (by decide +kernel)]; kernel_rfl) | (rw [if_neg (by decide +kernel)]; exact ⟨rfl, rfl⟩))
    (fun os started H enc _ => f_lifted os started H enc)
#print axioms top_epochs
end Go.Proofs.Ytaoommhpediaeaa
