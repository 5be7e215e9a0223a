/-
  DERIVED. A region that draws its order, in two phases: operations below number N come ahead of all others; a load among them yields the same in every world that meets S, and S is shown anew behind each of them alone. No program in sight.
-/
import Derived.OrdersHeld
import Derived.RegionTactic
import Derived.Deep.RegionHeld3
namespace Go.Proofs.YtaehlakefgnfmaaGreatDoor
set_option linter.unusedSimpArgs false
set_option linter.unusedVariables false
open Go

section
variable {P : Program} {md : Region.Mode} {ops : Array Oper} {Q : Exit → Act → World → Prop} {S : World → Prop} {N : Nat}

/-- Whatever order is picked; S holds behind every operation below N. -/
def wpAnyP (P : Program) (md : Region.Mode) (ops : Array Oper) (Q : Exit → Act → World → Prop) (S : World → Prop) (N : Nat) : Nat → Array Bool → Act → World → Prop
  | 0, listed, a, w => Region.ready md ops listed = [] ∧ Q .normal a w
  | fuel + 1, listed, a, w => (Region.ready md ops listed = [] → Q .normal a w) ∧
    ∀ k ∈ Region.ready md ops listed, wpOp P ops Q k (fun a' w' => if k < N then S w' ∧ wpAnyP P md ops Q S N fuel (listed.setIfInBounds k true) a' w' else wpAny P md ops Q fuel (listed.setIfInBounds k true) a' w') a w

theorem wpAny_of_phase : ∀ (fuel : Nat) (listed : Array Bool) (a : Act) (w : World), wpAnyP P md ops Q S N fuel listed a w → wpAny P md ops Q fuel listed a w
  | 0, _, _, _, h => h
  | fuel + 1, _, _, _, h => ⟨h.1, fun k hk => wpOp_mono (fun a' w' h' => by
      split at h'
      · exact wpAny_of_phase fuel _ a' w' h'.2
      · exact h') (h.2 k hk)⟩
/-- Each operation from N on waits for each below it. -/
def phased (md : Region.Mode) (ops : Array Oper) (N : Nat) : Bool :=
  (List.range ops.size).all fun j => j < N || match ops[j]? with
    | some oj => (List.range N).all fun i => oj.after.any fun e => Region.binds md e && e.on == i
    | none => true
theorem phased_spec (h : phased md ops N = true) {i j : Nat} {oj : Oper} (hj : ops[j]? = some oj) (hN : N ≤ j) (hi : i < N) : ∃ e ∈ oj.after, Region.binds md e = true ∧ e.on = i := by
  have hlt : j < ops.size := (Array.getElem?_eq_some_iff.1 hj).1
  have h1 := (List.all_eq_true.1 h) j (List.mem_range.2 hlt)
  rw [hj] at h1
  have hn : decide (j < N) = false := by simp; omega
  simp only [hn, Bool.false_or] at h1
  have h2 := (List.all_eq_true.1 h1) i (List.mem_range.2 hi)
  obtain ⟨e, he, h3⟩ := Array.any_eq_true'.1 h2
  simp only [Bool.and_eq_true, beq_iff_eq] at h3
  exact ⟨e, he, h3.1, h3.2⟩

theorem unlisted_not {i : Nat} {listed : Array Bool} (h : listed.getD i true = false) : listed.getD i false ≠ true := by
  rcases Nat.lt_or_ge i listed.size with h' | h'
  · simp [h'] at h ⊢; exact h
  · simp [Array.getElem?_eq_none h'] at h
theorem phase_first (hph : phased md ops N = true) {i : Nat} {oi : Oper} {v : Value} (hiN : i < N) (hi : ops[i]? = some oi) (hsel : ∀ (j : Nat) (o : Oper) cs b, ops[j]? = some o → o.op ≠ .select cs b)
    (hQ : ∀ c a w, Q (.panic c) (a.put oi.dst v) w → Q (.panic c) a w) :
    ∀ (fuel : Nat) (listed : Array Bool) (a : Act) (w : World),
      (∀ j oj, ops[j]? = some oj → j ≠ i → listed.getD j true = false → (∀ e ∈ oj.after, Region.binds md e = true → e.on ≠ i) → oi.apart ops oj = true) →
      i ∈ Region.ready md ops listed → YieldsIf P ops S oi v a → S w →
      wpAnyP P md ops Q S N fuel (listed.setIfInBounds i true) (a.put oi.dst v) w → wpAnyP P md ops Q S N (fuel + 1) listed a w := by
  intro fuel
  induction fuel with
  | zero =>
    intro listed a w _ hr hy hS H
    refine ⟨fun h => (by rw [h] at hr; cases hr), fun j hj => ?_⟩
    by_cases hji : j = i
    · subst hji
      exact hy.wpOp hi hS (by rw [if_pos hiN]; exact ⟨hS, H⟩)
    · have := ready_mono hj hji
      rw [H.1] at this
      cases this
  | succ fuel ih =>
    intro listed a w hfree hr hy hS H
    refine ⟨fun h => (by rw [h] at hr; cases hr), fun j hj => ?_⟩
    by_cases hji : j = i
    · subst hji
      exact hy.wpOp hi hS (by rw [if_pos hiN]; exact ⟨hS, H⟩)
    · obtain ⟨hjun, oj, hoj, hall⟩ := mem_ready.1 hj
      have hiun := (mem_ready.1 hr).1
      have hnot : ∀ e ∈ oj.after, Region.binds md e = true → e.on ≠ i := fun e he hb heq => unlisted_not hiun (heq ▸ hall e he hb)
      have hjN : j < N := by
        rcases Nat.lt_or_ge j N with h | h
        · exact h
        · obtain ⟨e, he, hb, heq⟩ := phased_spec hph hoj h hiN
          exact absurd heq (hnot e he hb)
      have h1 := H.2 j (ready_mono hj hji)
      have h2 := wpOp_putIf hoj (hfree j oj hoj hji hjun hnot) (fun cs b => hsel i oi cs b hi) (fun cs b => hsel j oj cs b hoj) hQ hy h1
      refine wpOp_mono (fun a' w' h3 => ?_) h2
      rw [if_pos hjN] at h3 ⊢
      refine ⟨h3.2.1, ih (listed.setIfInBounds j true) a' w' (fun k ok hk hki hun hno => ?_) (ready_mono hr (Ne.symm hji)) h3.1 h3.2.1 ?_⟩
      · refine hfree k ok hk hki ?_ hno
        by_cases hjk : j = k
        · subst hjk; exact hjun
        · rw [getD_set_ne true hjk] at hun; exact hun
      · rw [Array.setIfInBounds_comm _ _ hji]
        exact h3.2.2

/-- Take number i first. -/
theorem phase_take {i : Nat} {oi : Oper} {v : Value} {fuel : Nat} {listed : Array Bool} {a : Act} {w : World} (hi : ops[i]? = some oi) (hph : phased md ops N = true) (hiN : i < N)
    (hs : Region.noSelect ops = true) (hf : Region.free md ops listed i = true) (hr : (Region.ready md ops listed).contains i = true)
    (hQ : ∀ c a w, Q (.panic c) (a.put oi.dst v) w → Q (.panic c) a w) (hy : Region.wanted oi (yielded ops a.tmps) = true ∧ ∀ w, S w → (execOp a.eval oi).run P w = .ok (.value v) w) (hS : S w)
    (h : wpAnyP P md ops Q S N fuel (listed.setIfInBounds i true) (a.put oi.dst v) w) : wpAnyP P md ops Q S N (fuel + 1) listed a w :=
  phase_first hph hiN hi (Region.noSelect_spec hs) hQ fuel listed a w (Region.free_spec hi hf) (by simpa using hr) (.inl hy) hS h
/-- The same where every order is asked for plainly. -/
theorem any_take {i : Nat} {oi : Oper} {v : Value} {fuel : Nat} {listed : Array Bool} {a : Act} {w : World} (hi : ops[i]? = some oi)
    (hs : Region.noSelect ops = true) (hf : Region.free md ops listed i = true) (hr : (Region.ready md ops listed).contains i = true)
    (hQ : ∀ c a w, Q (.panic c) (a.put oi.dst v) w → Q (.panic c) a w) (hy : Region.wanted oi (yielded ops a.tmps) = true ∧ ∀ w, (execOp a.eval oi).run P w = .ok (.value v) w)
    (h : wpAny P md ops Q fuel (listed.setIfInBounds i true) (a.put oi.dst v) w) : wpAny P md ops Q (fuel + 1) listed a w :=
  wpAny_take hi hs hf hr hQ (.inl hy) h
theorem step_with {i : Nat} {o : Oper} {a : Act} {w : World} {K : Act → World → Prop} (ho : ops[i]? = some o) (hw : Region.wanted o (yielded ops a.tmps) = true) (h : ∀ K' : Act → World → Prop, (∀ a w, K a w → K' a w) → o.wp P a w K' Q) : wpOp P ops Q i K a w := by
  unfold wpOp
  simp only [ho, hw, if_true]
  exact .inl (h K fun _ _ h => h)
/-- One of the first phase alone may come up. -/
theorem phase_one {i : Nat} {o : Oper} {fuel : Nat} {listed : Array Bool} {a : Act} {w : World} (hr : Region.ready md ops listed = [i]) (hN : i < N) (ho : ops[i]? = some o) (hw : Region.wanted o (yielded ops a.tmps) = true)
    (h : ∀ K : Act → World → Prop, (∀ a' w', S w' ∧ wpAnyP P md ops Q S N fuel (listed.setIfInBounds i true) a' w' → K a' w') → o.wp P a w K Q) : wpAnyP P md ops Q S N (fuel + 1) listed a w :=
  ⟨fun h0 => (by rw [hr] at h0; cases h0), fun k hk => by
    rw [hr, List.mem_singleton] at hk
    subst hk
    simp only [hN, if_true]
    exact step_with ho hw h⟩
/-- Two of the first phase. -/
theorem phase_two {i j : Nat} {o o' : Oper} {fuel : Nat} {listed : Array Bool} {a : Act} {w : World} (hr : Region.ready md ops listed = [i, j]) (hN : i < N) (hN' : j < N) (ho : ops[i]? = some o) (hw : Region.wanted o (yielded ops a.tmps) = true)
    (ho' : ops[j]? = some o') (hw' : Region.wanted o' (yielded ops a.tmps) = true)
    (h : ∀ K : Act → World → Prop, (∀ a' w', S w' ∧ wpAnyP P md ops Q S N fuel (listed.setIfInBounds i true) a' w' → K a' w') → o.wp P a w K Q)
    (h' : ∀ K : Act → World → Prop, (∀ a' w', S w' ∧ wpAnyP P md ops Q S N fuel (listed.setIfInBounds j true) a' w' → K a' w') → o'.wp P a w K Q) : wpAnyP P md ops Q S N (fuel + 1) listed a w :=
  ⟨fun h0 => (by rw [hr] at h0; cases h0), fun k hk => by
    rw [hr] at hk
    simp only [List.mem_cons, List.not_mem_nil, or_false] at hk
    rcases hk with rfl | rfl
    · simp only [hN, if_true]
      exact step_with ho hw h
    · simp only [hN', if_true]
      exact step_with ho' hw' h'⟩
/-- One of the second phase alone may come up. -/
theorem phase_late {i : Nat} {o : Oper} {fuel : Nat} {listed : Array Bool} {a : Act} {w : World} (hr : Region.ready md ops listed = [i]) (hN : N ≤ i) (ho : ops[i]? = some o) (hw : Region.wanted o (yielded ops a.tmps) = true)
    (h : ∀ K : Act → World → Prop, (∀ a' w', wpAny P md ops Q fuel (listed.setIfInBounds i true) a' w' → K a' w') → o.wp P a w K Q) : wpAnyP P md ops Q S N (fuel + 1) listed a w :=
  ⟨fun h0 => (by rw [hr] at h0; cases h0), fun k hk => by
    rw [hr, List.mem_singleton] at hk
    subst hk
    simp only [show ¬ k < N by omega, if_false]
    exact step_with ho hw h⟩
theorem any_one {i : Nat} {o : Oper} {fuel : Nat} {listed : Array Bool} {a : Act} {w : World} (hr : Region.ready md ops listed = [i]) (ho : ops[i]? = some o) (hw : Region.wanted o (yielded ops a.tmps) = true)
    (h : ∀ K : Act → World → Prop, (∀ a' w', wpAny P md ops Q fuel (listed.setIfInBounds i true) a' w' → K a' w') → o.wp P a w K Q) : wpAny P md ops Q (fuel + 1) listed a w :=
  ⟨fun h0 => (by rw [hr] at h0; cases h0), fun k hk => by
    rw [hr, List.mem_singleton] at hk
    subst hk
    exact step_with ho hw h⟩
theorem any_two {i j : Nat} {o o' : Oper} {fuel : Nat} {listed : Array Bool} {a : Act} {w : World} (hr : Region.ready md ops listed = [i, j]) (ho : ops[i]? = some o) (hw : Region.wanted o (yielded ops a.tmps) = true)
    (ho' : ops[j]? = some o') (hw' : Region.wanted o' (yielded ops a.tmps) = true) (h : ∀ K : Act → World → Prop, (∀ a' w', wpAny P md ops Q fuel (listed.setIfInBounds i true) a' w' → K a' w') → o.wp P a w K Q)
    (h' : ∀ K : Act → World → Prop, (∀ a' w', wpAny P md ops Q fuel (listed.setIfInBounds j true) a' w' → K a' w') → o'.wp P a w K Q) : wpAny P md ops Q (fuel + 1) listed a w :=
  ⟨fun h0 => (by rw [hr] at h0; cases h0), fun k hk => by
    rw [hr] at hk
    simp only [List.mem_cons, List.not_mem_nil, or_false] at hk
    rcases hk with rfl | rfl
    · exact step_with ho hw h
    · exact step_with ho' hw' h'⟩
/-- The beginning. -/
theorem phase_begin {id : Nat} {a : Act} {w : World} (S : World → Prop) (N : Nat) (hm : P.follows .mixedOrders = true) (h : wpAnyP P .any ops Q S N ops.size (Array.replicate ops.size false) a w.drew) : (Code.region id ops true).wp P Q a w :=
  wp_region_any hm (wpAny_of_phase _ _ _ _ h)
end
end Go.Proofs.YtaehlakefgnfmaaGreatDoor
