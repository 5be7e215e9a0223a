/-
  DERIVED. PLAIN: how long is what is shown. No program in sight.
-/
import Derived.Test.YtaehlakefgnfmaaDoorBack
namespace Go.Proofs.YtaehlakefgnfmaaDoor
set_option linter.unusedSimpArgs false
set_option linter.unusedVariables false

theorem join_len (sep : List UInt8) : ∀ (l : List (List UInt8)), (Lib.join l sep).length ≤ sumOf (fun s => s.length + sep.length) l := by
  have key : ∀ l : List (List UInt8), ((l.map fun k => sep ++ k).flatten).length ≤ sumOf (fun s => s.length + sep.length) l := by
    intro l
    induction l with
    | nil => simp [sumOf]
    | cons x l ih => simp only [List.map_cons, List.flatten_cons, List.length_append, sumOf]; omega
  intro l
  cases l with
  | nil => simp [Lib.join, sumOf]
  | cons x l =>
    rw [Lib.join_cons, Lib.joinTail, List.length_append]
    have := key l
    simp only [sumOf]
    omega
theorem sumOf_le {α : Type} (f g : α → Nat) (c : Nat) : ∀ (l : List α), (∀ x ∈ l, f x + c ≤ g x) → sumOf f l + c * l.length ≤ sumOf g l := by
  intro l
  induction l with
  | nil => intro _; simp [sumOf]
  | cons x l ih =>
    intro h
    have h1 := h x (by simp)
    have h2 := ih fun y hy => h y (by simp [hy])
    simp only [sumOf, List.length_cons, Nat.mul_add]
    omega
theorem sumOf_map {α β : Type} (f : β → Nat) (m : α → β) (l : List α) : sumOf f (l.map m) = sumOf (fun x => f (m x)) l := by
  induction l with
  | nil => rfl
  | cons x l ih => simp [sumOf, ih]
theorem sumOf_mul {α : Type} (f : α → Nat) (c : Nat) (l : List α) : sumOf (fun x => c * f x) l = c * sumOf f l := by
  induction l with
  | nil => rfl
  | cons x l ih => simp only [sumOf, ih]; rw [Nat.mul_add]
theorem op_len {s : List UInt8} (h : opSign s) : s.length ≤ 2 := by
  obtain ⟨n, h5, h⟩ := h
  rcases (by omega : n = 0 ∨ n = 1 ∨ n = 2 ∨ n = 3 ∨ n = 4) with rfl | rfl | rfl | rfl | rfl
  all_goals
    simp only [levelSigns, List.contains_eq_mem, List.mem_cons, List.not_mem_nil, or_false, decide_eq_true_eq] at h
    rcases h with rfl | rfl | rfl | rfl | rfl | rfl <;> decide
theorem showE_len (x : Ex) (h : WFx x) : (showE x).length + 10 ≤ 100 * x.size := by
  induction h with
  | num n p h =>
    have : (Lib.itoa n).length ≤ 21 := Lib.itoa_length_le _ (by omega) (by unfold maxNum at h; omega)
    simp only [showE, showOp, if_true, Ex.size, Ex.sizes]
    omega
  | bool n p h => simp only [showE, showOp, Ex.size, Ex.sizes]; simp; split <;> simp
  | text s p h => have := h.2; simp [showE, showOp, Ex.size, Ex.sizes]; omega
  | name s p h => have := h.2.2.2; simp [showE, showOp, Ex.size, Ex.sizes]; omega
  | call s ks p h hk ih =>
    have h16 := h.2.2.2
    have h1 := join_len [44, 32] (ks.map showE)
    rw [sumOf_map] at h1
    have h2 := sumOf_le (fun x => (showE x).length + ([44, 32] : List UInt8).length) (fun x => 100 * x.size) 8 ks (fun x hx => by have := ih x hx; simp; omega)
    rw [sumOf_mul, ← Ex.sizes_sum] at h2
    simp [showE, showOp, Ex.size, showEs_map] at h1 h2 ⊢
    omega
  | two s a b p h ha hb iha ihb => have := op_len h; simp [showE, showOp, Ex.size, Ex.sizes, showEs, nthS]; omega
  | one s a p h ha iha => rcases h with rfl | rfl <;> (simp [showE, showOp, Ex.size, Ex.sizes, showEs, nthS]; omega)
  | word op a p h ha iha => rcases h with rfl | rfl | rfl <;> (simp [showE, showOp, Ex.size, Ex.sizes, showEs, nthS]; omega)
theorem block_len (b : List St) (ih : ∀ s ∈ b, (showS s).length + 10 ≤ 100 * s.size) : (blockText (showSs b)).length ≤ 100 * St.sizes b + 3 := by
  have h2 := sumOf_le (fun x => (showS x).length + 1) (fun x => 100 * x.size) 9 b (fun x hx => by have := ih x hx; omega)
  rw [sumOf_mul, ← St.sizes_sum] at h2
  have h1 := join_len [] ((showSs b).map ([32] ++ ·))
  rw [showSs_map, List.map_map, sumOf_map] at h1
  simp only [Function.comp_def, List.length_append, List.length_cons, List.length_nil] at h1
  have e : sumOf (fun x => 0 + 1 + (showS x).length + 0) b = sumOf (fun x => (showS x).length + 1) b := by
    congr 1; funext x; omega
  rw [e] at h1
  simp only [blockText, showSs_map, List.map_map, Function.comp_def, List.length_append, List.length_cons, List.length_nil]
  omega
theorem showS_len (x : St) (h : WFs x) : (showS x).length + 10 ≤ 100 * x.size := by
  induction h with
  | let_ nm x p h hx => have := h.2.2.2; have := showE_len x hx; simp [showS, stmtText, St.size, St.sizes, Ex.sizes, showEs, nthS]; omega
  | set_ nm x p h hx => have := h.2.2.2; have := showE_len x hx; simp [showS, stmtText, St.size, St.sizes, Ex.sizes, showEs, nthS]; omega
  | if_ x b l p hx hb hl ihb ihl =>
    have h1 := showE_len x hx
    have h2 := block_len b ihb
    have h3 := block_len l ihl
    cases l with
    | nil => simp [showS, stmtText, St.size, St.sizes, Ex.sizes, showEs, nthS, showSs] at h2 ⊢; omega
    | cons y l => simp [showS, stmtText, St.size, St.sizes, Ex.sizes, showEs, nthS, showSs] at h2 h3 ⊢; omega
  | for_ nm x y b p h hx hy hb ihb =>
    have := h.2.2.2
    have h1 := showE_len x hx
    have h2 := showE_len y hy
    have h3 := block_len b ihb
    simp [showS, stmtText, St.size, St.sizes, Ex.sizes, showEs, nthS] at h3 ⊢
    omega
  | ret0 p => simp [showS, stmtText, St.size, St.sizes, Ex.sizes, showEs, nthS]
  | ret1 x p hx => have := showE_len x hx; simp [showS, stmtText, St.size, St.sizes, Ex.sizes, showEs, nthS]; omega
  | put x y p hx hy => have := showE_len x hx; have := showE_len y hy; simp [showS, stmtText, St.size, St.sizes, Ex.sizes, showEs, nthS]; omega
  | del x p hx => have := showE_len x hx; simp [showS, stmtText, St.size, St.sizes, Ex.sizes, showEs, nthS]; omega
  | do_ x p hx => have := showE_len x hx; simp [showS, stmtText, St.size, St.sizes, Ex.sizes, showEs, nthS]; omega
theorem typ_len (t : Nat) : (typText t).length ≤ 5 := by
  unfold typText
  split
  · decide
  split
  · decide
  split
  · decide
  · simp
theorem params_len (ps : List Pa) (h : ∀ p ∈ ps, p.wf) : (Lib.join (ps.map paText) [44, 32]).length ≤ 100 * ps.length := by
  have h1 := join_len [44, 32] (ps.map paText)
  rw [sumOf_map] at h1
  have h2 := sumOf_le (fun x => (paText x).length + ([44, 32] : List UInt8).length) (fun _ => 100) 0 ps (fun x hx => by
    have := (h x hx).1.2.2.2
    have := typ_len x.type
    simp [paText]; omega)
  have h3 : sumOf (fun _ : Pa => 100) ps = 100 * ps.length := by
    have := sumOf_mul (fun _ : Pa => 1) 100 ps
    rw [sum_one] at this
    simpa using this
  omega
theorem fun_len (f : Fu) (h : f.wf) : (funText f).length ≤ 100 * f.size := by
  obtain ⟨h1, h2, h3, h4⟩ := h
  have h16 := h1.2.2.2
  have hp := params_len f.params h2
  have hb := block_len f.body fun s hs => showS_len s (h4 s hs)
  have ht := typ_len f.result
  have hr : (if typText f.result = [] then [] else [58, 32] ++ typText f.result).length ≤ 7 := by
    split
    · simp
    · simp; omega
  simp only [funText, Fu.size, List.length_append, List.length_cons, List.length_nil] at hr ⊢
  omega
theorem prog_len (p : List Fu) (h : ∀ f ∈ p, f.wf) : (showP p).length ≤ 100 * sumOf Fu.size p := by
  unfold showP
  have h1 := join_len [] (p.map funText)
  rw [sumOf_map] at h1
  have h2 := sumOf_le (fun x => (funText x).length + ([] : List UInt8).length) (fun x => 100 * x.size) 0 p (fun x hx => by have := fun_len x (h x hx); simpa using this)
  rw [sumOf_mul] at h2
  omega
/-- What a text's program is shown as. -/
theorem shown_len {s : List UInt8} {p : List Fu} (h : parse s = .ok p) : (showP p).length ≤ 204800 := by
  have := parse_wf h
  have := prog_len p this.1
  omega
end Go.Proofs.YtaehlakefgnfmaaDoor
