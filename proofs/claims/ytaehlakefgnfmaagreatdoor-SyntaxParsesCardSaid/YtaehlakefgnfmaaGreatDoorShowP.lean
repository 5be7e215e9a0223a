/-
  DERIVED. PLAIN: what is shown of a program; and the tokens of that. No program in sight.
-/
import Derived.Test.YtaehlakefgnfmaaGreatDoorSyn
import Derived.Lib.ItoaLen
import Derived.Lib.ItoaMem
import Derived.Lib.Join
namespace Go.Proofs.YtaehlakefgnfmaaGreatDoor
set_option linter.unusedSimpArgs false
set_option linter.unusedVariables false

def nthS {α : Type} (l : List (List α)) (i : Nat) : List α := match l[i]? with
  | some s => s
  | none => []
def showOp (op num : Nat) (text : List UInt8) (ks : List (List UInt8)) : List UInt8 :=
  if op = 1 then Lib.itoa num
  else if op = 2 then (if num = 1 then [116, 114, 117, 101] else [102, 97, 108, 115, 101])
  else if op = 3 then [34] ++ text ++ [34]
  else if op = 4 then text
  else if op = 5 then text ++ [40] ++ Lib.join ks [44, 32] ++ [41]
  else if op = 6 then [40] ++ nthS ks 0 ++ [32] ++ text ++ [32] ++ nthS ks 1 ++ [41]
  else if op = 7 then text ++ nthS ks 0
  else if op = 8 then [103, 101, 116, 40] ++ nthS ks 0 ++ [41]
  else if op = 9 then [104, 97, 115, 40] ++ nthS ks 0 ++ [41]
  else if op = 10 then [108, 101, 110, 40] ++ nthS ks 0 ++ [41]
  else []
mutual
/-- An expression's text. -/
def showE : Ex → List UInt8
  | .mk op num text kids _ => showOp op num text (showEs kids)
def showEs : List Ex → List (List UInt8)
  | [] => []
  | x :: l => showE x :: showEs l
end
theorem showEs_map (l : List Ex) : showEs l = l.map showE := by
  induction l with
  | nil => rfl
  | cons x l ih => simp [showEs, ih]
def blockText (b : List (List UInt8)) : List UInt8 := [123] ++ Lib.join (b.map ([32] ++ ·)) [] ++ [32, 125]
def stmtText (op : Nat) (text : List UInt8) (es b l : List (List UInt8)) : List UInt8 :=
  if op = 1 then [108, 101, 116, 32] ++ text ++ [32, 61, 32] ++ nthS es 0 ++ [59]
  else if op = 2 then text ++ [32, 61, 32] ++ nthS es 0 ++ [59]
  else if op = 3 then [105, 102, 32] ++ nthS es 0 ++ [32] ++ blockText b ++ (if l = [] then [] else [32, 101, 108, 115, 101, 32] ++ blockText l)
  else if op = 4 then [102, 111, 114, 32] ++ text ++ [32, 61, 32] ++ nthS es 0 ++ [32, 116, 111, 32] ++ nthS es 1 ++ [32] ++ blockText b
  else if op = 5 then (if es = [] then [114, 101, 116, 117, 114, 110, 59] else [114, 101, 116, 117, 114, 110, 32] ++ nthS es 0 ++ [59])
  else if op = 6 then [112, 117, 116, 40] ++ nthS es 0 ++ [44, 32] ++ nthS es 1 ++ [41, 59]
  else if op = 7 then [100, 101, 108, 40] ++ nthS es 0 ++ [41, 59]
  else if op = 8 then nthS es 0 ++ [59]
  else []
mutual
/-- A statement's text. -/
def showS : St → List UInt8
  | .mk op text es b l _ => stmtText op text (showEs es) (showSs b) (showSs l)
def showSs : List St → List (List UInt8)
  | [] => []
  | x :: l => showS x :: showSs l
end
theorem showSs_map (l : List St) : showSs l = l.map showS := by
  induction l with
  | nil => rfl
  | cons x l ih => simp [showSs, ih]
def typText (t : Nat) : List UInt8 := if t = 1 then [105, 110, 116] else if t = 2 then [98, 111, 111, 108] else if t = 3 then [98, 121, 116, 101, 115] else []
def paText (p : Pa) : List UInt8 := p.name ++ [58, 32] ++ typText p.type
def funText (f : Fu) : List UInt8 :=
  [102, 110, 32] ++ f.name ++ [40] ++ Lib.join (f.params.map paText) [44, 32] ++ [41] ++ (if typText f.result = [] then [] else [58, 32] ++ typText f.result) ++ [32] ++ blockText (showSs f.body) ++ [10]
/-- A program's text. -/
def showP (p : List Fu) : List UInt8 := Lib.join (p.map funText) []

theorem join_empty (l : List (List UInt8)) : Lib.join l [] = l.flatten := by
  cases l with
  | nil => rfl
  | cons x l =>
    rw [Lib.join_cons]
    simp [Lib.joinTail]

/-! Places have no part in it. -/
mutual
theorem showE_st : ∀ x : Ex, showE x.st = showE x
  | .mk op num text kids at_ => by simp only [Ex.st, showE, showEs_st kids]
theorem showEs_st : ∀ l : List Ex, showEs (Ex.sts l) = showEs l
  | [] => rfl
  | x :: l => by simp only [Ex.sts, showEs, showE_st x, showEs_st l]
end
mutual
theorem showS_st : ∀ x : St, showS x.st = showS x
  | .mk op text es b l at_ => by simp only [St.st, showS, showEs_st es, showSs_st b, showSs_st l]
theorem showSs_st : ∀ l : List St, showSs (St.sts l) = showSs l
  | [] => rfl
  | x :: l => by simp only [St.sts, showSs, showS_st x, showSs_st l]
end
/-! The tokens of what is shown. -/
def sg (s : List UInt8) : Tok := ⟨4, s, 0, 0⟩
def commas : List (List Tok) → List Tok
  | [] => []
  | [a] => a
  | a :: b :: l => a ++ sg [44] :: commas (b :: l)
def tokOp (op num : Nat) (text : List UInt8) (ks : List (List Tok)) : List Tok :=
  if op = 1 then [⟨2, [], num, 0⟩]
  else if op = 2 then [sg (if num = 1 then [116, 114, 117, 101] else [102, 97, 108, 115, 101])]
  else if op = 3 then [⟨3, text, 0, 0⟩]
  else if op = 4 then [⟨1, text, 0, 0⟩]
  else if op = 5 then ⟨1, text, 0, 0⟩ :: sg [40] :: (commas ks ++ [sg [41]])
  else if op = 6 then sg [40] :: (nthS ks 0 ++ sg text :: (nthS ks 1 ++ [sg [41]]))
  else if op = 7 then sg text :: nthS ks 0
  else if op = 8 then sg [103, 101, 116] :: sg [40] :: (nthS ks 0 ++ [sg [41]])
  else if op = 9 then sg [104, 97, 115] :: sg [40] :: (nthS ks 0 ++ [sg [41]])
  else if op = 10 then sg [108, 101, 110] :: sg [40] :: (nthS ks 0 ++ [sg [41]])
  else []
mutual
def tokE : Ex → List Tok
  | .mk op num text kids _ => tokOp op num text (tokEs kids)
def tokEs : List Ex → List (List Tok)
  | [] => []
  | x :: l => tokE x :: tokEs l
end
def tokBlock (b : List (List Tok)) : List Tok := sg [123] :: (b.flatten ++ [sg [125]])
def stmtTok (op : Nat) (text : List UInt8) (es b l : List (List Tok)) : List Tok :=
  if op = 1 then sg [108, 101, 116] :: ⟨1, text, 0, 0⟩ :: sg [61] :: (nthS es 0 ++ [sg [59]])
  else if op = 2 then ⟨1, text, 0, 0⟩ :: sg [61] :: (nthS es 0 ++ [sg [59]])
  else if op = 3 then sg [105, 102] :: (nthS es 0 ++ (tokBlock b ++ (if l = [] then [] else sg [101, 108, 115, 101] :: tokBlock l)))
  else if op = 4 then sg [102, 111, 114] :: ⟨1, text, 0, 0⟩ :: sg [61] :: (nthS es 0 ++ sg [116, 111] :: (nthS es 1 ++ tokBlock b))
  else if op = 5 then (if es = [] then [sg [114, 101, 116, 117, 114, 110], sg [59]] else sg [114, 101, 116, 117, 114, 110] :: (nthS es 0 ++ [sg [59]]))
  else if op = 6 then sg [112, 117, 116] :: sg [40] :: (nthS es 0 ++ sg [44] :: (nthS es 1 ++ [sg [41], sg [59]]))
  else if op = 7 then sg [100, 101, 108] :: sg [40] :: (nthS es 0 ++ [sg [41], sg [59]])
  else if op = 8 then nthS es 0 ++ [sg [59]]
  else []
mutual
def tokS : St → List Tok
  | .mk op text es b l _ => stmtTok op text (tokEs es) (tokSs b) (tokSs l)
def tokSs : List St → List (List Tok)
  | [] => []
  | x :: l => tokS x :: tokSs l
end
/-! What is shown has these tokens. -/
/-- No byte of a name stands ahead. -/
def NoName (l : List UInt8) : Prop := ∀ c q, l = c :: q → isNameByte c = false
/-- What stands behind an expression. -/
def Stop (l : List UInt8) : Prop := ∃ c q, l = c :: q ∧ (c = 41 ∨ c = 44 ∨ c = 59 ∨ c = 32)
theorem Stop.name {l : List UInt8} (h : Stop l) : NoName l := by
  obtain ⟨c, q, rfl, h⟩ := h
  intro d r hd
  cases hd
  rcases h with rfl | rfl | rfl | rfl <;> decide
end Go.Proofs.YtaehlakefgnfmaaGreatDoor
/-
  DERIVED. PLAIN: what is shown of a program is parsed as that program, or it is too deep. No program in sight.
-/
namespace Go.Proofs.YtaehlakefgnfmaaGreatDoor
set_option linter.unusedSimpArgs false
set_option linter.unusedVariables false

/-! What an expression begins with. -/
/-! Lists. -/
/-! Expressions. -/
/-! Statements. -/
/-! Functions. -/
/-- WHAT A TEXT's PROGRAM IS: well formed, no greater than its tokens. -/
theorem parse_wf {s : List UInt8} {p : List Fu} (h : parse s = .ok p) : (∀ f ∈ p, f.wf) ∧ sumOf Fu.size p ≤ 2048 := by
  unfold parse at h
  cases hx : lex s with
  | error e => rw [hx] at h; cases h
  | ok x =>
    rw [hx] at h
    simp only [] at h
    have hi := inv_prog x (lex_wf hx).1
    cases hp : progS x with
    | err e r => rw [hp] at h; cases h
    | ok q r =>
      rw [hp] at h hi
      cases h
      exact ⟨hi.2.1, by have := hi.1; have := (lex_wf hx).2; omega⟩
end Go.Proofs.YtaehlakefgnfmaaGreatDoor
/-
  DERIVED. PLAIN: how long is what is shown. No program in sight.
-/
namespace Go.Proofs.YtaehlakefgnfmaaGreatDoor
set_option linter.unusedSimpArgs false
set_option linter.unusedVariables false

theorem join_len (sep : List UInt8) : ∀ (l : List (List UInt8)), (Lib.join l sep).length ≤ sumOf (fun s => s.length + sep.length) l := by
  have key : ∀ l : List (List UInt8), ((l.map fun k => sep ++ k).flatten).length ≤ sumOf (fun s => s.length + sep.length) l := by
    intro l
    induction l with
    | nil => simp [sumOf]
    | cons x l ih => simp only [List.map_cons, List.flatten_cons, List.length_append, sumOf]; omega
  intro l
  cases l with
  | nil => simp [Lib.join, sumOf]
  | cons x l =>
    rw [Lib.join_cons, Lib.joinTail, List.length_append]
    have := key l
    simp only [sumOf]
    omega
theorem sumOf_le {α : Type} (f g : α → Nat) (c : Nat) : ∀ (l : List α), (∀ x ∈ l, f x + c ≤ g x) → sumOf f l + c * l.length ≤ sumOf g l := by
  intro l
  induction l with
  | nil => intro _; simp [sumOf]
  | cons x l ih =>
    intro h
    have h1 := h x (by simp)
    have h2 := ih fun y hy => h y (by simp [hy])
    simp only [sumOf, List.length_cons, Nat.mul_add]
    omega
theorem sumOf_map {α β : Type} (f : β → Nat) (m : α → β) (l : List α) : sumOf f (l.map m) = sumOf (fun x => f (m x)) l := by
  induction l with
  | nil => rfl
  | cons x l ih => simp [sumOf, ih]
theorem sumOf_mul {α : Type} (f : α → Nat) (c : Nat) (l : List α) : sumOf (fun x => c * f x) l = c * sumOf f l := by
  induction l with
  | nil => rfl
  | cons x l ih => simp only [sumOf, ih]; rw [Nat.mul_add]
theorem op_len {s : List UInt8} (h : opSign s) : s.length ≤ 2 := by
  obtain ⟨n, h5, h⟩ := h
  rcases (by omega : n = 0 ∨ n = 1 ∨ n = 2 ∨ n = 3 ∨ n = 4) with rfl | rfl | rfl | rfl | rfl
  all_goals
    simp only [levelSigns, List.contains_eq_mem, List.mem_cons, List.not_mem_nil, or_false, decide_eq_true_eq] at h
    rcases h with rfl | rfl | rfl | rfl | rfl | rfl <;> decide
theorem showE_len (x : Ex) (h : WFx x) : (showE x).length + 10 ≤ 100 * x.size := by
  induction h with
  | num n p h =>
    have : (Lib.itoa n).length ≤ 21 := Lib.itoa_length_le _ (by omega) (by unfold maxNum at h; omega)
    simp only [showE, showOp, if_true, Ex.size, Ex.sizes]
    omega
  | bool n p h => simp only [showE, showOp, Ex.size, Ex.sizes]; simp; split <;> simp
  | text s p h => have := h.2; simp [showE, showOp, Ex.size, Ex.sizes]; omega
  | name s p h => have := h.2.2.2; simp [showE, showOp, Ex.size, Ex.sizes]; omega
  | call s ks p h hk ih =>
    have h16 := h.2.2.2
    have h1 := join_len [44, 32] (ks.map showE)
    rw [sumOf_map] at h1
    have h2 := sumOf_le (fun x => (showE x).length + ([44, 32] : List UInt8).length) (fun x => 100 * x.size) 8 ks (fun x hx => by have := ih x hx; simp; omega)
    rw [sumOf_mul, ← Ex.sizes_sum] at h2
    simp [showE, showOp, Ex.size, showEs_map] at h1 h2 ⊢
    omega
  | two s a b p h ha hb iha ihb => have := op_len h; simp [showE, showOp, Ex.size, Ex.sizes, showEs, nthS]; omega
  | one s a p h ha iha => rcases h with rfl | rfl <;> (simp [showE, showOp, Ex.size, Ex.sizes, showEs, nthS]; omega)
  | word op a p h ha iha => rcases h with rfl | rfl | rfl <;> (simp [showE, showOp, Ex.size, Ex.sizes, showEs, nthS]; omega)
theorem block_len (b : List St) (ih : ∀ s ∈ b, (showS s).length + 10 ≤ 100 * s.size) : (blockText (showSs b)).length ≤ 100 * St.sizes b + 3 := by
  have h2 := sumOf_le (fun x => (showS x).length + 1) (fun x => 100 * x.size) 9 b (fun x hx => by have := ih x hx; omega)
  rw [sumOf_mul, ← St.sizes_sum] at h2
  have h1 := join_len [] ((showSs b).map ([32] ++ ·))
  rw [showSs_map, List.map_map, sumOf_map] at h1
  simp only [Function.comp_def, List.length_append, List.length_cons, List.length_nil] at h1
  have e : sumOf (fun x => 0 + 1 + (showS x).length + 0) b = sumOf (fun x => (showS x).length + 1) b := by
    congr 1; funext x; omega
  rw [e] at h1
  simp only [blockText, showSs_map, List.map_map, Function.comp_def, List.length_append, List.length_cons, List.length_nil]
  omega
theorem showS_len (x : St) (h : WFs x) : (showS x).length + 10 ≤ 100 * x.size := by
  induction h with
  | let_ nm x p h hx => have := h.2.2.2; have := showE_len x hx; simp [showS, stmtText, St.size, St.sizes, Ex.sizes, showEs, nthS]; omega
  | set_ nm x p h hx => have := h.2.2.2; have := showE_len x hx; simp [showS, stmtText, St.size, St.sizes, Ex.sizes, showEs, nthS]; omega
  | if_ x b l p hx hb hl ihb ihl =>
    have h1 := showE_len x hx
    have h2 := block_len b ihb
    have h3 := block_len l ihl
    cases l with
    | nil => simp [showS, stmtText, St.size, St.sizes, Ex.sizes, showEs, nthS, showSs] at h2 ⊢; omega
    | cons y l => simp [showS, stmtText, St.size, St.sizes, Ex.sizes, showEs, nthS, showSs] at h2 h3 ⊢; omega
  | for_ nm x y b p h hx hy hb ihb =>
    have := h.2.2.2
    have h1 := showE_len x hx
    have h2 := showE_len y hy
    have h3 := block_len b ihb
    simp [showS, stmtText, St.size, St.sizes, Ex.sizes, showEs, nthS] at h3 ⊢
    omega
  | ret0 p => simp [showS, stmtText, St.size, St.sizes, Ex.sizes, showEs, nthS]
  | ret1 x p hx => have := showE_len x hx; simp [showS, stmtText, St.size, St.sizes, Ex.sizes, showEs, nthS]; omega
  | put x y p hx hy => have := showE_len x hx; have := showE_len y hy; simp [showS, stmtText, St.size, St.sizes, Ex.sizes, showEs, nthS]; omega
  | del x p hx => have := showE_len x hx; simp [showS, stmtText, St.size, St.sizes, Ex.sizes, showEs, nthS]; omega
  | do_ x p hx => have := showE_len x hx; simp [showS, stmtText, St.size, St.sizes, Ex.sizes, showEs, nthS]; omega
theorem typ_len (t : Nat) : (typText t).length ≤ 5 := by
  unfold typText
  split
  · decide
  split
  · decide
  split
  · decide
  · simp
theorem params_len (ps : List Pa) (h : ∀ p ∈ ps, p.wf) : (Lib.join (ps.map paText) [44, 32]).length ≤ 100 * ps.length := by
  have h1 := join_len [44, 32] (ps.map paText)
  rw [sumOf_map] at h1
  have h2 := sumOf_le (fun x => (paText x).length + ([44, 32] : List UInt8).length) (fun _ => 100) 0 ps (fun x hx => by
    have := (h x hx).1.2.2.2
    have := typ_len x.type
    simp [paText]; omega)
  have h3 : sumOf (fun _ : Pa => 100) ps = 100 * ps.length := by
    have := sumOf_mul (fun _ : Pa => 1) 100 ps
    rw [sum_one] at this
    simpa using this
  omega
theorem fun_len (f : Fu) (h : f.wf) : (funText f).length ≤ 100 * f.size := by
  obtain ⟨h1, h2, h3, h4⟩ := h
  have h16 := h1.2.2.2
  have hp := params_len f.params h2
  have hb := block_len f.body fun s hs => showS_len s (h4 s hs)
  have ht := typ_len f.result
  have hr : (if typText f.result = [] then [] else [58, 32] ++ typText f.result).length ≤ 7 := by
    split
    · simp
    · simp; omega
  simp only [funText, Fu.size, List.length_append, List.length_cons, List.length_nil] at hr ⊢
  omega
theorem prog_len (p : List Fu) (h : ∀ f ∈ p, f.wf) : (showP p).length ≤ 100 * sumOf Fu.size p := by
  unfold showP
  have h1 := join_len [] (p.map funText)
  rw [sumOf_map] at h1
  have h2 := sumOf_le (fun x => (funText x).length + ([] : List UInt8).length) (fun x => 100 * x.size) 0 p (fun x hx => by have := fun_len x (h x hx); simpa using this)
  rw [sumOf_mul] at h2
  omega
end Go.Proofs.YtaehlakefgnfmaaGreatDoor
