/-
  DERIVED. PLAIN: what is shown of a program; and the tokens of that. No program in sight.
-/
import Derived.Test.YtaehlakefgnfmaaDoorRow
import Derived.Lib.ItoaLen
import Derived.Lib.ItoaMem
import Derived.Lib.Join
namespace Go.Proofs.YtaehlakefgnfmaaDoor
set_option linter.unusedSimpArgs false
set_option linter.unusedVariables false

def nthS {α : Type} (l : List (List α)) (i : Nat) : List α := match l[i]? with
  | some s => s
  | none => []
def showOp (op num : Nat) (text : List UInt8) (ks : List (List UInt8)) : List UInt8 :=
  if op = 1 then Lib.itoa num
  else if op = 2 then (if num = 1 then [116, 114, 117, 101] else [102, 97, 108, 115, 101])
  else if op = 3 then [34] ++ text ++ [34]
  else if op = 4 then text
  else if op = 5 then text ++ [40] ++ Lib.join ks [44, 32] ++ [41]
  else if op = 6 then [40] ++ nthS ks 0 ++ [32] ++ text ++ [32] ++ nthS ks 1 ++ [41]
  else if op = 7 then text ++ nthS ks 0
  else if op = 8 then [103, 101, 116, 40] ++ nthS ks 0 ++ [41]
  else if op = 9 then [104, 97, 115, 40] ++ nthS ks 0 ++ [41]
  else if op = 10 then [108, 101, 110, 40] ++ nthS ks 0 ++ [41]
  else []
mutual
/-- An expression's text. -/
def showE : Ex → List UInt8
  | .mk op num text kids _ => showOp op num text (showEs kids)
def showEs : List Ex → List (List UInt8)
  | [] => []
  | x :: l => showE x :: showEs l
end
theorem showEs_map (l : List Ex) : showEs l = l.map showE := by
  induction l with
  | nil => rfl
  | cons x l ih => simp [showEs, ih]
def blockText (b : List (List UInt8)) : List UInt8 := [123] ++ Lib.join (b.map ([32] ++ ·)) [] ++ [32, 125]
def stmtText (op : Nat) (text : List UInt8) (es b l : List (List UInt8)) : List UInt8 :=
  if op = 1 then [108, 101, 116, 32] ++ text ++ [32, 61, 32] ++ nthS es 0 ++ [59]
  else if op = 2 then text ++ [32, 61, 32] ++ nthS es 0 ++ [59]
  else if op = 3 then [105, 102, 32] ++ nthS es 0 ++ [32] ++ blockText b ++ (if l = [] then [] else [32, 101, 108, 115, 101, 32] ++ blockText l)
  else if op = 4 then [102, 111, 114, 32] ++ text ++ [32, 61, 32] ++ nthS es 0 ++ [32, 116, 111, 32] ++ nthS es 1 ++ [32] ++ blockText b
  else if op = 5 then (if es = [] then [114, 101, 116, 117, 114, 110, 59] else [114, 101, 116, 117, 114, 110, 32] ++ nthS es 0 ++ [59])
  else if op = 6 then [112, 117, 116, 40] ++ nthS es 0 ++ [44, 32] ++ nthS es 1 ++ [41, 59]
  else if op = 7 then [100, 101, 108, 40] ++ nthS es 0 ++ [41, 59]
  else if op = 8 then nthS es 0 ++ [59]
  else []
mutual
/-- A statement's text. -/
def showS : St → List UInt8
  | .mk op text es b l _ => stmtText op text (showEs es) (showSs b) (showSs l)
def showSs : List St → List (List UInt8)
  | [] => []
  | x :: l => showS x :: showSs l
end
theorem showSs_map (l : List St) : showSs l = l.map showS := by
  induction l with
  | nil => rfl
  | cons x l ih => simp [showSs, ih]
def typText (t : Nat) : List UInt8 := if t = 1 then [105, 110, 116] else if t = 2 then [98, 111, 111, 108] else if t = 3 then [98, 121, 116, 101, 115] else []
def paText (p : Pa) : List UInt8 := p.name ++ [58, 32] ++ typText p.type
def funText (f : Fu) : List UInt8 :=
  [102, 110, 32] ++ f.name ++ [40] ++ Lib.join (f.params.map paText) [44, 32] ++ [41] ++ (if typText f.result = [] then [] else [58, 32] ++ typText f.result) ++ [32] ++ blockText (showSs f.body) ++ [10]
/-- A program's text. -/
def showP (p : List Fu) : List UInt8 := Lib.join (p.map funText) []

theorem join_empty (l : List (List UInt8)) : Lib.join l [] = l.flatten := by
  cases l with
  | nil => rfl
  | cons x l =>
    rw [Lib.join_cons]
    simp [Lib.joinTail]

/-! Places have no part in it. -/
mutual
theorem showE_st : ∀ x : Ex, showE x.st = showE x
  | .mk op num text kids at_ => by simp only [Ex.st, showE, showEs_st kids]
theorem showEs_st : ∀ l : List Ex, showEs (Ex.sts l) = showEs l
  | [] => rfl
  | x :: l => by simp only [Ex.sts, showEs, showE_st x, showEs_st l]
end
mutual
theorem showS_st : ∀ x : St, showS x.st = showS x
  | .mk op text es b l at_ => by simp only [St.st, showS, showEs_st es, showSs_st b, showSs_st l]
theorem showSs_st : ∀ l : List St, showSs (St.sts l) = showSs l
  | [] => rfl
  | x :: l => by simp only [St.sts, showSs, showS_st x, showSs_st l]
end
theorem funText_st (f : Fu) : funText f.st = funText f := by
  simp only [funText, Fu.st, showSs_st]
  rfl
theorem showP_st (p : List Fu) : showP (p.map Fu.st) = showP p := by
  unfold showP
  rw [List.map_map]
  congr 1
  exact List.map_congr_left fun f _ => funText_st f

/-! The tokens of what is shown. -/
def sg (s : List UInt8) : Tok := ⟨4, s, 0, 0⟩
def commas : List (List Tok) → List Tok
  | [] => []
  | [a] => a
  | a :: b :: l => a ++ sg [44] :: commas (b :: l)
def tokOp (op num : Nat) (text : List UInt8) (ks : List (List Tok)) : List Tok :=
  if op = 1 then [⟨2, [], num, 0⟩]
  else if op = 2 then [sg (if num = 1 then [116, 114, 117, 101] else [102, 97, 108, 115, 101])]
  else if op = 3 then [⟨3, text, 0, 0⟩]
  else if op = 4 then [⟨1, text, 0, 0⟩]
  else if op = 5 then ⟨1, text, 0, 0⟩ :: sg [40] :: (commas ks ++ [sg [41]])
  else if op = 6 then sg [40] :: (nthS ks 0 ++ sg text :: (nthS ks 1 ++ [sg [41]]))
  else if op = 7 then sg text :: nthS ks 0
  else if op = 8 then sg [103, 101, 116] :: sg [40] :: (nthS ks 0 ++ [sg [41]])
  else if op = 9 then sg [104, 97, 115] :: sg [40] :: (nthS ks 0 ++ [sg [41]])
  else if op = 10 then sg [108, 101, 110] :: sg [40] :: (nthS ks 0 ++ [sg [41]])
  else []
mutual
def tokE : Ex → List Tok
  | .mk op num text kids _ => tokOp op num text (tokEs kids)
def tokEs : List Ex → List (List Tok)
  | [] => []
  | x :: l => tokE x :: tokEs l
end
def tokBlock (b : List (List Tok)) : List Tok := sg [123] :: (b.flatten ++ [sg [125]])
def stmtTok (op : Nat) (text : List UInt8) (es b l : List (List Tok)) : List Tok :=
  if op = 1 then sg [108, 101, 116] :: ⟨1, text, 0, 0⟩ :: sg [61] :: (nthS es 0 ++ [sg [59]])
  else if op = 2 then ⟨1, text, 0, 0⟩ :: sg [61] :: (nthS es 0 ++ [sg [59]])
  else if op = 3 then sg [105, 102] :: (nthS es 0 ++ (tokBlock b ++ (if l = [] then [] else sg [101, 108, 115, 101] :: tokBlock l)))
  else if op = 4 then sg [102, 111, 114] :: ⟨1, text, 0, 0⟩ :: sg [61] :: (nthS es 0 ++ sg [116, 111] :: (nthS es 1 ++ tokBlock b))
  else if op = 5 then (if es = [] then [sg [114, 101, 116, 117, 114, 110], sg [59]] else sg [114, 101, 116, 117, 114, 110] :: (nthS es 0 ++ [sg [59]]))
  else if op = 6 then sg [112, 117, 116] :: sg [40] :: (nthS es 0 ++ sg [44] :: (nthS es 1 ++ [sg [41], sg [59]]))
  else if op = 7 then sg [100, 101, 108] :: sg [40] :: (nthS es 0 ++ [sg [41], sg [59]])
  else if op = 8 then nthS es 0 ++ [sg [59]]
  else []
mutual
def tokS : St → List Tok
  | .mk op text es b l _ => stmtTok op text (tokEs es) (tokSs b) (tokSs l)
def tokSs : List St → List (List Tok)
  | [] => []
  | x :: l => tokS x :: tokSs l
end
def typTok (t : Nat) : List Tok := if t = 1 then [sg [105, 110, 116]] else if t = 2 then [sg [98, 111, 111, 108]] else if t = 3 then [sg [98, 121, 116, 101, 115]] else []
def paTok (p : Pa) : List Tok := ⟨1, p.name, 0, 0⟩ :: sg [58] :: typTok p.type
def funTok (f : Fu) : List Tok :=
  sg [102, 110] :: ⟨1, f.name, 0, 0⟩ :: sg [40] :: (commas (f.params.map paTok) ++ sg [41] :: ((if typTok f.result = [] then [] else sg [58] :: typTok f.result) ++ tokBlock (tokSs f.body)))
def tokP (p : List Fu) : List Tok := (p.map funTok).flatten

/-! What is shown has these tokens. -/
/-- l's tokens are ts, but for places; or there are too many. -/
def Lx (l : List UInt8) (ts : List Tok) : Prop := ∀ pos cnt, cnt ≤ 2048 → (∃ us, lexFrom pos l cnt = .ok us ∧ us.map Tok.st = ts) ∨ ∃ p, lexFrom pos l cnt = .error (2, p)
theorem lx_nil : Lx [] [] := fun pos cnt _ => .inl ⟨[], lexFrom_end rfl, rfl⟩
theorem lexFrom_blank {c : UInt8} (h : isBlank c = true) (pos : Nat) (l : List UInt8) (cnt : Nat) : lexFrom pos (c :: l) cnt = lexFrom (pos + 1) l cnt := by
  have h35 : (c == 35) = false := by
    cases h0 : c == 35
    · rfl
    · rw [eq_of_beq h0] at h; revert h; decide
  have hs : skip false (c :: l) = skip false l + 1 := by simp [skip, h35, h]
  unfold lexFrom
  rw [hs, List.drop_succ_cons, show pos + (skip false l + 1) = pos + 1 + skip false l by omega]
  exact lexGo_fuel _ _ _ _ _ _ (Nat.le_refl _) (by simp; omega) (by simp; omega)
theorem lx_blank {c : UInt8} (h : isBlank c = true) {l : List UInt8} {ts : List Tok} (hl : Lx l ts) : Lx (c :: l) ts := fun pos cnt hc => by
  rw [lexFrom_blank h]; exact hl _ _ hc
theorem lx_tok {s l : List UInt8} {ts : List Tok} {b : Bit} (hb : nextT (s ++ l) = .ok b) (hlen : b.len = s.length) (hs : skip false (s ++ l) = 0) (hl : Lx l ts) : Lx (s ++ l) (⟨b.kind, b.text, b.num, 0⟩ :: ts) := by
  intro pos cnt hc
  have hne : s ++ l ≠ [] := by
    intro h0
    have := nextT_len hb
    rw [h0] at this
    simp at this
    omega
  have hd : (s ++ l).drop (skip false (s ++ l)) = s ++ l := by rw [hs]; rfl
  by_cases h2 : cnt = 2048
  · subst h2
    exact .inr ⟨_, lexFrom_many hd hne hb⟩
  · rw [lexFrom_step hd hne hb h2, hlen, List.drop_left]
    rcases hl (pos + skip false (s ++ l) + s.length) (cnt + 1) (by omega) with ⟨us, h1, h3⟩ | ⟨p, h1⟩
    · rw [h1]
      exact .inl ⟨_, rfl, by simp [h3, Tok.st]⟩
    · rw [h1]
      exact .inr ⟨p, rfl⟩
theorem skip_of {c : UInt8} {r : List UInt8} (h : (c == 35) = false) (h' : isBlank c = false) : skip false (c :: r) = 0 := by simp [skip, h, h']
/-- No byte of a name stands ahead. -/
def NoName (l : List UInt8) : Prop := ∀ c q, l = c :: q → isNameByte c = false
/-- No byte that makes a sign longer stands ahead. -/
def NoEq (l : List UInt8) : Prop := ∀ c q, l = c :: q → c ≠ 61 ∧ c ≠ 38 ∧ c ≠ 124
theorem letter_plain {c : UInt8} (h : isLetter c = true) : (c == 35) = false ∧ isBlank c = false := by
  simp only [isLetter, Bool.and_eq_true, decide_eq_true_eq] at h
  obtain ⟨h1, h2⟩ := h
  have h1' : 97 ≤ c.toNat := h1
  have hne : ∀ d : UInt8, d.toNat < 97 → (c == d) = false := fun d hd => by
    cases h : c == d
    · rfl
    · have := eq_of_beq h; subst this; omega
  exact ⟨hne 35 (by decide), by simp [isBlank, hne 9 (by decide), hne 10 (by decide), hne 13 (by decide), hne 32 (by decide)]⟩
theorem spanLen_whole {p : UInt8 → Bool} {s l : List UInt8} (hs : ∀ c ∈ s, p c = true) (hl : ∀ c q, l = c :: q → p c = false) : spanLen p (s ++ l) = s.length := by
  rw [spanLen_sep hl]
  induction s with
  | nil => rfl
  | cons c s ih => simp [spanLen, hs c (by simp), ih fun d hd => hs d (by simp [hd])]
theorem lx_name {s l : List UInt8} {ts : List Tok} (h : nameOk s) (hn : NoName l) (hl : Lx l ts) : Lx (s ++ l) (⟨1, s, 0, 0⟩ :: ts) := by
  obtain ⟨⟨c, r, rfl, hc⟩, h2, h3, h4⟩ := h
  have hw := spanLen_whole h2 hn
  have hb : nextT ((c :: r) ++ l) = .ok ⟨1, c :: r, 0, (c :: r).length⟩ := by
    simp only [List.cons_append] at hw ⊢
    simp only [nextT, hc, if_true, hw]
    rw [show (c :: (r ++ l)).take (c :: r).length = c :: r by rw [← List.cons_append, List.take_left]]
    rw [if_neg (by rw [h3]; decide), if_neg (by omega)]
  exact lx_tok hb rfl (skip_of (letter_plain hc).1 (letter_plain hc).2) hl
theorem word_letters : ∀ s ∈ words, (∃ c r, s = c :: r ∧ isLetter c = true) ∧ (∀ c ∈ s, isNameByte c = true) := by
  intro s hs
  simp only [words, List.mem_cons, List.not_mem_nil, or_false] at hs
  rcases hs with rfl | rfl | rfl | rfl | rfl | rfl | rfl | rfl | rfl | rfl | rfl | rfl | rfl | rfl | rfl | rfl | rfl <;> exact ⟨⟨_, _, rfl, by decide⟩, by decide⟩
theorem lx_word {s l : List UInt8} {ts : List Tok} (h : word s = true) (hn : NoName l) (hl : Lx l ts) : Lx (s ++ l) (sg s :: ts) := by
  obtain ⟨⟨c, r, rfl, hc⟩, h2⟩ := word_letters s (by simpa [word] using h)
  have hw := spanLen_whole h2 hn
  have hb : nextT ((c :: r) ++ l) = .ok ⟨4, c :: r, 0, (c :: r).length⟩ := by
    simp only [List.cons_append] at hw ⊢
    simp only [nextT, hc, if_true, hw]
    rw [show (c :: (r ++ l)).take (c :: r).length = c :: r by rw [← List.cons_append, List.take_left]]
    rw [if_pos h]
  exact lx_tok hb rfl (skip_of (letter_plain hc).1 (letter_plain hc).2) hl
theorem lx_sign {s l : List UInt8} {ts : List Tok} (h : signs.contains s = true) (hn : NoEq l) (hl : Lx l ts) : Lx (s ++ l) (sg s :: ts) := by
  have hs : s ∈ signs := by simpa using h
  have h2 : nextT (s ++ l) = .ok ⟨4, s, 0, s.length⟩ ∧ skip false (s ++ l) = 0 := by
    simp only [signs, twos, ones, List.cons_append, List.nil_append, List.mem_cons, List.not_mem_nil, or_false] at hs
    rcases hs with rfl | rfl | rfl | rfl | rfl | rfl | rfl | rfl | rfl | rfl | rfl | rfl | rfl | rfl | rfl | rfl | rfl | rfl | rfl | rfl | rfl | rfl
    iterate 6 exact ⟨rfl, rfl⟩
    all_goals
      refine ⟨?_, rfl⟩
      cases l with
      | nil => rfl
      | cons d q =>
        obtain ⟨d1, d2, d3⟩ := hn d q rfl
        simp [nextT, isLetter, isDigit, signAt, signs, twos, ones, d1, d2, d3]
  exact lx_tok h2.1 rfl h2.2 hl
theorem digits_ok : ∀ (u : Nat), (∀ c ∈ Lib.decDigits u, isDigit c = true) ∧ Lib.decDigits u ≠ [] := by
  intro u
  induction u using Nat.strongRecOn with
  | _ u ih =>
    have key : ∀ d, d < 10 → isDigit (UInt8.ofNat (48 + d)) = true := by decide
    by_cases h : u < 10
    · rw [Lib.decDigits, dif_pos h]
      exact ⟨by simpa using key u h, by simp⟩
    · rw [Lib.decDigits, dif_neg h]
      refine ⟨fun c hc => ?_, by simp⟩
      rcases List.mem_append.1 hc with hc | hc
      · exact (ih (u / 10) (by omega)).1 c hc
      · rw [List.mem_singleton.1 hc]; exact key _ (by omega)
theorem numFrom_append (s t : List UInt8) : ∀ n m, numFrom n s = some m → numFrom n (s ++ t) = numFrom m t := by
  induction s with
  | nil => intro n m h; simp [numFrom] at h; subst h; rfl
  | cons c s ih =>
    intro n m h
    simp only [List.cons_append, numFrom] at h ⊢
    split at h
    · cases h
    · rename_i hc
      rw [if_neg hc]
      exact ih _ _ h
theorem num_digits : ∀ (u : Nat), u ≤ maxNum → numFrom 0 (Lib.decDigits u) = some u := by
  intro u
  induction u using Nat.strongRecOn with
  | _ u ih =>
    intro hu
    have key : ∀ d, d < 10 → (UInt8.ofNat (48 + d)).toNat - 48 = d := by decide
    have one : ∀ n d, d < 10 → 10 * n + d ≤ maxNum → numFrom n [UInt8.ofNat (48 + d)] = some (10 * n + d) := by
      intro n d hd hle
      simp only [numFrom, key d hd]
      rw [if_neg]
      unfold maxNum at *
      omega
    by_cases h : u < 10
    · rw [Lib.decDigits, dif_pos h]
      have := one 0 u h (by omega)
      simpa using this
    · rw [Lib.decDigits, dif_neg h]
      rw [numFrom_append _ _ _ _ (ih (u / 10) (by omega) (by omega)), one (u / 10) (u % 10) (by omega) (by omega)]
      congr 1
      omega
theorem digit_plain {c : UInt8} (h : isDigit c = true) : (c == 35) = false ∧ isBlank c = false ∧ isLetter c = false := by
  simp only [isDigit, Bool.and_eq_true, decide_eq_true_eq] at h
  obtain ⟨h1, h2⟩ := h
  have h1' : 48 ≤ c.toNat := h1
  have h2' : c.toNat ≤ 57 := h2
  have hne : ∀ d : UInt8, d.toNat < 48 → (c == d) = false := fun d hd => by
    cases h : c == d
    · rfl
    · have := eq_of_beq h; subst this; omega
  refine ⟨hne 35 (by decide), by simp [isBlank, hne 9 (by decide), hne 10 (by decide), hne 13 (by decide), hne 32 (by decide)], ?_⟩
  simp only [isLetter, Bool.and_eq_false_iff, decide_eq_false_iff_not]
  left
  intro h
  have h' : 97 ≤ c.toNat := h
  omega
theorem noName_digit {l : List UInt8} (h : NoName l) : ∀ c q, l = c :: q → isDigit c = false := by
  intro c q hl
  have := h c q hl
  simp [isNameByte] at this
  simp [this.1.2]
theorem lx_num {n : Nat} {l : List UInt8} {ts : List Tok} (h : n ≤ maxNum) (hn : NoName l) (hl : Lx l ts) : Lx (Lib.itoa n ++ l) (⟨2, [], n, 0⟩ :: ts) := by
  rw [Lib.itoa_nonneg]
  obtain ⟨h1, h2⟩ := digits_ok n
  have h3 := num_digits n h
  cases hd : Lib.decDigits n with
  | nil => exact absurd hd h2
  | cons c r =>
    rw [hd] at h1 h3
    have hw := spanLen_whole h1 (noName_digit hn)
    have hc := digit_plain (h1 c (by simp))
    have hb : nextT ((c :: r) ++ l) = .ok ⟨2, [], n, (c :: r).length⟩ := by
      simp only [List.cons_append] at hw ⊢
      simp only [nextT, hc.2.2, h1 c (by simp), if_true, hw, Bool.false_eq_true, if_false]
      rw [show (c :: (r ++ l)).take (c :: r).length = c :: r by rw [← List.cons_append, List.take_left], h3]
    exact lx_tok hb rfl (skip_of hc.1 hc.2.1) hl
theorem lx_text {s l : List UInt8} {ts : List Tok} (h : textOk s) (hl : Lx l ts) : Lx (34 :: (s ++ 34 :: l)) (⟨3, s, 0, 0⟩ :: ts) := by
  have hw : spanLen isTextByte (s ++ 34 :: l) = s.length := spanLen_whole h.1 (fun c q hq => by cases hq; rfl)
  have hb : nextT (34 :: (s ++ 34 :: l)) = .ok ⟨3, s, 0, s.length + 2⟩ := by
    simp only [nextT, hw, List.drop_left, List.take_left]
    have := h.2
    simp [isLetter, isDigit]
    omega
  have := lx_tok (s := 34 :: (s ++ [34])) (l := l) (ts := ts) (b := ⟨3, s, 0, s.length + 2⟩) (by simpa using hb) (by simp) (by simp [skip, isBlank]) hl
  simpa using this

/-- What stands behind an expression. -/
def Stop (l : List UInt8) : Prop := ∃ c q, l = c :: q ∧ (c = 41 ∨ c = 44 ∨ c = 59 ∨ c = 32)
theorem Stop.name {l : List UInt8} (h : Stop l) : NoName l := by
  obtain ⟨c, q, rfl, h⟩ := h
  intro d r hd
  cases hd
  rcases h with rfl | rfl | rfl | rfl <;> decide
theorem Stop.eq {l : List UInt8} (h : Stop l) : NoEq l := by
  obtain ⟨c, q, rfl, h⟩ := h
  intro d r hd
  cases hd
  rcases h with rfl | rfl | rfl | rfl <;> decide
theorem stop_c {c : UInt8} {q : List UInt8} (h : c = 41 ∨ c = 44 ∨ c = 59 ∨ c = 32) : Stop (c :: q) := ⟨c, q, rfl, h⟩
theorem noName_c {c : UInt8} {q : List UInt8} (h : isNameByte c = false) : NoName (c :: q) := fun d r hd => by cases hd; exact h
theorem noEq_c {c : UInt8} {q : List UInt8} (h : c ≠ 61 ∧ c ≠ 38 ∧ c ≠ 124) : NoEq (c :: q) := fun d r hd => by cases hd; exact h
def NoEqT (s : List UInt8) : Prop := s ≠ [] ∧ NoEq s
theorem NoEqT.app {s : List UInt8} (h : NoEqT s) (l : List UInt8) : NoEq (s ++ l) := by
  cases s with
  | nil => exact absurd rfl h.1
  | cons c r =>
    intro d q hd
    simp only [List.cons_append, List.cons.injEq] at hd
    rw [← hd.1]
    exact h.2 c r rfl
theorem letter_noEq {c : UInt8} (h : isLetter c = true) : c ≠ 61 ∧ c ≠ 38 ∧ c ≠ 124 := by
  refine ⟨?_, ?_, ?_⟩ <;> (rintro rfl; revert h; decide)
theorem name_noEq {s : List UInt8} (h : nameOk s) : NoEqT s := by
  obtain ⟨⟨c, r, rfl, hc⟩, _⟩ := h
  exact ⟨by simp, noEq_c (letter_noEq hc)⟩
theorem noEqT_cons {c : UInt8} {q : List UInt8} (h : c ≠ 61 ∧ c ≠ 38 ∧ c ≠ 124) : NoEqT (c :: q) := ⟨by simp, noEq_c h⟩
theorem noEqT_app {s : List UInt8} (h : NoEqT s) (l : List UInt8) : NoEqT (s ++ l) := ⟨by simp [h.1], h.app l⟩
theorem showE_noEq (x : Ex) (h : WFx x) : NoEqT (showE x) := by
  induction h with
  | num n p h =>
    simp only [showE, showOp, if_true]
    rw [Lib.itoa_nonneg]
    obtain ⟨h1, h2⟩ := digits_ok n
    cases hd : Lib.decDigits n with
    | nil => exact absurd hd h2
    | cons c r =>
      rw [hd] at h1
      refine noEqT_cons ?_
      have := h1 c (by simp)
      refine ⟨?_, ?_, ?_⟩ <;> (rintro rfl; revert this; decide)
  | bool n p h => simp [showE, showOp]; split <;> exact noEqT_cons (by decide)
  | text s p h => simp [showE, showOp]; exact noEqT_cons (by decide)
  | name s p h => simp [showE, showOp]; exact name_noEq h
  | call s ks p h _ => simp [showE, showOp]; exact noEqT_app (name_noEq h) _
  | two s a b p h ha hb => simp [showE, showOp]; exact noEqT_cons (by decide)
  | one s a p h ha iha => rcases h with rfl | rfl <;> (simp [showE, showOp]; exact noEqT_cons (by decide))
  | word op a p h ha iha => rcases h with rfl | rfl | rfl <;> (simp [showE, showOp]; exact noEqT_cons (by decide))
theorem op_signs {s : List UInt8} (h : opSign s) : signs.contains s = true := by
  obtain ⟨n, h5, h⟩ := h
  rcases (by omega : n = 0 ∨ n = 1 ∨ n = 2 ∨ n = 3 ∨ n = 4) with rfl | rfl | rfl | rfl | rfl
  all_goals
    simp only [levelSigns, List.contains_eq_mem, List.mem_cons, List.not_mem_nil, or_false, decide_eq_true_eq] at h
    rcases h with rfl | rfl | rfl | rfl | rfl | rfl <;> decide
theorem join_app (x : List UInt8) (ks : List (List UInt8)) (sep l : List UInt8) : Lib.join (x :: ks) sep ++ l = x ++ ((ks.map fun k => sep ++ k).flatten ++ l) := by
  rw [Lib.join_cons, Lib.joinTail, List.append_assoc]
/-- Things with commas between. -/
theorem lx_commas {α : Type} (txt : α → List UInt8) (tok : α → List Tok) (ks : List α) (hk : ∀ x ∈ ks, ∀ l ts, Stop l → Lx l ts → Lx (txt x ++ l) (tok x ++ ts)) :
    ∀ l ts, Stop l → Lx l ts → Lx (Lib.join (ks.map txt) [44, 32] ++ l) (commas (ks.map tok) ++ ts) := by
  induction ks with
  | nil => intro l ts hs hl; exact hl
  | cons x ks ih =>
    intro l ts hs hl
    rw [List.map_cons, join_app]
    cases ks with
    | nil =>
      simp only [List.map_nil, List.flatten_nil, List.nil_append, List.map_cons, commas]
      exact hk x (by simp) l ts hs hl
    | cons y ks =>
      have h1 := ih (fun z hz => hk z (by simp [hz])) l ts hs hl
      rw [List.map_cons, join_app] at h1
      simp only [List.map_cons, List.flatten_cons, List.append_assoc, commas, List.cons_append, List.nil_append] at h1 ⊢
      refine hk x (by simp) _ _ (stop_c (by decide)) ?_
      exact lx_sign (s := [44]) (by decide) (noEq_c (by decide)) (lx_blank (by decide) h1)
theorem tokEs_map (l : List Ex) : tokEs l = l.map tokE := by
  induction l with
  | nil => rfl
  | cons x l ih => simp [tokEs, ih]
theorem tokSs_map (l : List St) : tokSs l = l.map tokS := by
  induction l with
  | nil => rfl
  | cons x l ih => simp [tokSs, ih]
theorem lx_c {c : UInt8} {l : List UInt8} {ts : List Tok} (h : signs.contains [c] = true) (hn : NoEq l) (hl : Lx l ts) : Lx (c :: l) (sg [c] :: ts) := lx_sign (s := [c]) h hn hl
theorem lx_E (x : Ex) (h : WFx x) : ∀ l ts, Stop l → Lx l ts → Lx (showE x ++ l) (tokE x ++ ts) := by
  induction h with
  | num n p h => intro l ts hs hl; simpa [showE, showOp, tokE, tokOp] using lx_num h hs.name hl
  | bool n p h =>
    intro l ts hs hl
    by_cases h1 : n = 1
    · simpa [showE, showOp, tokE, tokOp, h1] using lx_word (s := [116, 114, 117, 101]) (by decide) hs.name hl
    · simpa [showE, showOp, tokE, tokOp, h1] using lx_word (s := [102, 97, 108, 115, 101]) (by decide) hs.name hl
  | text s p h => intro l ts hs hl; simpa [showE, showOp, tokE, tokOp] using lx_text h hl
  | name s p h => intro l ts hs hl; simpa [showE, showOp, tokE, tokOp] using lx_name h hs.name hl
  | call s ks p h hk ih =>
    intro l ts hs hl
    have h1 := lx_commas showE tokE ks ih (41 :: l) (sg [41] :: ts) (stop_c (by decide)) (lx_c (by decide) hs.eq hl)
    have h2 : NoEq (Lib.join (ks.map showE) [44, 32] ++ 41 :: l) := by
      cases ks with
      | nil => exact noEq_c (by decide)
      | cons y ks => rw [List.map_cons, join_app]; exact (showE_noEq y (hk y (by simp))).app _
    have h3 := lx_name h (noName_c (by decide)) (lx_c (c := 40) (by decide) h2 h1)
    simpa [showE, showOp, tokE, tokOp, showEs_map, tokEs_map] using h3
  | two s a b p h ha hb iha ihb =>
    intro l ts hs hl
    have h1 := ihb (41 :: l) (sg [41] :: ts) (stop_c (by decide)) (lx_c (by decide) hs.eq hl)
    have h2 := lx_sign (op_signs h) (noEq_c (c := 32) (by decide)) (lx_blank (c := 32) (by decide) h1)
    have h3 := iha _ _ (stop_c (c := 32) (by decide)) (lx_blank (c := 32) (by decide) h2)
    have h4 := lx_c (c := 40) (by decide) ((showE_noEq a ha).app _) h3
    simpa [showE, showOp, tokE, tokOp, showEs, tokEs, nthS] using h4
  | one s a p h ha iha =>
    intro l ts hs hl
    have h1 := lx_sign (s := s) (by rcases h with rfl | rfl <;> decide) ((showE_noEq a ha).app _) (iha l ts hs hl)
    simpa [showE, showOp, tokE, tokOp, showEs, tokEs, nthS] using h1
  | word op a p h ha iha =>
    intro l ts hs hl
    have h1 := iha (41 :: l) (sg [41] :: ts) (stop_c (by decide)) (lx_c (by decide) hs.eq hl)
    have h2 := lx_c (c := 40) (by decide) ((showE_noEq a ha).app _) h1
    rcases h with rfl | rfl | rfl
    · simpa [showE, showOp, tokE, tokOp, showEs, tokEs, nthS] using lx_word (s := [103, 101, 116]) (by decide) (noName_c (by decide)) h2
    · simpa [showE, showOp, tokE, tokOp, showEs, tokEs, nthS] using lx_word (s := [104, 97, 115]) (by decide) (noName_c (by decide)) h2
    · simpa [showE, showOp, tokE, tokOp, showEs, tokEs, nthS] using lx_word (s := [108, 101, 110]) (by decide) (noName_c (by decide)) h2
/-- What stands behind a block: a blank. -/
theorem lx_block (b : List St) (ih : ∀ s ∈ b, ∀ l ts, NoEq l → NoName l → Lx l ts → Lx (showS s ++ l) (tokS s ++ ts)) : ∀ l ts, NoEq l → Lx l ts → Lx (blockText (showSs b) ++ l) (tokBlock (tokSs b) ++ ts) := by
  intro l ts hn hl
  have h1 := lx_blank (c := 32) (by decide) (lx_c (c := 125) (by decide) hn hl)
  have h2 : Lx ((b.map fun s => [32] ++ showS s).flatten ++ 32 :: 125 :: l) ((b.map tokS).flatten ++ sg [125] :: ts) := by
    clear hl
    induction b with
    | nil => exact h1
    | cons s b ihb =>
      have h3 := ihb (fun z hz => ih z (by simp [hz]))
      simp only [List.map_cons, List.flatten_cons, List.append_assoc, List.cons_append, List.nil_append] at h3 ⊢
      refine lx_blank (by decide) (ih s (by simp) _ _ ?_ ?_ h3)
      · cases b <;> exact noEq_c (by decide)
      · cases b <;> exact noName_c (by decide)
  have h3 : NoEq ((b.map fun s => [32] ++ showS s).flatten ++ 32 :: 125 :: l) := by
    cases b with
    | nil => exact noEq_c (by decide)
    | cons s b => exact noEq_c (by decide)
  have h4 := lx_c (c := 123) (by decide) h3 h2
  simpa [blockText, tokBlock, showSs_map, tokSs_map, join_empty, List.map_map, Function.comp_def] using h4
theorem lx_S (x : St) (h : WFs x) : ∀ l ts, NoEq l → NoName l → Lx l ts → Lx (showS x ++ l) (tokS x ++ ts) := by
  induction h with
  | let_ nm x p h hx =>
    intro l ts hn hm hl
    have h1 := lx_E x hx (59 :: l) _ (stop_c (by decide)) (lx_c (c := 59) (by decide) hn hl)
    have h2 := lx_c (c := 61) (by decide) (noEq_c (c := 32) (by decide)) (lx_blank (c := 32) (by decide) h1)
    have h3 := lx_name h (noName_c (c := 32) (by decide)) (lx_blank (c := 32) (by decide) h2)
    have h4 := lx_word (s := [108, 101, 116]) (by decide) (noName_c (c := 32) (by decide)) (lx_blank (c := 32) (by decide) h3)
    simpa [showS, stmtText, tokS, stmtTok, showEs, tokEs, nthS] using h4
  | set_ nm x p h hx =>
    intro l ts hn hm hl
    have h1 := lx_E x hx (59 :: l) _ (stop_c (by decide)) (lx_c (c := 59) (by decide) hn hl)
    have h2 := lx_c (c := 61) (by decide) (noEq_c (c := 32) (by decide)) (lx_blank (c := 32) (by decide) h1)
    have h3 := lx_name h (noName_c (c := 32) (by decide)) (lx_blank (c := 32) (by decide) h2)
    simpa [showS, stmtText, tokS, stmtTok, showEs, tokEs, nthS] using h3
  | if_ x b e p hx hb he ihb ihe =>
    intro l ts hn hm hl
    cases e with
    | nil =>
      have h1 := lx_block b ihb l ts hn hl
      have h2 := lx_E x hx (32 :: _) _ (stop_c (by decide)) (lx_blank (c := 32) (by decide) h1)
      have h3 := lx_word (s := [105, 102]) (by decide) (noName_c (c := 32) (by decide)) (lx_blank (c := 32) (by decide) h2)
      simpa [showS, stmtText, tokS, stmtTok, showEs, tokEs, nthS, showSs, tokSs] using h3
    | cons y e =>
      have h0 := lx_block (y :: e) ihe l ts hn hl
      have h01 := lx_word (s := [101, 108, 115, 101]) (by decide) (noName_c (c := 32) (by decide)) (lx_blank (c := 32) (by decide) h0)
      have h1 := lx_block b ihb (32 :: _) _ (noEq_c (by decide)) (lx_blank (c := 32) (by decide) h01)
      have h2 := lx_E x hx (32 :: _) _ (stop_c (by decide)) (lx_blank (c := 32) (by decide) h1)
      have h3 := lx_word (s := [105, 102]) (by decide) (noName_c (c := 32) (by decide)) (lx_blank (c := 32) (by decide) h2)
      simpa [showS, stmtText, tokS, stmtTok, showEs, tokEs, nthS, showSs, tokSs] using h3
  | for_ nm x y b p h hx hy hb ihb =>
    intro l ts hn hm hl
    have h1 := lx_block b ihb l ts hn hl
    have h2 := lx_E y hy (32 :: _) _ (stop_c (by decide)) (lx_blank (c := 32) (by decide) h1)
    have h3 := lx_word (s := [116, 111]) (by decide) (noName_c (c := 32) (by decide)) (lx_blank (c := 32) (by decide) h2)
    have h4 := lx_E x hx (32 :: _) _ (stop_c (by decide)) (lx_blank (c := 32) (by decide) h3)
    have h5 := lx_c (c := 61) (by decide) (noEq_c (c := 32) (by decide)) (lx_blank (c := 32) (by decide) h4)
    have h6 := lx_name h (noName_c (c := 32) (by decide)) (lx_blank (c := 32) (by decide) h5)
    have h7 := lx_word (s := [102, 111, 114]) (by decide) (noName_c (c := 32) (by decide)) (lx_blank (c := 32) (by decide) h6)
    simpa [showS, stmtText, tokS, stmtTok, showEs, tokEs, nthS] using h7
  | ret0 p =>
    intro l ts hn hm hl
    have h1 := lx_word (s := [114, 101, 116, 117, 114, 110]) (by decide) (noName_c (c := 59) (by decide)) (lx_c (c := 59) (by decide) hn hl)
    simpa [showS, stmtText, tokS, stmtTok, showEs, tokEs, nthS] using h1
  | ret1 x p hx =>
    intro l ts hn hm hl
    have h1 := lx_E x hx (59 :: l) _ (stop_c (by decide)) (lx_c (c := 59) (by decide) hn hl)
    have h2 := lx_word (s := [114, 101, 116, 117, 114, 110]) (by decide) (noName_c (c := 32) (by decide)) (lx_blank (c := 32) (by decide) h1)
    simpa [showS, stmtText, tokS, stmtTok, showEs, tokEs, nthS] using h2
  | put x y p hx hy =>
    intro l ts hn hm hl
    have h0 := lx_c (c := 41) (by decide) (noEq_c (c := 59) (by decide)) (lx_c (c := 59) (by decide) hn hl)
    have h1 := lx_E y hy (41 :: _) _ (stop_c (by decide)) h0
    have h2 := lx_c (c := 44) (by decide) (noEq_c (c := 32) (by decide)) (lx_blank (c := 32) (by decide) h1)
    have h3 := lx_E x hx (44 :: _) _ (stop_c (by decide)) h2
    have h4 := lx_c (c := 40) (by decide) ((showE_noEq x hx).app _) h3
    have h5 := lx_word (s := [112, 117, 116]) (by decide) (noName_c (c := 40) (by decide)) h4
    simpa [showS, stmtText, tokS, stmtTok, showEs, tokEs, nthS] using h5
  | del x p hx =>
    intro l ts hn hm hl
    have h0 := lx_c (c := 41) (by decide) (noEq_c (c := 59) (by decide)) (lx_c (c := 59) (by decide) hn hl)
    have h3 := lx_E x hx (41 :: _) _ (stop_c (by decide)) h0
    have h4 := lx_c (c := 40) (by decide) ((showE_noEq x hx).app _) h3
    have h5 := lx_word (s := [100, 101, 108]) (by decide) (noName_c (c := 40) (by decide)) h4
    simpa [showS, stmtText, tokS, stmtTok, showEs, tokEs, nthS] using h5
  | do_ x p hx =>
    intro l ts hn hm hl
    have h1 := lx_E x hx (59 :: l) _ (stop_c (by decide)) (lx_c (c := 59) (by decide) hn hl)
    simpa [showS, stmtText, tokS, stmtTok, showEs, tokEs, nthS] using h1
theorem lx_typ {t : Nat} (h : t = 1 ∨ t = 2 ∨ t = 3) {l : List UInt8} {ts : List Tok} (hn : NoName l) (hl : Lx l ts) : Lx (typText t ++ l) (typTok t ++ ts) := by
  rcases h with rfl | rfl | rfl
  · simpa [typText, typTok] using lx_word (s := [105, 110, 116]) (by decide) hn hl
  · simpa [typText, typTok] using lx_word (s := [98, 111, 111, 108]) (by decide) hn hl
  · simpa [typText, typTok] using lx_word (s := [98, 121, 116, 101, 115]) (by decide) hn hl
theorem lx_param (x : Pa) (h : x.wf) : ∀ l ts, Stop l → Lx l ts → Lx (paText x ++ l) (paTok x ++ ts) := by
  intro l ts hs hl
  have h1 := lx_typ h.2 hs.name hl
  have h2 := lx_c (c := 58) (by decide) (noEq_c (c := 32) (by decide)) (lx_blank (c := 32) (by decide) h1)
  have h3 := lx_name h.1 (noName_c (c := 58) (by decide)) h2
  simpa [paText, paTok] using h3
theorem lx_F (f : Fu) (h : f.wf) : ∀ l ts, Lx l ts → Lx (funText f ++ l) (funTok f ++ ts) := by
  intro l ts hl
  obtain ⟨h1, h2, h3, h4⟩ := h
  have e1 := lx_block f.body (fun s hs => lx_S s (h4 s hs)) (10 :: l) ts (noEq_c (by decide)) (lx_blank (c := 10) (by decide) hl)
  have e2 := lx_blank (c := 32) (by decide) e1
  have e3 : Lx ([41] ++ ((if typText f.result = [] then [] else [58, 32] ++ typText f.result) ++ 32 :: (blockText (showSs f.body) ++ 10 :: l))) (sg [41] :: ((if typTok f.result = [] then [] else sg [58] :: typTok f.result) ++ (tokBlock (tokSs f.body) ++ ts))) := by
    rcases (by omega : f.result = 0 ∨ f.result = 1 ∨ f.result = 2 ∨ f.result = 3) with hr | hr | hr | hr
    · rw [hr]
      exact lx_c (c := 41) (by decide) (noEq_c (c := 32) (by decide)) e2
    all_goals
      have e4 := lx_typ (t := f.result) (by omega) (noName_c (c := 32) (by decide)) e2
      have e5 := lx_c (c := 58) (by decide) (noEq_c (c := 32) (by decide)) (lx_blank (c := 32) (by decide) e4)
      have e6 := lx_c (c := 41) (by decide) (noEq_c (c := 58) (by decide)) e5
      rw [hr] at e6 ⊢
      exact e6
  have e4 := lx_commas paText paTok f.params (fun x hx => lx_param x (h2 x hx)) _ _ (stop_c (c := 41) (by decide)) e3
  have e5 : NoEq (Lib.join (f.params.map paText) [44, 32] ++ ([41] ++ ((if typText f.result = [] then [] else [58, 32] ++ typText f.result) ++ 32 :: (blockText (showSs f.body) ++ 10 :: l)))) := by
    cases hp : f.params with
    | nil => exact noEq_c (by decide)
    | cons y ks =>
      rw [List.map_cons, join_app]
      have : nameOk y.name := (h2 y (by rw [hp]; simp)).1
      simp only [paText, List.append_assoc]
      exact (name_noEq this).app _
  have e6 := lx_c (c := 40) (by decide) e5 e4
  have e7 := lx_name h1 (noName_c (c := 40) (by decide)) e6
  have e8 := lx_word (s := [102, 110]) (by decide) (noName_c (c := 32) (by decide)) (lx_blank (c := 32) (by decide) e7)
  simpa [funText, funTok] using e8
theorem lx_P (p : List Fu) (h : ∀ f ∈ p, f.wf) : Lx (showP p) (tokP p) := by
  unfold showP tokP
  rw [join_empty]
  induction p with
  | nil => exact lx_nil
  | cons f p ih => exact lx_F f (h f (by simp)) _ _ (ih fun g hg => h g (by simp [hg]))
/-- WHAT IS SHOWN HAS THE TOKENS THAT ARE SAID, or it is too much. -/
theorem lex_show (p : List Fu) (h : ∀ f ∈ p, f.wf) : (∃ us, lex (showP p) = .ok us ∧ us.map Tok.st = tokP p) ∨ ∃ q, lex (showP p) = .error (2, q) := by
  by_cases hl : (showP p).length ≤ 4096
  · rw [lex_from _ hl]; exact lx_P p h 0 0 (by omega)
  · right; exact ⟨0, by unfold lex; rw [if_pos (by omega)]⟩
end Go.Proofs.YtaehlakefgnfmaaDoor
