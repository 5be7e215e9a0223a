/-
  DERIVED. The tokens of a text, in plain Lean: no program in sight.
-/
namespace Go.Proofs.YtaehlakefgnfmaaDoor
set_option linter.unusedSimpArgs false
set_option linter.unusedVariables false

/-- How many bytes at the head are of a kind. -/
def spanLen (p : UInt8 → Bool) : List UInt8 → Nat
  | [] => 0
  | c :: l => if p c then spanLen p l + 1 else 0
def isBlank (c : UInt8) : Bool := c == 9 || c == 10 || c == 13 || c == 32
def isLetter (c : UInt8) : Bool := 97 ≤ c && c ≤ 122
def isDigit (c : UInt8) : Bool := 48 ≤ c && c ≤ 57
def isNameByte (c : UInt8) : Bool := isLetter c || isDigit c || c == 95
def isTextByte (c : UInt8) : Bool := 32 ≤ c && c ≤ 126 && c != 34 && c != 92

/-- How many bytes are blanks and remarks; true: within a remark. -/
def skip : Bool → List UInt8 → Nat
  | _, [] => 0
  | false, c :: l => if c == 35 then skip true l + 1 else if isBlank c then skip false l + 1 else 0
  | true, c :: l => if c == 10 then skip false l + 1 else skip true l + 1

def words : List (List UInt8) := [[102, 110], [108, 101, 116], [105, 102], [101, 108, 115, 101], [102, 111, 114], [116, 111], [114, 101, 116, 117, 114, 110], [112, 117, 116], [100, 101, 108],
  [103, 101, 116], [104, 97, 115], [108, 101, 110], [116, 114, 117, 101], [102, 97, 108, 115, 101], [105, 110, 116], [98, 111, 111, 108], [98, 121, 116, 101, 115]]
def word (s : List UInt8) : Bool := words.contains s
def twos : List (List UInt8) := [[61, 61], [33, 61], [60, 61], [62, 61], [38, 38], [124, 124]]
def ones : List (List UInt8) := [[40], [41], [123], [125], [44], [59], [58], [61], [60], [62], [43], [45], [42], [47], [37], [33]]
def signs : List (List UInt8) := twos ++ ones
/-- The bytes of the longest sign at the head; none: nothing. -/
def signAt (l : List UInt8) : List UInt8 :=
  if signs.contains (l.take 2) then l.take 2 else if signs.contains (l.take 1) then l.take 1 else []

def maxNum : Nat := 9223372036854775807
/-- The number of some digits behind n. -/
def numFrom (n : Nat) : List UInt8 → Option Nat
  | [] => some n
  | c :: l => if n > (maxNum - (c.toNat - 48)) / 10 then none else numFrom (10 * n + (c.toNat - 48)) l

/-- A token but for its place, and how many bytes it has; or an error. -/
structure Bit where
  kind : Nat
  text : List UInt8
  num : Nat
  len : Nat
  deriving DecidableEq
def nextT (l : List UInt8) : Except Nat Bit :=
  match l with
  | [] => .error 31
  | c :: r =>
    if isLetter c then
      let s := l.take (spanLen isNameByte l)
      if word s then .ok ⟨4, s, 0, s.length⟩ else if s.length > 16 then .error 32 else .ok ⟨1, s, 0, s.length⟩
    else if isDigit c then
      let s := l.take (spanLen isDigit l)
      match numFrom 0 s with
      | none => .error 32
      | some n => .ok ⟨2, [], n, s.length⟩
    else if c == 34 then
      let k := spanLen isTextByte r
      match r.drop k with
      | [] => .error 31
      | d :: _ => if d != 34 then .error 31 else if k > 64 then .error 32 else .ok ⟨3, r.take k, 0, k + 2⟩
    else
      let s := signAt l
      if s.isEmpty then .error 31 else .ok ⟨4, s, 0, s.length⟩

structure Tok where
  kind : Nat
  text : List UInt8
  num : Nat
  place : Nat
  deriving DecidableEq

/-- The tokens from a place on, no blank at the head; so many are there already; fuel. -/
def lexGo : Nat → Nat → List UInt8 → Nat → Except (Nat × Nat) (List Tok)
  | 0, _, _, _ => .ok []
  | f + 1, pos, l, cnt =>
    match l with
    | [] => .ok []
    | c :: r =>
      match nextT (c :: r) with
      | .error e => .error (e, pos)
      | .ok b =>
        if cnt = 2048 then .error (2, pos) else
          let k := b.len + skip false ((c :: r).drop b.len)
          match lexGo f (pos + k) ((c :: r).drop k) (cnt + 1) with
          | .ok ts => .ok (⟨b.kind, b.text, b.num, pos⟩ :: ts)
          | .error e => .error e
/-- The tokens of a text; or the error, and where. -/
def lex (s : List UInt8) : Except (Nat × Nat) (List Tok) :=
  if s.length > 4096 then .error (2, 0) else lexGo (s.length + 1) (skip false s) (s.drop (skip false s)) 0

theorem spanLen_le (p : UInt8 → Bool) (l : List UInt8) : spanLen p l ≤ l.length := by
  induction l with
  | nil => simp [spanLen]
  | cons c l ih => unfold spanLen; split <;> simp <;> omega
theorem spanLen_take (p : UInt8 → Bool) (l : List UInt8) : ∀ c ∈ l.take (spanLen p l), p c = true := by
  induction l with
  | nil => simp
  | cons c l ih =>
    unfold spanLen
    split
    · rename_i h
      intro d hd
      simp only [List.take_succ_cons, List.mem_cons] at hd
      rcases hd with rfl | hd
      · exact h
      · exact ih d hd
    · simp
theorem spanLen_stop (p : UInt8 → Bool) (l : List UInt8) : ∀ c r, l.drop (spanLen p l) = c :: r → p c = false := by
  induction l with
  | nil => simp
  | cons c l ih =>
    unfold spanLen
    split
    · simpa using ih
    · rename_i h
      intro d r hd
      simp only [List.drop_zero, List.cons.injEq] at hd
      rw [← hd.1]; simpa using h
theorem skip_le (m : Bool) (l : List UInt8) : skip m l ≤ l.length := by
  induction l generalizing m with
  | nil => cases m <;> simp [skip]
  | cons c l ih =>
    have h1 := ih true
    have h2 := ih false
    cases m
    · unfold skip
      split
      · simp; omega
      · split <;> simp; omega
    · unfold skip
      split <;> simp <;> omega
/-- Blanks first, then a remark, or none. -/
theorem skip_span (l : List UInt8) : skip false l = spanLen isBlank l + skip false (l.drop (spanLen isBlank l)) := by
  induction l with
  | nil => simp [skip, spanLen]
  | cons c l ih =>
    by_cases hb : isBlank c = true
    · have h35 : (c == 35) = false := by
        cases h : c == 35
        · rfl
        · rw [eq_of_beq h] at hb; revert hb; decide
      have h1 : spanLen isBlank (c :: l) = spanLen isBlank l + 1 := by simp [spanLen, hb]
      rw [h1]
      simp only [List.drop_succ_cons]
      have h2 : skip false (c :: l) = skip false l + 1 := by simp [skip, h35, hb]
      omega
    · have h1 : spanLen isBlank (c :: l) = 0 := by simp [spanLen, hb]
      rw [h1]; simp
theorem skip_true (l : List UInt8) : skip true l = spanLen (· != 10) l + skip false (l.drop (spanLen (· != 10) l)) := by
  induction l with
  | nil => simp [skip, spanLen]
  | cons c l ih =>
    by_cases hb : c = 10
    · subst hb; simp [spanLen, skip, isBlank]
    · have h1 : spanLen (· != 10) (c :: l) = spanLen (· != 10) l + 1 := by simp [spanLen, hb]
      rw [h1]
      simp only [List.drop_succ_cons]
      have h2 : skip true (c :: l) = skip true l + 1 := by simp [skip, hb]
      omega
theorem skip_remark (l : List UInt8) : skip false (35 :: l) = spanLen (· != 10) (35 :: l) + skip false ((35 :: l).drop (spanLen (· != 10) (35 :: l))) := by
  have h1 : spanLen (· != 10) (35 :: l) = spanLen (· != 10) l + 1 := by simp [spanLen]
  rw [h1]
  simp only [List.drop_succ_cons]
  have h2 : skip false (35 :: l) = skip true l + 1 := by simp [skip]
  have := skip_true l
  omega
theorem skip_none (c : UInt8) (l : List UInt8) (h1 : c ≠ 35) (h2 : isBlank c = false) : skip false (c :: l) = 0 := by
  simp [skip, h1, h2]
theorem skip_stop (m : Bool) (l : List UInt8) : ∀ c r, l.drop (skip m l) = c :: r → c ≠ 35 ∧ isBlank c = false := by
  induction l generalizing m with
  | nil => simp
  | cons d l ih =>
    intro c r
    cases m
    · unfold skip
      split
      · simpa using ih true c r
      · rename_i h35
        split
        · simpa using ih false c r
        · rename_i hb
          intro h
          simp only [List.drop_zero, List.cons.injEq] at h
          rw [← h.1]
          exact ⟨by simpa using h35, by simpa using hb⟩
    · unfold skip
      split
      · simpa using ih false c r
      · simpa using ih true c r
theorem skip_pos_le (l : List UInt8) (k : Nat) (h : k ≤ l.length) : k + skip false (l.drop k) ≤ l.length := by
  have := skip_le false (l.drop k)
  rw [List.length_drop] at this
  omega
theorem signAt_le (l : List UInt8) : (signAt l).length ≤ l.length := by
  unfold signAt
  split
  · simp; omega
  · split
    · simp; omega
    · simp
theorem nextT_len {l : List UInt8} {b : Bit} (h : nextT l = .ok b) : 1 ≤ b.len ∧ b.len ≤ l.length := by
  cases l with
  | nil => simp [nextT] at h
  | cons c r =>
    simp only [nextT] at h
    split at h
    · rename_i hl
      have h1 : 1 ≤ spanLen isNameByte (c :: r) := by simp [spanLen, isNameByte, hl]
      have h2 := spanLen_le isNameByte (c :: r)
      have h3 : ((c :: r).take (spanLen isNameByte (c :: r))).length = spanLen isNameByte (c :: r) := by rw [List.length_take]; omega
      split at h
      · cases h; simp only [h3]; exact ⟨h1, h2⟩
      · split at h
        · cases h
        · cases h; simp only [h3]; exact ⟨h1, h2⟩
    · split at h
      · rename_i hl
        have h1 : 1 ≤ spanLen isDigit (c :: r) := by simp [spanLen, hl]
        have h2 := spanLen_le isDigit (c :: r)
        have h3 : ((c :: r).take (spanLen isDigit (c :: r))).length = spanLen isDigit (c :: r) := by rw [List.length_take]; omega
        split at h
        · cases h
        · cases h; simp only [h3]; exact ⟨h1, h2⟩
      · split at h
        · split at h
          · cases h
          · rename_i d q hd
            split at h
            · cases h
            · split at h
              · cases h
              · cases h
                have h2 : 0 < (r.drop (spanLen isTextByte r)).length := by rw [hd]; simp
                rw [List.length_drop] at h2
                simp only [List.length_cons]
                omega
        · split at h
          · cases h
          · rename_i he
            cases h
            have h2 := signAt_le (c :: r)
            refine ⟨?_, h2⟩
            cases hs : signAt (c :: r) with
            | nil => rw [hs] at he; simp at he
            | cons => simp
def pre (acc : List Tok) : Except (Nat × Nat) (List Tok) → Except (Nat × Nat) (List Tok)
  | .ok ts => .ok (acc ++ ts)
  | .error e => .error e
theorem pre_nil (o : Except (Nat × Nat) (List Tok)) : pre [] o = o := by cases o <;> rfl
theorem lexGo_end (acc : List Tok) (f pos cnt : Nat) : pre acc (lexGo (f + 1) pos [] cnt) = .ok acc := by simp [lexGo, pre]
theorem lexGo_err (acc : List Tok) {f pos cnt e : Nat} {l : List UInt8} (hl : l ≠ []) (h : nextT l = .error e) : pre acc (lexGo (f + 1) pos l cnt) = .error (e, pos) := by
  cases l with
  | nil => exact absurd rfl hl
  | cons c r => simp only [lexGo, h, pre]
theorem lexGo_many (acc : List Tok) {f pos : Nat} {l : List UInt8} {b : Bit} (hl : l ≠ []) (h : nextT l = .ok b) : pre acc (lexGo (f + 1) pos l 2048) = .error (2, pos) := by
  cases l with
  | nil => exact absurd rfl hl
  | cons c r => simp only [lexGo, h, pre, if_true]
theorem lexGo_step (acc : List Tok) {f pos cnt : Nat} {l : List UInt8} {b : Bit} (hl : l ≠ []) (h : nextT l = .ok b) (hc : cnt ≠ 2048) :
    pre acc (lexGo (f + 1) pos l cnt) = pre (acc ++ [⟨b.kind, b.text, b.num, pos⟩]) (lexGo f (pos + (b.len + skip false (l.drop b.len))) (l.drop (b.len + skip false (l.drop b.len))) (cnt + 1)) := by
  cases l with
  | nil => exact absurd rfl hl
  | cons c r =>
    simp only [lexGo, h, if_neg hc]
    generalize lexGo f _ _ _ = o
    cases o <;> simp [pre]
end Go.Proofs.YtaehlakefgnfmaaDoor
