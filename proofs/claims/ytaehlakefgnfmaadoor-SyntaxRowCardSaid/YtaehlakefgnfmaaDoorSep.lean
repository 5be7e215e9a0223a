/-
  DERIVED. The tokens of two texts with a line's end between: in plain Lean.
-/
import Derived.Test.YtaehlakefgnfmaaDoorLex
set_option linter.unusedSimpArgs false
set_option linter.unusedVariables false
namespace Go.Proofs.YtaehlakefgnfmaaDoor

theorem nextT_len' {l : List UInt8} {b : Bit} (h : nextT l = .ok b) : 1 ≤ b.len ∧ b.len ≤ l.length := nextT_len h
/-- Fuel beyond the text's length does nothing. -/
theorem lexGo_fuel : ∀ (n f g pos cnt : Nat) (l : List UInt8), l.length ≤ n → l.length < f → l.length < g → lexGo f pos l cnt = lexGo g pos l cnt := by
  intro n
  induction n with
  | zero =>
    intro f g pos cnt l hl hf hg
    have : l = [] := List.eq_nil_of_length_eq_zero (by omega)
    subst this
    cases f <;> cases g <;> simp_all [lexGo]
  | succ n ih =>
    intro f g pos cnt l hl hf hg
    cases l with
    | nil => cases f <;> cases g <;> simp_all [lexGo]
    | cons c r =>
      obtain ⟨f, rfl⟩ : ∃ k, f = k + 1 := ⟨f - 1, by omega⟩
      obtain ⟨g, rfl⟩ : ∃ k, g = k + 1 := ⟨g - 1, by omega⟩
      simp only [lexGo]
      cases hb : nextT (c :: r) with
      | error e => rfl
      | ok b =>
        have hlen := nextT_len hb
        simp only []
        split
        · rfl
        · rw [ih f g _ _ _ (by rw [List.length_drop]; omega) (by rw [List.length_drop]; omega) (by rw [List.length_drop]; omega)]
/-- The tokens from a place on, blanks ahead or not; so many are there already. -/
def lexFrom (pos : Nat) (l : List UInt8) (cnt : Nat) : Except (Nat × Nat) (List Tok) := lexGo (l.length + 1) (pos + skip false l) (l.drop (skip false l)) cnt
theorem lex_from (s : List UInt8) (h : s.length ≤ 4096) : lex s = lexFrom 0 s 0 := by
  unfold lex lexFrom
  rw [if_neg (by omega), Nat.zero_add]
theorem lexFrom_end {pos cnt : Nat} {l : List UInt8} (h : l.drop (skip false l) = []) : lexFrom pos l cnt = .ok [] := by
  unfold lexFrom; rw [h]; simp [lexGo]
/-- One token, then the rest. -/
theorem lexFrom_step {pos cnt : Nat} {l m : List UInt8} {b : Bit} (hm : l.drop (skip false l) = m) (hne : m ≠ []) (hb : nextT m = .ok b) (hc : cnt ≠ 2048) :
    lexFrom pos l cnt = pre [⟨b.kind, b.text, b.num, pos + skip false l⟩] (lexFrom (pos + skip false l + b.len) (m.drop b.len) (cnt + 1)) := by
  have hlen := nextT_len hb
  have hml : m.length = l.length - skip false l := by rw [← hm, List.length_drop]
  unfold lexFrom
  rw [hm]
  have h1 := lexGo_step [] (f := l.length) (pos := pos + skip false l) hne hb hc
  rw [pre_nil] at h1
  rw [h1, List.nil_append, List.drop_drop]
  congr 1
  have hd : (m.drop (b.len + skip false (m.drop b.len))).length = m.length - (b.len + skip false (m.drop b.len)) := List.length_drop ..
  have hd2 : (m.drop b.len).length = m.length - b.len := List.length_drop ..
  rw [Nat.add_assoc (pos + skip false l)]
  exact lexGo_fuel _ _ _ _ _ _ (Nat.le_refl _) (by omega) (by omega)
theorem lexFrom_error {pos cnt e : Nat} {l m : List UInt8} (hm : l.drop (skip false l) = m) (hne : m ≠ []) (hb : nextT m = .error e) : lexFrom pos l cnt = .error (e, pos + skip false l) := by
  unfold lexFrom
  rw [hm]
  have := lexGo_err [] (f := l.length) (pos := pos + skip false l) (cnt := cnt) hne hb
  rwa [pre_nil] at this
theorem lexFrom_many {pos : Nat} {l m : List UInt8} {b : Bit} (hm : l.drop (skip false l) = m) (hne : m ≠ []) (hb : nextT m = .ok b) : lexFrom pos l 2048 = .error (2, pos + skip false l) := by
  unfold lexFrom
  rw [hm]
  have := lexGo_many [] (f := l.length) (pos := pos + skip false l) hne hb
  rwa [pre_nil] at this
theorem spanLen_sep {p : UInt8 → Bool} {l t : List UInt8} (h : ∀ c q, t = c :: q → p c = false) : spanLen p (l ++ t) = spanLen p l := by
  induction l with
  | nil =>
    cases t with
    | nil => rfl
    | cons c q => simp [spanLen, h c q rfl]
  | cons c l ih =>
    simp only [List.cons_append, spanLen]
    rw [ih]
theorem skip_sep (m : Bool) (l t : List UInt8) : skip m (l ++ 10 :: t) = if skip m l = l.length then l.length + (1 + skip false t) else skip m l := by
  induction l generalizing m with
  | nil => cases m <;> simp [skip, isBlank] <;> omega
  | cons c l ih =>
    cases m
    · simp only [List.cons_append, skip]
      split
      · rw [ih true]
        by_cases h : skip true l = l.length
        · rw [if_pos h, if_pos (by simp; exact h)]; simp; omega
        · rw [if_neg h, if_neg (by simp; exact h)]
      · split
        · rw [ih false]
          by_cases h : skip false l = l.length
          · rw [if_pos h, if_pos (by simp; exact h)]; simp; omega
          · rw [if_neg h, if_neg (by simp; exact h)]
        · rw [if_neg (by simp)]
    · simp only [List.cons_append, skip]
      split
      · rw [ih false]
        by_cases h : skip false l = l.length
        · rw [if_pos h, if_pos (by simp; exact h)]; simp; omega
        · rw [if_neg h, if_neg (by simp; exact h)]
      · rw [ih true]
        by_cases h : skip true l = l.length
        · rw [if_pos h, if_pos (by simp; exact h)]; simp; omega
        · rw [if_neg h, if_neg (by simp; exact h)]
theorem signs_no10 : ∀ c : UInt8, signs.contains [c, 10] = false := by
  intro c
  simp [signs, twos, ones]
theorem signAt_sep (l t : List UInt8) (hl : l ≠ []) : signAt (l ++ 10 :: t) = signAt l := by
  match l with
  | [] => exact absurd rfl hl
  | [c] =>
    have := signs_no10 c
    simp only [signAt, List.cons_append, List.nil_append, List.take_succ_cons, List.take_zero, this, Bool.false_eq_true, if_false, List.take_nil]
    split <;> simp_all
  | c :: d :: r => simp [signAt]
/-- A line's end behind a token does nothing to it. -/
theorem nextT_sep {l t : List UInt8} {b : Bit} (hl : l ≠ []) (h : nextT l = .ok b) : nextT (l ++ 10 :: t) = .ok b := by
  cases l with
  | nil => exact absurd rfl hl
  | cons c r =>
    have s1 : spanLen isNameByte ((c :: r) ++ 10 :: t) = spanLen isNameByte (c :: r) := spanLen_sep (fun d q hd => by cases hd; rfl)
    have s2 : spanLen isDigit ((c :: r) ++ 10 :: t) = spanLen isDigit (c :: r) := spanLen_sep (fun d q hd => by cases hd; rfl)
    have s3 : spanLen isTextByte (r ++ 10 :: t) = spanLen isTextByte r := spanLen_sep (fun d q hd => by cases hd; rfl)
    have s4 := signAt_sep (c :: r) t (by simp)
    have t1 : ((c :: r) ++ 10 :: t).take (spanLen isNameByte (c :: r)) = (c :: r).take (spanLen isNameByte (c :: r)) := List.take_append_of_le_length (spanLen_le _ _)
    have t2 : ((c :: r) ++ 10 :: t).take (spanLen isDigit (c :: r)) = (c :: r).take (spanLen isDigit (c :: r)) := List.take_append_of_le_length (spanLen_le _ _)
    have t3 : (r ++ 10 :: t).take (spanLen isTextByte r) = r.take (spanLen isTextByte r) := List.take_append_of_le_length (spanLen_le _ _)
    have t4 : (r ++ 10 :: t).drop (spanLen isTextByte r) = r.drop (spanLen isTextByte r) ++ 10 :: t := List.drop_append_of_le_length (spanLen_le _ _)
    simp only [List.cons_append] at s1 s2 s4 t1 t2
    simp only [List.cons_append, nextT, s1, s2, s3, s4, t1, t2, t3, t4] at h ⊢
    split
    · rename_i hh; rw [if_pos hh] at h; exact h
    · rename_i hh
      rw [if_neg hh] at h
      split
      · rename_i hd; rw [if_pos hd] at h; exact h
      · rename_i hd
        rw [if_neg hd] at h
        split
        · rename_i hq
          rw [if_pos hq] at h
          cases hx : r.drop (spanLen isTextByte r) with
          | nil => rw [hx] at h; cases h
          | cons d q => rw [hx] at h; exact h
        · rename_i hq; rw [if_neg hq] at h; exact h
theorem pre_pre (x y : List Tok) (o : Except (Nat × Nat) (List Tok)) : pre x (pre y o) = pre (x ++ y) o := by cases o <;> simp [pre]
/-- THE TOKENS OF TWO TEXTS WITH A LINE'S END BETWEEN: those of the first, then those from behind the line's end on. -/
theorem lexFrom_sep : ∀ (n pos cnt : Nat) (l t : List UInt8) (ts : List Tok), l.length ≤ n → lexFrom pos l cnt = .ok ts → lexFrom pos (l ++ 10 :: t) cnt = pre ts (lexFrom (pos + l.length + 1) t (cnt + ts.length)) := by
  intro n
  induction n with
  | zero =>
    intro pos cnt l t ts hl h
    have : l = [] := List.eq_nil_of_length_eq_zero (by omega)
    subst this
    rw [lexFrom_end (by simp)] at h
    cases h
    rw [pre_nil]
    simp only [List.nil_append, List.length_nil, Nat.add_zero]
    unfold lexFrom
    have hs : skip false (10 :: t) = 1 + skip false t := by simp [skip, isBlank]; omega
    rw [hs, show (10 :: t).drop (1 + skip false t) = t.drop (skip false t) by rw [Nat.add_comm]; rfl, Nat.add_assoc]
    exact lexGo_fuel _ _ _ _ _ _ (Nat.le_refl _) (by simp; omega) (by simp; omega)
  | succ n ih =>
    intro pos cnt l t ts hl h
    by_cases he : skip false l = l.length
    · rw [lexFrom_end (by rw [he]; simp)] at h
      cases h
      rw [pre_nil]
      have hs := skip_sep false l t
      rw [if_pos he] at hs
      simp only [List.length_nil, Nat.add_zero]
      unfold lexFrom
      rw [hs, show (l ++ 10 :: t).drop (l.length + (1 + skip false t)) = t.drop (skip false t) by rw [List.drop_append, List.drop_of_length_le (by omega)]; simp [show l.length + (1 + skip false t) - l.length = skip false t + 1 by omega]]
      rw [show pos + l.length + 1 + skip false t = pos + (l.length + (1 + skip false t)) by omega]
      exact lexGo_fuel _ _ _ _ _ _ (Nat.le_refl _) (by simp; omega) (by simp; omega)
    · have hs := skip_sep false l t
      rw [if_neg he] at hs
      have hle := skip_le false l
      have hdrop : (l ++ 10 :: t).drop (skip false (l ++ 10 :: t)) = l.drop (skip false l) ++ 10 :: t := by rw [hs, List.drop_append_of_le_length hle]
      have hne : l.drop (skip false l) ≠ [] := by
        intro h0
        have := congrArg List.length h0
        rw [List.length_drop, List.length_nil] at this
        omega
      cases hb : nextT (l.drop (skip false l)) with
      | error e => rw [lexFrom_error rfl hne hb] at h; cases h
      | ok b =>
        by_cases hc : cnt = 2048
        · subst hc
          rw [lexFrom_many rfl hne hb] at h; cases h
        · have hlen := nextT_len hb
          rw [lexFrom_step rfl hne hb hc] at h
          rw [lexFrom_step hdrop (by simp) (nextT_sep hne hb) hc, hs]
          cases hr : lexFrom (pos + skip false l + b.len) ((l.drop (skip false l)).drop b.len) (cnt + 1) with
          | error e => rw [hr] at h; cases h
          | ok us =>
            rw [hr] at h
            simp only [pre, List.cons_append, List.nil_append] at h
            cases h
            have hl2 : ((l.drop (skip false l)).drop b.len).length = l.length - skip false l - b.len := by rw [List.length_drop, List.length_drop]
            rw [List.length_drop] at hlen
            have h3 := ih _ _ _ t us (by omega) hr
            rw [List.drop_append_of_le_length (by rw [List.length_drop]; omega), h3, pre_pre, hl2]
            rw [show pos + skip false l + b.len + (l.length - skip false l - b.len) + 1 = pos + l.length + 1 by omega, List.length_cons, show cnt + 1 + us.length = cnt + (us.length + 1) by omega]
            rfl
/-- A token so many places on. -/
def Tok.on (d : Nat) (t : Tok) : Tok := ⟨t.kind, t.text, t.num, t.place + d⟩
theorem lexGo_on (d : Nat) : ∀ (f pos cnt cnt' : Nat) (l : List UInt8) (ts : List Tok), lexGo f pos l cnt = .ok ts → cnt' + ts.length ≤ 2048 → lexGo f (pos + d) l cnt' = .ok (ts.map (Tok.on d)) := by
  intro f
  induction f with
  | zero => intro pos cnt cnt' l ts h _; simp [lexGo] at h; subst h; rfl
  | succ f ih =>
    intro pos cnt cnt' l ts h hn
    cases l with
    | nil => simp [lexGo] at h; subst h; simp [lexGo]
    | cons c r =>
      simp only [lexGo] at h ⊢
      cases hb : nextT (c :: r) with
      | error e => rw [hb] at h; cases h
      | ok b =>
        rw [hb] at h
        simp only [] at h ⊢
        split at h
        · cases h
        · split at h
          · rename_i us hu
            cases h
            rw [List.length_cons] at hn
            have h1 := ih _ _ (cnt' + 1) _ _ hu (by omega)
            rw [show pos + (b.len + skip false ((c :: r).drop b.len)) + d = pos + d + (b.len + skip false ((c :: r).drop b.len)) by omega] at h1
            rw [if_neg (by omega), h1]
            rfl
          · cases h
theorem lexFrom_on {d pos cnt cnt' : Nat} {l : List UInt8} {ts : List Tok} (h : lexFrom pos l cnt = .ok ts) (hn : cnt' + ts.length ≤ 2048) : lexFrom (pos + d) l cnt' = .ok (ts.map (Tok.on d)) := by
  unfold lexFrom at *
  rw [show pos + d + skip false l = pos + skip false l + d by omega]
  exact lexGo_on d _ _ _ _ _ _ h hn
theorem lex_short {s : List UInt8} {ts : List Tok} (h : lex s = .ok ts) : s.length ≤ 4096 := by
  unfold lex at h
  split at h
  · cases h
  · omega
/-- Two texts with blanks and a remark between. -/
theorem skip_line (r b : List UInt8) (hr : ∀ c ∈ r, c ≠ 10) : skip true (r ++ 10 :: b) = r.length + 1 + skip false b := by
  induction r with
  | nil => simp [skip]; omega
  | cons c r ih =>
    have hc : (c == 10) = false := by simpa using hr c (by simp)
    simp only [List.cons_append, skip, hc, Bool.false_eq_true, if_false, List.length_cons]
    rw [ih fun d hd => hr d (by simp [hd])]
    omega
theorem lex_blanks {a b r : List UInt8} {x y : List Tok} (ha : lex a = .ok x) (hb : lex b = .ok y) (hr : ∀ c ∈ r, c ≠ 10) (hn : (a ++ 10 :: 9 :: 32 :: 35 :: (r ++ 10 :: b)).length ≤ 4096) (hxy : x.length + y.length ≤ 2048) :
    lex (a ++ 10 :: 9 :: 32 :: 35 :: (r ++ 10 :: b)) = .ok (x ++ y.map (Tok.on ((a ++ 10 :: 9 :: 32 :: 35 :: (r ++ 10 :: b)).length - b.length))) := by
  rw [lex_from _ (lex_short ha)] at ha
  rw [lex_from _ (lex_short hb)] at hb
  rw [lex_from _ hn, lexFrom_sep _ _ _ _ _ _ (Nat.le_refl _) ha]
  have hs : skip false (9 :: 32 :: 35 :: (r ++ 10 :: b)) = 3 + r.length + 1 + skip false b := by
    have h1 : skip false (9 :: 32 :: 35 :: (r ++ 10 :: b)) = skip true (r ++ 10 :: b) + 1 + 1 + 1 := by simp [skip, isBlank]
    rw [h1, skip_line r b hr]; omega
  have hd : (9 :: 32 :: 35 :: (r ++ 10 :: b)).drop (3 + r.length + 1 + skip false b) = b.drop (skip false b) := by
    rw [show 3 + r.length + 1 + skip false b = (r.length + (1 + skip false b)) + 3 by omega]
    simp only [List.drop_succ_cons]
    rw [List.drop_append, List.drop_of_length_le (by omega)]
    simp [show r.length + (1 + skip false b) - r.length = skip false b + 1 by omega]
  have hon := lexFrom_on (d := a.length + 1 + 3 + r.length + 1) (cnt' := x.length) hb (by omega)
  have hy : lexFrom (0 + a.length + 1) (9 :: 32 :: 35 :: (r ++ 10 :: b)) (0 + x.length) = .ok (y.map (Tok.on (a.length + 1 + 3 + r.length + 1))) := by
    rw [← hon]
    unfold lexFrom
    rw [hs, hd, Nat.zero_add, Nat.zero_add, Nat.zero_add, show a.length + 1 + (3 + r.length + 1 + skip false b) = a.length + 1 + 3 + r.length + 1 + skip false b by omega]
    exact lexGo_fuel _ _ _ _ _ _ (Nat.le_refl _) (by simp; omega) (by simp; omega)
  rw [hy]
  simp only [pre]
  congr 4
  simp
  omega
end Go.Proofs.YtaehlakefgnfmaaDoor
