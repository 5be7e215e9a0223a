/-
  DERIVED. Tokens stand one behind the other, each within the text: in plain Lean.
-/
import Derived.Test.YtaehlakefgnfmaaDoorLex
set_option linter.unusedSimpArgs false
set_option linter.unusedVariables false
namespace Go.Proofs.YtaehlakefgnfmaaDoor

/-- What stands in the text where a token is. -/
def shown (t : Tok) : List UInt8 := if t.kind = 3 then 34 :: (t.text ++ [34]) else t.text
/-- Tokens of a text s, none before e. -/
def Placed (s : List UInt8) : Nat → List Tok → Prop
  | _, [] => True
  | e, t :: ts => e ≤ t.place ∧ t.place + max (shown t).length 1 ≤ s.length ∧ (t.kind ≠ 2 → (s.drop t.place).take (shown t).length = shown t) ∧ Placed s (t.place + max (shown t).length 1) ts
theorem Placed.mono {s : List UInt8} {e e' : Nat} {ts : List Tok} (h : Placed s e ts) (he : e' ≤ e) : Placed s e' ts := by
  cases ts with
  | nil => trivial
  | cons t ts => exact ⟨Nat.le_trans he h.1, h.2⟩
theorem signAt_take (l : List UInt8) : signAt l = l.take (signAt l).length := by
  unfold signAt
  split
  · rw [List.length_take, ← List.take_take]; simp [List.take_take]
  · split
    · rw [List.length_take]; simp [List.take_take]
    · simp
theorem nextT_shown {l : List UInt8} {b : Bit} (h : nextT l = .ok b) (pos : Nat) :
    max (shown ⟨b.kind, b.text, b.num, pos⟩).length 1 ≤ b.len ∧ (b.kind ≠ 2 → (shown ⟨b.kind, b.text, b.num, pos⟩).length = b.len ∧ l.take b.len = shown ⟨b.kind, b.text, b.num, pos⟩) := by
  have hlen := nextT_len h
  cases l with
  | nil => simp [nextT] at h
  | cons c r =>
    simp only [nextT] at h
    split at h
    · have h2 := spanLen_le isNameByte (c :: r)
      have h3 : ((c :: r).take (spanLen isNameByte (c :: r))).length = spanLen isNameByte (c :: r) := by rw [List.length_take]; omega
      split at h
      · cases h
        simp only [shown] at *
        refine ⟨by simp only [h3] at *; simp; omega, fun _ => ⟨by simp, by simp only [h3]; simp⟩⟩
      · split at h
        · cases h
        · cases h
          simp only [shown] at *
          refine ⟨by simp only [h3] at *; simp; omega, fun _ => ⟨by simp, by simp only [h3]; simp⟩⟩
    · split at h
      · split at h
        · cases h
        · cases h
          simp only [shown] at *
          exact ⟨by simpa using hlen.1, fun hk => absurd rfl hk⟩
      · split at h
        · rename_i hq
          split at h
          · cases h
          · rename_i d q hd
            split at h
            · cases h
            · rename_i hd34
              split at h
              · cases h
              · cases h
                have hd' : d = 34 := by simpa using hd34
                have hc : c = 34 := by simpa using hq
                subst hd'
                subst hc
                have h2 := spanLen_le isTextByte r
                have h4 : 0 < (r.drop (spanLen isTextByte r)).length := by rw [hd]; simp
                rw [List.length_drop] at h4
                have h3 : (r.take (spanLen isTextByte r)).length = spanLen isTextByte r := by rw [List.length_take]; omega
                have h5 : r.take (spanLen isTextByte r + 1) = r.take (spanLen isTextByte r) ++ [34] := by
                  rw [List.take_succ_eq_append_getElem (by omega)]
                  congr 1
                  have : r[spanLen isTextByte r]? = some 34 := by
                    have := congrArg (fun z => z[0]?) hd
                    simpa [List.getElem?_drop] using this
                  have h6 : spanLen isTextByte r < r.length := by omega
                  rw [List.getElem?_eq_getElem h6] at this
                  simpa using this
                simp only [shown, if_true, List.length_cons, List.length_append, List.length_nil, h3]
                exact ⟨by show max _ 1 ≤ spanLen isTextByte r + 2; omega, fun _ => ⟨trivial, by rw [List.take_succ_cons, h5]⟩⟩
        · split at h
          · cases h
          · cases h
            simp only [shown] at *
            exact ⟨by simp; omega, fun _ => ⟨by simp, by simp; exact (signAt_take (c :: r)).symm⟩⟩
theorem lexGo_placed (s : List UInt8) : ∀ (f pos cnt : Nat) (ts : List Tok), lexGo f pos (s.drop pos) cnt = .ok ts → Placed s pos ts := by
  intro f
  induction f with
  | zero => intro pos cnt ts h; simp [lexGo] at h; subst h; trivial
  | succ f ih =>
    intro pos cnt ts h
    cases hl : s.drop pos with
    | nil => rw [hl] at h; simp [lexGo] at h; subst h; trivial
    | cons c r =>
      have hne : s.drop pos ≠ [] := by rw [hl]; simp
      rw [hl] at h
      simp only [lexGo] at h
      split at h
      · cases h
      · rename_i b hb
        split at h
        · cases h
        · split at h
          · rename_i us hu
            cases h
            rw [← hl] at hb hu
            have hlen := nextT_len hb
            obtain ⟨h1, h2⟩ := nextT_shown hb pos
            rw [List.length_drop] at hlen
            simp only [List.drop_drop] at hu
            have hp := ih _ _ _ hu
            refine ⟨Nat.le_refl _, ?_, ?_, hp.mono ?_⟩
            · show pos + _ ≤ _; omega
            · intro hk
              obtain ⟨h3, h4⟩ := h2 hk
              rw [h3]; exact h4
            · show pos + _ ≤ _; omega
          · cases h
theorem lex_placed {s : List UInt8} {ts : List Tok} (h : lex s = .ok ts) : Placed s 0 ts := by
  unfold lex at h
  split at h
  · cases h
  · exact (lexGo_placed s _ _ _ _ h).mono (Nat.zero_le _)
theorem Placed.lt {s : List UInt8} {ts : List Tok} : ∀ {e : Nat}, Placed s e ts → ∀ t ∈ ts, t.place < s.length := by
  induction ts with
  | nil => intro e _ t ht; simp at ht
  | cons t ts ih =>
    intro e h u hu
    rcases List.mem_cons.1 hu with rfl | hu
    · have := h.2.1; omega
    · exact ih h.2.2.2 u hu
theorem lexGo_errAt (s : List UInt8) : ∀ (f pos cnt x p : Nat), pos ≤ s.length → lexGo f pos (s.drop pos) cnt = .error (x, p) → p ≤ s.length := by
  intro f
  induction f with
  | zero => intro pos cnt x p _ h; simp [lexGo] at h
  | succ f ih =>
    intro pos cnt x p hp h
    cases hl : s.drop pos with
    | nil => rw [hl] at h; simp [lexGo] at h
    | cons c r =>
      rw [hl] at h
      simp only [lexGo] at h
      split at h
      · cases h; exact hp
      · rename_i b hb
        split at h
        · cases h; exact hp
        · split at h
          · cases h
          · rename_i e he
            cases h
            rw [← hl] at hb he
            have hlen := nextT_len hb
            rw [List.length_drop] at hlen
            simp only [List.drop_drop] at he
            refine ih _ _ _ _ ?_ he
            have := skip_pos_le s (pos + b.len) (by omega)
            omega
theorem lex_errAt {s : List UInt8} {x p : Nat} (h : lex s = .error (x, p)) : p ≤ s.length := by
  unfold lex at h
  split at h
  · cases h; omega
  · exact lexGo_errAt s _ _ _ _ _ (skip_le false s) h
end Go.Proofs.YtaehlakefgnfmaaDoor
