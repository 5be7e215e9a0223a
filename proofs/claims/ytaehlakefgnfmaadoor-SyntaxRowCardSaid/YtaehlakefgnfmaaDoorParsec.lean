/-
  DERIVED. PARSE answers what the plain parser says, for every text.
-/
import Derived.Test.YtaehlakefgnfmaaDoorParseb
import Derived.Test.YtaehlakefgnfmaaDoorRow
namespace Go.Proofs.YtaehlakefgnfmaaDoor
set_option linter.unusedSimpArgs false
set_option linter.unusedVariables false
open Go.RowKit

theorem parse_any (w : World) (a : Option Addr) (s : List UInt8) (cap : Nat) (hs : BytesAt w a s) (hcap : s.length ≤ cap) :
    Calls Tryd.prog 9 #[.slice a s.length cap] w fun e w' => parseEnds (parse s) w.heap.size e w' ∧ Ext w w' := by
  cases h : lex s with
  | error e =>
    obtain ⟨x, p⟩ := e
    rw [parse_lexErr h]
    exact parse_lexNo w a s cap hs hcap x p h
  | ok ts =>
    have hw := lex_wf h
    have hp : parse s = paOut s.length (progS ts) := by
      unfold parse
      rw [h]
      simp only []
      cases progS ts <;> rfl
    rw [hp]
    exact parse_lexYes w a s cap hs hcap (lex_short h) ts h hw.1 hw.2
/-- The same, an error or a program apart. -/
theorem parse_err (w : World) (a : Option Addr) (s : List UInt8) (cap : Nat) (hs : BytesAt w a s) (hcap : s.length ≤ cap) (x p : Nat) (h : parse s = .error (x, p)) :
    Calls Tryd.prog 9 #[.slice a s.length cap] w fun e w' => e = .returned (.tuple #[.agg #[.slice none 0 0], .int .i64 x, .int .i64 p]) ∧ Ext w w' := by
  have := parse_any w a s cap hs hcap
  rw [h] at this
  exact this
theorem parse_ok (w : World) (a : Option Addr) (s : List UInt8) (cap : Nat) (hs : BytesAt w a s) (hcap : s.length ≤ cap) (p : List Fu) (h : parse s = .ok p) :
    Calls Tryd.prog 9 #[.slice a s.length cap] w fun e w' => (∃ (fa : Option Addr) (fc : Nat), e = .returned (.tuple #[.agg #[.slice fa p.length fc], .int .i64 0, .int .i64 0]) ∧ RowIs w' (w.heap.size ≤ ·) (.slice fa p.length fc) p.length (FusIs w' (w.heap.size ≤ ·) p)) ∧ Ext w w' := by
  have := parse_any w a s cap hs hcap
  rw [h] at this
  refine this.mono fun e w' ⟨⟨v, h1, h2⟩, h3⟩ => ?_
  obtain ⟨fa, fc, ks, rfl, hr⟩ := h2
  exact ⟨⟨fa, fc, h1, fa, fc, ks, rfl, hr⟩, h3⟩
theorem parse_code {s : List UInt8} {x p : Nat} (h : parse s = .error (x, p)) : x = 2 ∨ x = 31 ∨ x = 32 ∨ x = 41 ∨ x = 42 := by
  unfold parse at h
  cases hl : lex s with
  | error e =>
    obtain ⟨y, q⟩ := e
    rw [hl] at h
    cases h
    unfold lex at hl
    split at hl
    · cases hl; simp
    · rcases lexGo_code _ _ _ _ _ _ hl with rfl | rfl | rfl <;> simp
  | ok ts =>
    rw [hl] at h
    simp only [] at h
    have hi := inv_prog ts (lex_wf hl).1
    cases hp : progS ts with
    | ok q r => rw [hp] at h; cases h
    | err c r =>
      rw [hp] at h hi
      cases h
      rcases hi.1 with rfl | rfl <;> simp
end Go.Proofs.YtaehlakefgnfmaaDoor
