/-
  DERIVED. The cells of a row of tokens.
-/
import Derived.Test.YtaehlakefgnfmaaDoorTokf
namespace Go.Proofs.YtaehlakefgnfmaaDoor
set_option linter.unusedSimpArgs false
set_option linter.unusedVariables false
open Go.RowKit

theorem flatMap_get (ts : List Tok) (k : Nat) (hk : k < ts.length) (j : Nat) (hj : j < 4) : (ts.flatMap encTok)[k * 4 + j]? = (encTok ts[k])[j]? := by
  induction ts generalizing k with
  | nil => simp at hk
  | cons t ts ih =>
    rw [List.flatMap_cons]
    cases k with
    | zero => rw [List.getElem?_append_left (by simp [encTok]; omega)]; simp
    | succ k =>
      rw [List.getElem?_append_right (by simp [encTok]; omega), show (k + 1) * 4 + j - (encTok t).length = k * 4 + j by simp [encTok]; omega]
      simpa using ih k (by simpa using hk)
/-- The four cells of one token of a row. -/
theorem toks_at {w : World} {a : Option Addr} {ts : List Tok} (h : CellsAt w a (ts.flatMap encTok)) {k : Nat} (hk : k < ts.length) :
    ∃ b off, a = some ⟨b, off, none⟩ ∧ w.cell? ⟨b, off + k * 4, none⟩ = some (.int .i64 ts[k].kind) ∧ w.cell? ⟨b, off + k * 4 + 1, none⟩ = some (.string ⟨ts[k].text.toArray⟩) ∧
      w.cell? ⟨b, off + k * 4 + 2, none⟩ = some (.int .i64 ts[k].num) ∧ w.cell? ⟨b, off + k * 4 + 3, none⟩ = some (.int .i64 ts[k].place) := by
  have g : ∀ j, j < 4 → ∀ v, (encTok ts[k])[j]? = some v → ∃ b off, a = some ⟨b, off, none⟩ ∧ w.cell? ⟨b, off + (k * 4 + j), none⟩ = some v :=
    fun j hj v hv => h _ v (by rw [flatMap_get ts k hk j hj]; exact hv)
  obtain ⟨b, off, rfl, h0⟩ := g 0 (by omega) _ rfl
  obtain ⟨b', off', hb, h1⟩ := g 1 (by omega) _ rfl
  cases hb
  obtain ⟨b', off', hb, h2⟩ := g 2 (by omega) _ rfl
  cases hb
  obtain ⟨b', off', hb, h3⟩ := g 3 (by omega) _ rfl
  cases hb
  exact ⟨b, off, rfl, h0, h1, h2, h3⟩
end Go.Proofs.YtaehlakefgnfmaaDoor
