/-
  DERIVED. What the laws' frames share: a slice of bytes that came in, as a list of bytes.
-/
import Derived.Test.YtaehlakefgnfmaaDoorMem
namespace Go.Proofs.YtaehlakefgnfmaaDoor
set_option linter.unusedSimpArgs false
set_option linter.unusedVariables false
open Go.RowKit

/-- What the walk is told of a slice of integers that came in. -/
def IsRow (k : IntKind) (w : World) (a : Option Addr) (len cap : Nat) (zs : List Int) : Prop :=
  (a = none ∧ len = 0 ∧ cap = 0 ∧ zs = []) ∨
  ∃ x, a = some x ∧ len ≤ cap ∧ cap ≤ maxLen ∧ zs.length = cap ∧ (∀ i, i < zs.length → w.cell? (x.add i) = some (.int k (zs.getD i 0))) ∧ ∀ n ∈ zs, (Lit.int k n).wf = true

theorem bytes_of_row {w : World} {a : Option Addr} {len cap : Nat} {zs : List Int} (h : IsRow .u8 w a len cap zs) : ∃ s : List UInt8, s.length = len ∧ BytesAt w a s ∧ len ≤ cap ∧ cap ≤ 9223372036854775807 := by
  rcases h with ⟨rfl, rfl, rfl, rfl⟩ | ⟨x, rfl, hl, hm, hz, hc, hwf⟩
  · exact ⟨[], rfl, CellsAt.nil _ _, Nat.le_refl _, by omega⟩
  · refine ⟨(zs.take len).map fun n => UInt8.ofNat n.toNat, by simp; omega, ?_, hl, by simpa [maxLen] using hm⟩
    intro i v hv
    have hi : i < len := by
      have := (List.getElem?_eq_some_iff.1 hv).1
      rw [List.length_map, List.length_map, List.length_take] at this
      omega
    have hiz : i < zs.length := by omega
    have hci := hc i hiz
    have h0 := hc 0 (by omega)
    obtain ⟨b, off, spot⟩ := x
    have hsp : spot = none := by
      cases spot with
      | none => rfl
      | some q =>
        simp only [Addr.add, if_true, World.cell?, Option.isSome] at h0
        split at h0 <;> simp at h0
    subst hsp
    refine ⟨b, off, rfl, ?_⟩
    rw [add_plain] at hci
    rw [hci]
    have hw := hwf zs[i] (by simp)
    have hb : 0 ≤ zs[i] ∧ zs[i] ≤ 255 := by
      simp [Lit.wf, IntKind.min, IntKind.max, IntKind.bits, IntKind.signed] at hw
      omega
    have hg : zs.getD i 0 = zs[i] := by simp [List.getD, hiz]
    rw [hg, ← hv]
    simp [hi, hiz, B8]
    omega
end Go.Proofs.YtaehlakefgnfmaaDoor
