/-
  DERIVED. A constant text as bytes; a text of one's own.
-/
import Derived.Test.YtaehlakefgnfmaaDoorMem
import Derived.Lib.SlBytesConst
namespace Go.Proofs.YtaehlakefgnfmaaDoor
set_option linter.unusedSimpArgs false
set_option linter.unusedVariables false
open Go.RowKit

theorem CellsAt.frozenNew (w : World) (t : TypeId) (vs : List Value) (fr : Nat × Nat) : CellsAt (w.alloc (.cells vs.toArray t fr)) (some ⟨w.heap.size, 0, none⟩) vs := by
  intro i v hv
  refine ⟨w.heap.size, 0, rfl, ?_⟩
  have : (w.alloc (.cells vs.toArray t fr)).heap[w.heap.size]? = some (.cells vs.toArray t fr) := by
    show (w.heap.push _)[w.heap.size]? = _
    simp
  simp only [World.cell?, this, Nat.zero_add]
  simpa using hv
theorem CellsAt.left {w : World} {a : Option Addr} {vs us : List Value} (h : CellsAt w a (vs ++ us)) : CellsAt w a vs := by
  intro i v hv
  exact h i v (by rw [List.getElem?_append_left (List.getElem?_eq_some_iff.1 hv).1]; exact hv)
/-- '[]byte(s)'. -/
theorem bytes_new (w : World) (s : ByteArray) (cap : Nat) (e : TypeId) (fr : Nat × Nat) : BytesAt (w.alloc (.cells (bytesRow s cap) e fr)) (some ⟨w.heap.size, 0, none⟩) s.data.toList := by
  have h := CellsAt.frozenNew w e (bytesRow s cap).toList fr
  rw [Array.toArray_toList] at h
  unfold bytesRow at h ⊢
  rw [Array.toList_append, Array.toList_map] at h
  exact h.left
end Go.Proofs.YtaehlakefgnfmaaDoor
