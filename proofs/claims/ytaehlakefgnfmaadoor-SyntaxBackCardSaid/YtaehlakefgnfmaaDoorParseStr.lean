/-
  DERIVED. PARSE of a string's bytes, as '[]byte(s)' lays them.
-/
import Derived.Test.YtaehlakefgnfmaaDoorParsec
import Derived.Test.YtaehlakefgnfmaaDoorConst
namespace Go.Proofs.YtaehlakefgnfmaaDoor
set_option linter.unusedSimpArgs false
set_option linter.unusedVariables false
open Go.RowKit

/-- The world behind '[]byte(s)'. -/
def strW0 (w : World) (s : ByteArray) : World := (w.alloc (.cells (bytesRow s (grownCap w s.size 0 5)) 5 ((bytesRow s (grownCap w s.size 0 5)).size, (bytesRow s (grownCap w s.size 0 5)).size + 1))).drew
theorem strW0_ext (w : World) (s : ByteArray) : Ext w (strW0 w s) := ((Ext.refl _).alloc _).drew
theorem strW0_bytes (w : World) (s : ByteArray) : BytesAt (strW0 w s) (some ⟨w.heap.size, 0, none⟩) s.data.toList :=
  (bytes_new w s (grownCap w s.size 0 5) 5 ((bytesRow s (grownCap w s.size 0 5)).size, (bytesRow s (grownCap w s.size 0 5)).size + 1)).ext (Ext.refl _).drew
theorem parse_str_err (w : World) (s : ByteArray) (x p : Nat) (h : parse s.data.toList = .error (x, p)) :
    Calls Tryd.prog 9 #[.slice (some ⟨w.heap.size, 0, none⟩) s.size (grownCap w s.size 0 5)]
      (w.alloc (.cells (bytesRow s (grownCap w s.size 0 5)) 5 ((bytesRow s (grownCap w s.size 0 5)).size, (bytesRow s (grownCap w s.size 0 5)).size + 1))).drew
      fun e w' => e = .returned (.tuple #[.agg #[.slice none 0 0], .int .i64 x, .int .i64 p]) ∧ Ext w w' := by
  have hl : s.data.toList.length = s.size := by rw [Array.length_toList]; rfl
  have h1 := parse_err (strW0 w s) _ _ (grownCap w s.size 0 5) (strW0_bytes w s) (by rw [hl]; exact grownCap_ge _ _ _ _) x p h
  rw [hl] at h1
  exact h1.mono fun e w' ⟨h2, h3⟩ => ⟨h2, (strW0_ext w s).trans h3⟩
theorem parse_str_ok (w : World) (s : ByteArray) (p : List Fu) (h : parse s.data.toList = .ok p) :
    Calls Tryd.prog 9 #[.slice (some ⟨w.heap.size, 0, none⟩) s.size (grownCap w s.size 0 5)]
      (w.alloc (.cells (bytesRow s (grownCap w s.size 0 5)) 5 ((bytesRow s (grownCap w s.size 0 5)).size, (bytesRow s (grownCap w s.size 0 5)).size + 1))).drew
      fun e w' => (∃ (fa : Option Addr) (fc : Nat), e = .returned (.tuple #[.agg #[.slice fa p.length fc], .int .i64 0, .int .i64 0]) ∧ RowIs w' (w.heap.size ≤ ·) (.slice fa p.length fc) p.length (FusIs w' (w.heap.size ≤ ·) p)) ∧ Ext w w' := by
  have hl : s.data.toList.length = s.size := by rw [Array.length_toList]; rfl
  have h1 := parse_ok (strW0 w s) _ _ (grownCap w s.size 0 5) (strW0_bytes w s) (by rw [hl]; exact grownCap_ge _ _ _ _) p h
  rw [hl] at h1
  refine h1.mono fun e w' ⟨⟨fa, fc, h2, h4⟩, h3⟩ => ⟨⟨fa, fc, h2, ?_⟩, (strW0_ext w s).trans h3⟩
  have c : Carry w' w' ((strW0 w s).heap.size ≤ ·) (w.heap.size ≤ ·) := ⟨fun _ _ _ _ h => h, fun b _ hb => Nat.le_trans (strW0_ext w s).size hb⟩
  exact h4.carry c fun ks => FusIs.carry c _ ks
end Go.Proofs.YtaehlakefgnfmaaDoor
