/-
  DERIVED. token.Lex of a string turned to bytes, and of what was laid before.
-/
import Derived.Test.YtaehlakefgnfmaaTokHead
namespace Go.Proofs.Ytaehlakefgnfmaa
set_option linter.unusedSimpArgs false
set_option linter.unusedVariables false
open Go.RowKit

theorem lex_string (w : World) (s : ByteArray) (hs : s.size ≤ maxLen) :
    Calls Try.prog 10 #[.slice (some ⟨w.heap.size, 0, none⟩) s.size (grownCap w s.size 0 5)]
      (w.alloc (.cells (bytesRow s (grownCap w s.size 0 5)) 5 ((bytesRow s (grownCap w s.size 0 5)).size, (bytesRow s (grownCap w s.size 0 5)).size + 1))).drew
      fun e w' => lexEnds (lex s.data.toList) (w.heap.size + 1) e w' ∧ Ext w w' := by
  have hb := bytes_new w s (grownCap w s.size 0 5) 5 ((bytesRow s (grownCap w s.size 0 5)).size, (bytesRow s (grownCap w s.size 0 5)).size + 1)
  have hl : s.data.toList.length = s.size := by rw [Array.length_toList]; rfl
  have h := lex_any _ _ _ (grownCap w s.size 0 5) (hb.ext (Ext.refl _).drew) (by rw [hl]; exact grownCap_ge _ _ _ _)
  rw [hl] at h
  refine h.mono fun e w' ⟨h1, h2⟩ => ⟨?_, ((Ext.refl _).alloc _).drew.trans h2⟩
  rw [World.size_drew, World.size_alloc] at h1
  exact h1
end Go.Proofs.Ytaehlakefgnfmaa
