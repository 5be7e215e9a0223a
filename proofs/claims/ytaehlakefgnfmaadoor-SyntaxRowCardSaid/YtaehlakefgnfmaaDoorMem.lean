/-
  DERIVED. More small notions on memory: a row that grows, its cells.
-/
import Derived.Test.YtaehlakefgnfmaaDoorBase
namespace Go.Proofs.YtaehlakefgnfmaaDoor
set_option linter.unusedSimpArgs false
set_option linter.unusedVariables false
open Go.RowKit

theorem add_plain (b o j : Nat) : (⟨b, o, none⟩ : Addr).add j = ⟨b, o + j, none⟩ := by unfold Addr.add; split <;> simp_all
/-- The cells of a block that was laid just now, as append asks for them. -/
theorem news_cells (w : World) (b : Nat) (t : TypeId) (vs : List Value) (hb : b = w.heap.size) : ∀ j u, vs[j]? = some u → (w.alloc (.cells vs.toArray t)).cell? ((⟨b, 0, none⟩ : Addr).add j) = some u := by
  intro j u hu
  subst hb
  rw [add_plain, Nat.zero_add, (Blk.new w t vs).cell j, hu]
theorem owned_cells {w : World} {base : Nat} {e : TypeId} {size : Nat} {v : Value} {n : Nat} {xs : List Value} (h : w.ownsRow base e size v n xs) :
    ∃ a cap, v = .slice a n cap ∧ CellsAt w a xs ∧ (∀ ad, a = some ad → base ≤ ad.block) ∧ n ≤ cap := by
  obtain ⟨hl, h⟩ := h
  rcases h with ⟨rfl, rfl⟩ | ⟨g, cap, cur, rfl, hb, hg, hnc, hcm, hcs, htake⟩
  · have hx : xs = [] := List.eq_nil_of_length_eq_zero (by simpa using hl)
    subst hx
    exact ⟨none, 0, rfl, CellsAt.nil _ _, by simp, Nat.le_refl _⟩
  · refine ⟨some ⟨g, 0, none⟩, cap, rfl, ?_, ?_, hnc⟩
    · intro i v hv
      refine ⟨g, 0, rfl, ?_⟩
      rw [← htake, List.getElem?_take] at hv
      split at hv
      · simp only [World.cell?, hg, Nat.zero_add]
        simpa using hv
      · simp at hv
    · intro ad had
      cases had
      exact hb
theorem owned_cap {w : World} {base : Nat} {e : TypeId} {size : Nat} {a : Option Addr} {n n' cap : Nat} {xs : List Value} (h : w.ownsRow base e size (.slice a n' cap) n xs) : cap ≤ 9223372036854775807 := by
  rcases h.2 with ⟨h, _⟩ | ⟨g, c, cur, h, _, _, _, hm, _⟩
  · cases h; omega
  · cases h; simpa [maxLen] using hm
theorem ownsRow_ext {w w' : World} {base : Nat} {e : TypeId} {size : Nat} {v : Value} {n : Nat} {xs : List Value} (h : w.ownsRow base e size v n xs) (x : Ext w w') : w'.ownsRow base e size v n xs :=
  h.kept (row := none) ⟨x.os, x.tape, x.output, x.size, fun k hk _ => x.block k hk⟩ (by cases v.ownBlock <;> simp)
/-- Behind an append to a row of one's own: of what was there when all began nothing has turned. -/
theorem Ext.grown {a w w' : World} {base : Nat} {e : TypeId} {size : Nat} {v : Value} {n : Nat} {xs : List Value} (h : Ext a w) (ho : w.ownsRow base e size v n xs) (hb : a.heap.size ≤ base) (g : w.grownBy w' v.ownBlock) : Ext a w' :=
  Below.grown h g h.size (fun k hk => Nat.le_trans hb (ho.lt k hk).1)
end Go.Proofs.YtaehlakefgnfmaaDoor
