/-
  DERIVED. THE WALK of the laws' head: the live question.
-/
import Derived.Test.YtaehlakefgnfmaaTokf
import Derived.Test.YtaehlakefgnfmaaConst
namespace Go.Proofs.Ytaehlakefgnfmaa
set_option linter.unusedSimpArgs false
set_option linter.unusedVariables false
open Go.RowKit

theorem lex_one : lex [120, 60, 61, 49, 50, 32, 35, 32, 121] = .ok [⟨1, [120], 0, 0⟩, ⟨4, [60, 61], 0, 1⟩, ⟨2, [], 12, 3⟩] := by rfl
theorem lex_two : lex [32, 34, 97] = .error (31, 1) := by rfl

set_option maxHeartbeats 1000000 in
theorem head_any (w : World) :
    Calls Try.prog 9 #[] w fun e w' => e = .returned (.bool true) ∧ Ext w w' := by
  have b1 : ∀ w : World, BytesAt (w.alloc (.cells #[.int .u8 120, .int .u8 60, .int .u8 61, .int .u8 49, .int .u8 50, .int .u8 32, .int .u8 35, .int .u8 32, .int .u8 121] 5 (9, 10))) (some ⟨w.heap.size, 0, none⟩) [120, 60, 61, 49, 50, 32, 35, 32, 121] :=
    fun w => CellsAt.frozenNew w 5 _ _
  have b2 : ∀ w : World, BytesAt (w.alloc (.cells #[.int .u8 32, .int .u8 34, .int .u8 97] 5 (3, 4))) (some ⟨w.heap.size, 0, none⟩) [32, 34, 97] :=
    fun w => CellsAt.frozenNew w 5 _ _
  have L1 := fun w : World => lex_any _ _ [120, 60, 61, 49, 50, 32, 35, 32, 121] 9 (b1 w) (by decide)
  have L2 := fun w : World => lex_any _ _ [32, 34, 97] 3 (b2 w) (by decide)
  rw [lex_one] at L1
  rw [lex_two] at L2
  have H1 := hid L1
  have H2 := hid L2
  clear L1 L2 b1 b2
  have kc := fun (w : World) (C : Array Value) (n c : Nat) => Lib.run_convert_bytes_const (P := Try.prog) w 22 5 C n c Try.underlying22 Try.underlying5
  go_enter Try.func9, Try.ntmps9
  go_wp2_with fail
  refine (H1.out w).mono ?_
  rintro e w1 ⟨⟨a, cap, rfl, hc, ha, hcap⟩, e1⟩
  go_wp2_with fail
  refine (H2.out w1).mono ?_
  rintro e w2 ⟨he, e2⟩
  have he' := he
  simp only [lexEnds] at he'
  subst he'
  obtain ⟨b, off, rfl, h0⟩ := hc 0 _ rfl
  have hc2 := (hc.ext ((Ext.refl _).alloc _)).ext e2
  clear he hc
  obtain ⟨_, _, hb, h5⟩ := hc2 5 _ rfl
  cases hb
  obtain ⟨_, _, hb, h10⟩ := hc2 10 _ rfl
  cases hb
  go_wp2_with fail
  refine (word_any _ _).mono ?_
  rintro e w3 ⟨rfl, hw⟩
  rw [show word (ByteArray.mk #[102, 110]).data.toList = true from rfl]
  subst hw
  go_wp2_with fail
  refine (word_any _ _).mono ?_
  rintro e w3 ⟨rfl, hw⟩
  rw [show word (ByteArray.mk #[120]).data.toList = false from rfl]
  subst hw
  go_wp2_with fail
  go_ret
  exact ⟨rfl, (((Ext.refl _).alloc _).trans e1).trans (((Ext.refl _).alloc _).trans e2)⟩
end Go.Proofs.Ytaehlakefgnfmaa
