/-
  DERIVED. THE WALK of the laws' head: the live question.
-/
import Derived.Test.YtaehlakefgnfmaaGreatDoorShowF
import Derived.Test.YtaehlakefgnfmaaGreatDoorMem
namespace Go.Proofs.YtaehlakefgnfmaaGreatDoor
set_option linter.unusedSimpArgs false
set_option linter.unusedVariables false
set_option maxRecDepth 100000
open Go.RowKit

def headEx : Ex := .mk 6 0 [43] [.mk 1 1 [] [] 21, .mk 6 0 [42] [.mk 1 2 [] [] 25, .mk 1 3 [] [] 29] 27] 23
def headFu : Fu := ⟨[102], [], 1, [.mk 5 [] [headEx] [] [] 14], 0⟩
theorem head_one : parse [102, 110, 32, 102, 40, 41, 58, 32, 105, 110, 116, 32, 123, 32, 114, 101, 116, 117, 114, 110, 32, 49, 32, 43, 32, 50, 32, 42, 32, 51, 59, 32, 125] = .ok [headFu] := by kernel_rfl
theorem head_two : parse [102, 110, 32, 102, 40, 41, 32, 123, 32, 49, 32, 125] = .error (41, 11) := by kernel_rfl
theorem itoa_digit (n : Nat) (h : n < 10) : Lib.itoa n = [UInt8.ofNat (48 + n)] := by rw [Lib.itoa_nonneg, Lib.decDigits, dif_pos h]
theorem head_show : showP [headFu] = [102, 110, 32, 102, 40, 41, 58, 32, 105, 110, 116, 32, 123, 32, 114, 101, 116, 117, 114, 110, 32, 40, 49, 32, 43, 32, 40, 50, 32, 42, 32, 51, 41, 41, 59, 32, 125] ++ [10] := by
  have e : showE headEx = [40, 49, 32, 43, 32, 40, 50, 32, 42, 32, 51, 41, 41] := by
    simp only [headEx, showE, showEs, showOp, nthS]
    rw [show (Lib.itoa ((1 : Nat) : Int)) = [49] from itoa_digit 1 (by omega), show (Lib.itoa ((2 : Nat) : Int)) = [50] from itoa_digit 2 (by omega), show (Lib.itoa ((3 : Nat) : Int)) = [51] from itoa_digit 3 (by omega)]
    rfl
  unfold showP
  rw [join_empty]
  simp only [List.map_cons, List.map_nil, List.flatten_cons, List.flatten_nil, headFu, funText, showSs, showS, showEs, stmtText, e]
  rfl
theorem rows_ext {w w' : World} {F : Nat → Prop} {v : Value} {n : Nat} {p : List Fu} (h : RowIs w F v n (FusIs w F p)) (e : Ext w w') : RowIs w' F v n (FusIs w' F p) :=
  h.carry (Carry.keep (.ofExt e : Keep [] w w') (by simp) fun _ _ h => h) fun ks hk => FusIs.carry (Carry.keep (.ofExt e : Keep [] w w') (by simp) fun _ _ h => h) _ _ hk
set_option maxHeartbeats 4000000 in
theorem head_any (w : World) (ht : Tab w) :
    Calls Tryz.prog 4 #[] w fun e w' => e = .returned (.bool true) ∧ Ext w w' := by
  have b1 : ∀ w : World, BytesAt (w.alloc (.cells #[.int .u8 102, .int .u8 110, .int .u8 32, .int .u8 102, .int .u8 40, .int .u8 41, .int .u8 58, .int .u8 32, .int .u8 105, .int .u8 110, .int .u8 116, .int .u8 32, .int .u8 123, .int .u8 32, .int .u8 114, .int .u8 101, .int .u8 116, .int .u8 117, .int .u8 114, .int .u8 110, .int .u8 32, .int .u8 49, .int .u8 32, .int .u8 43, .int .u8 32, .int .u8 50, .int .u8 32, .int .u8 42, .int .u8 32, .int .u8 51, .int .u8 59, .int .u8 32, .int .u8 125] 5 (33, 34))) (some ⟨w.heap.size, 0, none⟩) [102, 110, 32, 102, 40, 41, 58, 32, 105, 110, 116, 32, 123, 32, 114, 101, 116, 117, 114, 110, 32, 49, 32, 43, 32, 50, 32, 42, 32, 51, 59, 32, 125] :=
    fun w => CellsAt.frozenNew w 5 _ _
  have b2 : ∀ w : World, BytesAt (w.alloc (.cells #[.int .u8 102, .int .u8 110, .int .u8 32, .int .u8 102, .int .u8 40, .int .u8 41, .int .u8 32, .int .u8 123, .int .u8 32, .int .u8 49, .int .u8 32, .int .u8 125] 5 (12, 13))) (some ⟨w.heap.size, 0, none⟩) [102, 110, 32, 102, 40, 41, 32, 123, 32, 49, 32, 125] :=
    fun w => CellsAt.frozenNew w 5 _ _
  have L1 := fun w : World => parse_ok _ _ [102, 110, 32, 102, 40, 41, 58, 32, 105, 110, 116, 32, 123, 32, 114, 101, 116, 117, 114, 110, 32, 49, 32, 43, 32, 50, 32, 42, 32, 51, 59, 32, 125] 33 (b1 w) (by decide) _ head_one
  have L2 := fun w : World => parse_err _ _ [102, 110, 32, 102, 40, 41, 32, 123, 32, 49, 32, 125] 12 (b2 w) (by decide) 41 11 head_two
  have H1 := hid L1
  have H2 := hid L2
  have HT := hid ht
  clear L1 L2 b1 b2 ht
  have kc := fun (w : World) (C : Array Value) (n c : Nat) => Lib.run_convert_bytes_const (P := Tryz.prog) w 22 5 C n c Tryz.underlying22 Tryz.underlying5
  go_enter Tryz.func4, Tryz.ntmps4
  go_wp2_with fail
  refine (H1.out w).mono ?_
  rintro e w1 ⟨⟨fa, fc, rfl, hr⟩, e1⟩
  have HR := hid hr
  obtain ⟨a', cap', ks, hv, hcap, hc, hq⟩ := hr
  cases hv
  obtain ⟨b, off, vs, rfl, h1, h2⟩ := elem_at fuEnc (by decide) fu_cons (l := [headFu]) hc (show fuEnc.all _ _ [headFu] _ from hq) (i := 0) (by decide)
  obtain ⟨vp, vb, rfl, ⟨pa, pc, pks, rfl, _⟩, ⟨ba, bc, bks, rfl, _⟩⟩ := h1
  have d3 : w1.cell? ⟨b, off + 3, none⟩ = some (.slice ba 1 bc) := h2 3 _ rfl
  rw [show [headFu].length = 1 from rfl] at HR ⊢
  have hfc : 1 ≤ fc := hcap
  clear h2 hq hc hcap
  have kc2 := kc (w1.alloc (.cells #[.slice (some ⟨b, off, none⟩) 1 fc] 26))
  have H22 := H2.out (w1.alloc (.cells #[.slice (some ⟨b, off, none⟩) 1 fc] 26))
  rw [World.size_alloc] at kc2 H22
  have H23 := hid H22
  clear H22
  go_wp2_with fail
  refine H23.out.mono ?_
  rintro e w2 ⟨rfl, e2⟩
  have E2 : Ext (w1.alloc (.cells #[.slice (some ⟨b, off, none⟩) 1 fc] 26)) w2 := ((Ext.refl _).alloc _).trans e2
  have p0 := ((Blk.new w1 26 [.slice (some ⟨b, off, none⟩) 1 fc]).ext E2).cell 0
  have d32 : w2.cell? ⟨b, off + 3, none⟩ = some (.slice ba 1 bc) := E2.cell (((Ext.refl _).alloc _).cell d3)
  have EW : Ext w w1 := ((Ext.refl _).alloc _).trans e1
  have E12 : Ext w1 w2 := ((Ext.refl _).alloc _).trans E2
  have l1 : w1.heap.size < w2.heap.size := by have := E2.size; simp at this; omega
  have lb := World.block_lt_of_cell? _ _ d32
  simp only [List.getElem?_cons_zero] at p0 lb
  go_wp2_with fail
  have EP : Ext w1 (w2.alloc (.cells #[.slice none 0 0] 26)) := E12.alloc _
  have hpw := parse_wf head_one
  refine (show_any _ _ [headFu] hpw.1 (by have := hpw.2; omega) (some ⟨b, off, none⟩) fc (rows_ext HR.out EP) (HT.out.ext (EW.trans EP))).mono ?_
  rintro e w3 ⟨rfl, e3⟩
  rw [head_show]
  go_wp2_with fail
  go_ret
  exact ⟨rfl, (EW.trans EP).trans e3⟩
end Go.Proofs.YtaehlakefgnfmaaGreatDoor
