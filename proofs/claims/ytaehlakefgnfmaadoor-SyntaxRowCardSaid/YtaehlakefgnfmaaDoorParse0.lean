/-
  DERIVED. THE WALK of Parse's deferred closure.
-/
import Derived.Test.YtaehlakefgnfmaaDoorFunb
import Derived.Defers
import Derived.Recover
namespace Go.Proofs.YtaehlakefgnfmaaDoor
set_option linter.unusedSimpArgs false
set_option linter.unusedVariables false
set_option maxRecDepth 100000
open Go.RowKit

theorem Tryd.asFault (a b : Value) (w : World) : (Instr.typeAssert (.iface 55 (.agg #[a, b])) 20 55 true).run Tryd.prog w = .ok (.tuple #[.agg #[a, b], .bool true]) w := by kernel_rfl
theorem Tryd.asNone (w : World) : (Instr.typeAssert .nilIface 20 55 true).run Tryd.prog w = .ok (.tuple #[.agg #[.int .i64 0, .int .i64 0], .bool false]) w := by kernel_rfl
theorem catch_any (p2 p3 p4 : Nat) (v2 v3 v4 : Value) (x pl : Nat) (w : World) (h2 : Blk w p2 26 [v2]) (h3 : Blk w p3 27 [v3]) (h4 : Blk w p4 3 [v4]) (n23 : p2 ≠ p3) (n24 : p2 ≠ p4) (n34 : p3 ≠ p4) :
    CallsD Tryd.prog 14 #[.pointer (some ⟨p2, 0, none⟩), .pointer (some ⟨p3, 0, none⟩), .pointer (some ⟨p4, 0, none⟩)] (.panicking [faultV x pl]) w fun e u' w' =>
      e = .returned (.tuple #[]) ∧ u' = .panicking [{ faultV x pl with recovered := true }] ∧ (Blk w' p2 26 [.slice none 0 0] ∧ Blk w' p3 27 [.int .i64 x] ∧ Blk w' p4 3 [.int .i64 pl] ∧ Keep [p2, p3, p4] w w') := by
  refine callsD_of_wpS Tryd.func14 rfl fun c₀ cs hu => ?_
  have c2 := h2.cell 0
  have c3 := h3.cell 0
  have c4 := h4.cell 0
  have l2 := h2.lt
  have l3 := h3.lt
  have l4 := h4.lt
  have f2 := h2.frozen 0
  have f3 := h3.frozen 0
  have f4 := h4.frozen 0
  simp only [List.getElem?_cons_zero] at c2 c3 c4
  apply wpS_seq
  apply wpS_region
  simp [wpOpsS, go_sem, recoverD, hu, Tryd.ntmps14, Exit.thenS, faultV]
  refine wpS_of_wp ?_
  simp only [show Array.replicate 18 undef = #[undef, undef, undef, undef, undef, undef, undef, undef, undef, undef, undef, undef, undef, undef, undef, undef, undef, undef] from rfl, List.setIfInBounds_toArray, List.set_cons_succ, List.set_cons_zero, List.append_toArray, List.cons_append, List.nil_append]
  have hta := Tryd.asFault
  go_wp2_with fail
  go_region
  change bodyPostS _ _ _ _ _ _ _ _ _
  have b2 := (h2.set 0 (.slice none 0 0)).setOther ⟨p3, 0, none⟩ (Ne.symm n23) (.int .i64 x) |>.setOther ⟨p4, 0, none⟩ (Ne.symm n24) (.int .i64 pl)
  have b3 := ((h3.setOther ⟨p2, 0, none⟩ n23 (.slice none 0 0)).set 0 (.int .i64 x)).setOther ⟨p4, 0, none⟩ (Ne.symm n34) (.int .i64 pl)
  have b4 := ((h4.setOther ⟨p2, 0, none⟩ n24 (.slice none 0 0)).setOther ⟨p3, 0, none⟩ n34 (.int .i64 x)).set 0 (.int .i64 pl)
  have k := (((Keep.refl [p2, p3, p4] w).setCell (p := ⟨p2, 0, none⟩) (by simp) (.slice none 0 0)).setCell (p := ⟨p3, 0, none⟩) (by simp) (.int .i64 x)).setCell (p := ⟨p4, 0, none⟩) (by simp) (.int .i64 pl)
  have B2 := (b2.alloc (.cells #[.int .i64 x, .int .i64 pl] 55)).drew
  have B3 := (b3.alloc (.cells #[.int .i64 x, .int .i64 pl] 55)).drew
  have B4 := (b4.alloc (.cells #[.int .i64 x, .int .i64 pl] 55)).drew
  have KK := (k.alloc (.cells #[.int .i64 x, .int .i64 pl] 55)).drew
  simp [bodyPostS, results, Tryd.results14]
  exact ⟨B2, B3, B4, KK⟩

theorem catch_idle (p2 p3 p4 : Nat) (w : World) :
    CallsD Tryd.prog 14 #[.pointer (some ⟨p2, 0, none⟩), .pointer (some ⟨p3, 0, none⟩), .pointer (some ⟨p4, 0, none⟩)] .returning w fun e u' w' =>
      e = .returned (.tuple #[]) ∧ u' = .returning ∧ Ext w w' := by
  refine callsD_of_wpS Tryd.func14 rfl fun c₀ cs hu => ?_
  apply wpS_seq
  apply wpS_region
  simp [wpOpsS, go_sem, recoverD, hu, Tryd.ntmps14, Exit.thenS]
  refine wpS_of_wp ?_
  simp only [show Array.replicate 18 undef = #[undef, undef, undef, undef, undef, undef, undef, undef, undef, undef, undef, undef, undef, undef, undef, undef, undef, undef] from rfl, List.setIfInBounds_toArray, List.set_cons_succ, List.set_cons_zero, List.append_toArray, List.cons_append, List.nil_append]
  have hta := Tryd.asNone
  go_wp2_with fail
  have e := (Ext.refl w).alloc (.cells #[.int .i64 0, .int .i64 0] 55)
  cases c₀
  simp_all [bodyPostS, results, Tryd.results14]
end Go.Proofs.YtaehlakefgnfmaaDoor
