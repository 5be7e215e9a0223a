/-
  DERIVED. THE WALK of the law's loose: how loose a sign is.
-/
import Derived.Test.YtaehlakefgnfmaaDoorSigns
import Derived.Test.YtaehlakefgnfmaaDoorOrder
namespace Go.Proofs.YtaehlakefgnfmaaDoor
set_option linter.unusedSimpArgs false
set_option linter.unusedVariables false
open Go.RowKit

/-- A row of a table lies where the walk lays it. -/
theorem table_at (w : World) (t : TypeId) (vs : List Value) (w' : World) (e : Ext (w.alloc (.cells vs.toArray t)) w') {k : Nat} {v : Value} (h : vs[k]? = some v) : w'.cell? ⟨w.heap.size, k, none⟩ = some v :=
  e.cell (by rw [(Blk.new w t vs).cell k, h])
theorem loose_step {s : List UInt8} {i : Nat} (hi : i < 5) (hno : ∀ j, j < i → (levelSigns j).contains s = false) (h : (levelSigns i).contains s = true) : looseN s = i := by
  unfold looseN
  rcases (by omega : i = 0 ∨ i = 1 ∨ i = 2 ∨ i = 3 ∨ i = 4) with rfl | rfl | rfl | rfl | rfl
  · rw [if_pos h]
  · rw [if_neg (by rw [hno 0 (by omega)]; decide), if_pos h]
  · rw [if_neg (by rw [hno 0 (by omega)]; decide), if_neg (by rw [hno 1 (by omega)]; decide), if_pos h]
  · rw [if_neg (by rw [hno 0 (by omega)]; decide), if_neg (by rw [hno 1 (by omega)]; decide), if_neg (by rw [hno 2 (by omega)]; decide), if_pos h]
  · rw [if_neg (by rw [hno 0 (by omega)]; decide), if_neg (by rw [hno 1 (by omega)]; decide), if_neg (by rw [hno 2 (by omega)]; decide), if_neg (by rw [hno 3 (by omega)]; decide), if_pos h]
theorem loose_none {s : List UInt8} (hno : ∀ j, j < 5 → (levelSigns j).contains s = false) : looseN s = 5 := by
  unfold looseN
  rw [if_neg (by rw [hno 0 (by omega)]; decide), if_neg (by rw [hno 1 (by omega)]; decide), if_neg (by rw [hno 2 (by omega)]; decide), if_neg (by rw [hno 3 (by omega)]; decide), if_neg (by rw [hno 4 (by omega)]; decide)]

theorem loose_more {i k : Nat} {s x : List UInt8} (h : ∀ j, j < k → (levelSigns i)[j]? ≠ some s) (hx : (levelSigns i)[k]? = some x) (hs : ¬ s = x) : ∀ j, j < k + 1 → (levelSigns i)[j]? ≠ some s := by
  intro j hj
  by_cases hjk : j = k
  · subst hjk
    rw [hx]
    intro he
    exact hs (Option.some.inj he).symm
  · exact h j (by omega)
theorem loose_next {i m : Nat} {s : List UInt8} (h : ∀ j, j < i → (levelSigns j).contains s = false) (hm : (levelSigns i).length ≤ m) (h2 : ∀ j, j < m → (levelSigns i)[j]? ≠ some s) : ∀ j, j < i + 1 → (levelSigns j).contains s = false := by
  intro j hj
  by_cases hji : j = i
  · subst hji
    rw [Bool.eq_false_iff]
    intro hc
    obtain ⟨k, hk, he⟩ := List.getElem_of_mem (List.contains_iff_mem.1 hc)
    exact h2 k (by omega) (by rw [List.getElem?_eq_getElem hk, he])
  · exact h j (by omega)

set_option maxRecDepth 100000 in
set_option maxHeartbeats 8000000 in
theorem loose_any (w : World) (s : List UInt8) :
    Calls Tryd.prog 12 #[.string ⟨s.toArray⟩] w fun e w' => e = .returned (.int .i64 (looseN s)) ∧ Ext w w' := by
  go_enter Tryd.func12, Tryd.ntmps12
  go_wp2_with fail
  go_loop [4, 5] (fun i _ => ∃ k : Nat, k ≤ 5 ∧ i = .int .i64 k ∧ Hid (∀ j, j < k → (levelSigns j).contains s = false)) (fun i _ => 5 - (intOf i).toNat)
  case atStart => exact ⟨0, by omega, rfl, fun j h => by omega⟩
  case round =>
    obtain ⟨i, hi, rfl, hno⟩ := hrel
    rcases (by omega : i = 5 ∨ i = 0 ∨ i = 1 ∨ i = 2 ∨ i = 3 ∨ i = 4) with rfl | rfl | rfl | rfl | rfl | rfl
    · go_wp2_with fail
      go_ret
      exact ⟨by rw [loose_none hno.out]; rfl, by repeat (with_reducible first | exact Ext.refl _ | refine Ext.alloc ?_ _)⟩
    · go_wp2_with fail
      go_loop [5] (fun v => ∃ k : Nat, k ≤ 1 ∧ v = .int .i64 k ∧ Hid (∀ j, j < k → (levelSigns 0)[j]? ≠ some s)) (fun v => 1 - (intOf v).toNat)
      case atStart => exact ⟨0, by omega, rfl, fun j h => by omega⟩
      case round =>
        obtain ⟨k, hk, rfl, hno2⟩ := hrel
        rcases (by omega : k = 1 ∨ k = 0) with rfl | rfl
        · go_wp2_with fail
          go_round
          case rel => exact ⟨1, by omega, by go_num, loose_next hno.out (by decide) hno2.out⟩
          case measure => simp [intOf]
        · by_cases h : s = [124, 124]
          · subst h
            go_wp2_with fail
            go_ret
            exact ⟨rfl, by repeat (with_reducible first | exact Ext.refl _ | refine Ext.alloc ?_ _)⟩
          · have hd : ([124, 124] == s) = false := beq_false_of_ne (Ne.symm h)
            have hp := hid (loose_more hno2.out (x := [124, 124]) rfl h)
            clear h
            go_wp2_with fail
            go_round
            case rel => exact ⟨1, by omega, by go_num, hp⟩
            case measure => simp [intOf]
    · go_wp2_with fail
      go_loop [5] (fun v => ∃ k : Nat, k ≤ 1 ∧ v = .int .i64 k ∧ Hid (∀ j, j < k → (levelSigns 1)[j]? ≠ some s)) (fun v => 1 - (intOf v).toNat)
      case atStart => exact ⟨0, by omega, rfl, fun j h => by omega⟩
      case round =>
        obtain ⟨k, hk, rfl, hno2⟩ := hrel
        rcases (by omega : k = 1 ∨ k = 0) with rfl | rfl
        · go_wp2_with fail
          go_round
          case rel => exact ⟨2, by omega, by go_num, loose_next hno.out (by decide) hno2.out⟩
          case measure => simp [intOf]
        · by_cases h : s = [38, 38]
          · subst h
            go_wp2_with fail
            go_ret
            exact ⟨rfl, by repeat (with_reducible first | exact Ext.refl _ | refine Ext.alloc ?_ _)⟩
          · have hd : ([38, 38] == s) = false := beq_false_of_ne (Ne.symm h)
            have hp := hid (loose_more hno2.out (x := [38, 38]) rfl h)
            clear h
            go_wp2_with fail
            go_round
            case rel => exact ⟨1, by omega, by go_num, hp⟩
            case measure => simp [intOf]
    · go_wp2_with fail
      go_loop [5] (fun v => ∃ k : Nat, k ≤ 6 ∧ v = .int .i64 k ∧ Hid (∀ j, j < k → (levelSigns 2)[j]? ≠ some s)) (fun v => 6 - (intOf v).toNat)
      case atStart => exact ⟨0, by omega, rfl, fun j h => by omega⟩
      case round =>
        obtain ⟨k, hk, rfl, hno2⟩ := hrel
        rcases (by omega : k = 6 ∨ k = 0 ∨ k = 1 ∨ k = 2 ∨ k = 3 ∨ k = 4 ∨ k = 5) with rfl | rfl | rfl | rfl | rfl | rfl | rfl
        · go_wp2_with fail
          go_round
          case rel => exact ⟨3, by omega, by go_num, loose_next hno.out (by decide) hno2.out⟩
          case measure => simp [intOf]
        · by_cases h : s = [61, 61]
          · subst h
            go_wp2_with fail
            go_ret
            exact ⟨rfl, by repeat (with_reducible first | exact Ext.refl _ | refine Ext.alloc ?_ _)⟩
          · have hd : ([61, 61] == s) = false := beq_false_of_ne (Ne.symm h)
            have hp := hid (loose_more hno2.out (x := [61, 61]) rfl h)
            clear h
            go_wp2_with fail
            go_round
            case rel => exact ⟨1, by omega, by go_num, hp⟩
            case measure => simp [intOf]
        · by_cases h : s = [33, 61]
          · subst h
            go_wp2_with fail
            go_ret
            exact ⟨rfl, by repeat (with_reducible first | exact Ext.refl _ | refine Ext.alloc ?_ _)⟩
          · have hd : ([33, 61] == s) = false := beq_false_of_ne (Ne.symm h)
            have hp := hid (loose_more hno2.out (x := [33, 61]) rfl h)
            clear h
            go_wp2_with fail
            go_round
            case rel => exact ⟨2, by omega, by go_num, hp⟩
            case measure => simp [intOf]
        · by_cases h : s = [60]
          · subst h
            go_wp2_with fail
            go_ret
            exact ⟨rfl, by repeat (with_reducible first | exact Ext.refl _ | refine Ext.alloc ?_ _)⟩
          · have hd : ([60] == s) = false := beq_false_of_ne (Ne.symm h)
            have hp := hid (loose_more hno2.out (x := [60]) rfl h)
            clear h
            go_wp2_with fail
            go_round
            case rel => exact ⟨3, by omega, by go_num, hp⟩
            case measure => simp [intOf]
        · by_cases h : s = [60, 61]
          · subst h
            go_wp2_with fail
            go_ret
            exact ⟨rfl, by repeat (with_reducible first | exact Ext.refl _ | refine Ext.alloc ?_ _)⟩
          · have hd : ([60, 61] == s) = false := beq_false_of_ne (Ne.symm h)
            have hp := hid (loose_more hno2.out (x := [60, 61]) rfl h)
            clear h
            go_wp2_with fail
            go_round
            case rel => exact ⟨4, by omega, by go_num, hp⟩
            case measure => simp [intOf]
        · by_cases h : s = [62]
          · subst h
            go_wp2_with fail
            go_ret
            exact ⟨rfl, by repeat (with_reducible first | exact Ext.refl _ | refine Ext.alloc ?_ _)⟩
          · have hd : ([62] == s) = false := beq_false_of_ne (Ne.symm h)
            have hp := hid (loose_more hno2.out (x := [62]) rfl h)
            clear h
            go_wp2_with fail
            go_round
            case rel => exact ⟨5, by omega, by go_num, hp⟩
            case measure => simp [intOf]
        · by_cases h : s = [62, 61]
          · subst h
            go_wp2_with fail
            go_ret
            exact ⟨rfl, by repeat (with_reducible first | exact Ext.refl _ | refine Ext.alloc ?_ _)⟩
          · have hd : ([62, 61] == s) = false := beq_false_of_ne (Ne.symm h)
            have hp := hid (loose_more hno2.out (x := [62, 61]) rfl h)
            clear h
            go_wp2_with fail
            go_round
            case rel => exact ⟨6, by omega, by go_num, hp⟩
            case measure => simp [intOf]
    · go_wp2_with fail
      go_loop [5] (fun v => ∃ k : Nat, k ≤ 2 ∧ v = .int .i64 k ∧ Hid (∀ j, j < k → (levelSigns 3)[j]? ≠ some s)) (fun v => 2 - (intOf v).toNat)
      case atStart => exact ⟨0, by omega, rfl, fun j h => by omega⟩
      case round =>
        obtain ⟨k, hk, rfl, hno2⟩ := hrel
        rcases (by omega : k = 2 ∨ k = 0 ∨ k = 1) with rfl | rfl | rfl
        · go_wp2_with fail
          go_round
          case rel => exact ⟨4, by omega, by go_num, loose_next hno.out (by decide) hno2.out⟩
          case measure => simp [intOf]
        · by_cases h : s = [43]
          · subst h
            go_wp2_with fail
            go_ret
            exact ⟨rfl, by repeat (with_reducible first | exact Ext.refl _ | refine Ext.alloc ?_ _)⟩
          · have hd : ([43] == s) = false := beq_false_of_ne (Ne.symm h)
            have hp := hid (loose_more hno2.out (x := [43]) rfl h)
            clear h
            go_wp2_with fail
            go_round
            case rel => exact ⟨1, by omega, by go_num, hp⟩
            case measure => simp [intOf]
        · by_cases h : s = [45]
          · subst h
            go_wp2_with fail
            go_ret
            exact ⟨rfl, by repeat (with_reducible first | exact Ext.refl _ | refine Ext.alloc ?_ _)⟩
          · have hd : ([45] == s) = false := beq_false_of_ne (Ne.symm h)
            have hp := hid (loose_more hno2.out (x := [45]) rfl h)
            clear h
            go_wp2_with fail
            go_round
            case rel => exact ⟨2, by omega, by go_num, hp⟩
            case measure => simp [intOf]
    · go_wp2_with fail
      go_loop [5] (fun v => ∃ k : Nat, k ≤ 3 ∧ v = .int .i64 k ∧ Hid (∀ j, j < k → (levelSigns 4)[j]? ≠ some s)) (fun v => 3 - (intOf v).toNat)
      case atStart => exact ⟨0, by omega, rfl, fun j h => by omega⟩
      case round =>
        obtain ⟨k, hk, rfl, hno2⟩ := hrel
        rcases (by omega : k = 3 ∨ k = 0 ∨ k = 1 ∨ k = 2) with rfl | rfl | rfl | rfl
        · go_wp2_with fail
          go_round
          case rel => exact ⟨5, by omega, by go_num, loose_next hno.out (by decide) hno2.out⟩
          case measure => simp [intOf]
        · by_cases h : s = [42]
          · subst h
            go_wp2_with fail
            go_ret
            exact ⟨rfl, by repeat (with_reducible first | exact Ext.refl _ | refine Ext.alloc ?_ _)⟩
          · have hd : ([42] == s) = false := beq_false_of_ne (Ne.symm h)
            have hp := hid (loose_more hno2.out (x := [42]) rfl h)
            clear h
            go_wp2_with fail
            go_round
            case rel => exact ⟨1, by omega, by go_num, hp⟩
            case measure => simp [intOf]
        · by_cases h : s = [47]
          · subst h
            go_wp2_with fail
            go_ret
            exact ⟨rfl, by repeat (with_reducible first | exact Ext.refl _ | refine Ext.alloc ?_ _)⟩
          · have hd : ([47] == s) = false := beq_false_of_ne (Ne.symm h)
            have hp := hid (loose_more hno2.out (x := [47]) rfl h)
            clear h
            go_wp2_with fail
            go_round
            case rel => exact ⟨2, by omega, by go_num, hp⟩
            case measure => simp [intOf]
        · by_cases h : s = [37]
          · subst h
            go_wp2_with fail
            go_ret
            exact ⟨rfl, by repeat (with_reducible first | exact Ext.refl _ | refine Ext.alloc ?_ _)⟩
          · have hd : ([37] == s) = false := beq_false_of_ne (Ne.symm h)
            have hp := hid (loose_more hno2.out (x := [37]) rfl h)
            clear h
            go_wp2_with fail
            go_round
            case rel => exact ⟨3, by omega, by go_num, hp⟩
            case measure => simp [intOf]
end Go.Proofs.YtaehlakefgnfmaaDoor
