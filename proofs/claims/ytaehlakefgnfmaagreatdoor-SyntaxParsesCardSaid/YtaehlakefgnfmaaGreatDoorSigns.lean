/-
  DERIVED. THE WALKS of signs, slices.IndexFunc of texts, the closure that looks for a sign.
-/
import Derived.Test.YtaehlakefgnfmaaGreatDoorRd
set_option linter.unusedSimpArgs false
set_option linter.unusedVariables false
namespace Go.Proofs.YtaehlakefgnfmaaGreatDoor
set_option maxRecDepth 100000
open Go.RowKit

def strW (l : List UInt8) : Value := .string ⟨l.toArray⟩
set_option maxHeartbeats 1000000 in
theorem signs_any (w : World) (m : Nat) (hm : m < 5) :
    Calls Tryz.prog 99 #[.int .i64 m] w fun e w' => e = .returned (.slice (some ⟨w.heap.size, 0, none⟩) (levelSigns m).length (levelSigns m).length) ∧ w' = w.alloc (.cells ((levelSigns m).map strW).toArray 9) := by
  rcases (by omega : m = 0 ∨ m = 1 ∨ m = 2 ∨ m = 3 ∨ m = 4) with rfl | rfl | rfl | rfl | rfl
  all_goals
    go_enter Tryz.func99, Tryz.ntmps99
    go_wp2_with fail
    go_ret
    exact ⟨rfl, rfl⟩

/-- The function value answers p of a text. -/
structure DecidesS (P : Program) (w : World) (f : FuncId) (cap : Array Value) (p : List UInt8 → Bool) : Prop where
  enters : ∀ args w', (callFunc f args).run P w' = .ok (.enter f args) w'
  says : ∀ s : List UInt8, Calls P f (#[.string ⟨s.toArray⟩] ++ cap) w fun e w'' => e = .returned (.bool (p s)) ∧ w = w''
def IdxRel (p : List UInt8 → Bool) (ss : List (List UInt8)) (i : Value) : Prop := ∃ k : Nat, i = .int .i64 k ∧ k ≤ ss.length ∧ ∀ j, (h : j < ss.length) → j < k → p ss[j] = false
/-- What IndexFunc answers. -/
def IdxIs (p : List UInt8 → Bool) (ss : List (List UInt8)) (n : Int) : Prop := (n = -1 ∧ ∀ s ∈ ss, p s = false) ∨ ∃ k : Nat, ∃ h : k < ss.length, n = k ∧ p ss[k] = true
def IdxEnds (p : List UInt8 → Bool) (ss : List (List UInt8)) (w : World) (e : Ending) (w' : World) : Prop := ∃ n : Int, e = .returned (.int .i64 n) ∧ IdxIs p ss n ∧ w = w'
set_option maxHeartbeats 1000000 in
theorem index_any (w : World) (a : Option Addr) (cap : Nat) (ss : List (List UInt8)) (f : FuncId) (fc : Array Value) (p : List UInt8 → Bool) (hs : CellsAt w a (ss.map strW)) (hlen : ss.length ≤ 1000) (hp : DecidesS Tryz.prog w f fc p) :
    Calls Tryz.prog 98 #[.slice a ss.length cap, .func (.func f) #[] fc] w (IdxEnds p ss w) := by
  have hent := hp.enters
  have HP := hid hp
  clear hp
  go_enter Tryz.func98, Tryz.ntmps98
  go_wp2_with fail
  go_loop [5, 8] (fun _ i => IdxRel p ss i) (fun _ i => ss.length - (intOf i).toNat)
  case atStart => exact ⟨0, rfl, by omega, fun j _ h => by omega⟩
  case round =>
    obtain ⟨k, rfl, hk, hno⟩ := hrel
    have HN := hid hno
    clear hno
    by_cases hlt : k < ss.length
    · obtain ⟨b, off, rfl, hc⟩ := hs k (strW ss[k]) (by simp [hlt])
      unfold strW at hc
      cases hx : p ss[k] with
      | true =>
        have HX := hid hx
        clear hx
        go_wp2_with fail
        refine (HP.out.says _).mono ?_
        rintro e w' ⟨rfl, rfl⟩
        rw [HX.out]
        go_wp2_with fail
        go_ret
        exact ⟨k, rfl, .inr ⟨k, hlt, rfl, HX.out⟩, rfl⟩
      | false =>
        have HX := hid hx
        clear hx
        go_wp2_with fail
        refine (HP.out.says _).mono ?_
        rintro e w' ⟨rfl, rfl⟩
        rw [HX.out]
        go_wp2_with fail
        go_round
        case rel => exact ⟨k + 1, by go_num, by omega, fun j hj hjk => by
          by_cases h : j = k
          · subst h; exact HX.out
          · exact HN.out j hj (by omega)⟩
        case measure => simp [intOf]; omega
    · go_wp2_with fail
      go_ret
      refine ⟨-1, rfl, .inl ⟨rfl, fun s hs => ?_⟩, rfl⟩
      obtain ⟨j, hj, rfl⟩ := List.getElem_of_mem hs
      exact HN.out j hj (by omega)

set_option maxHeartbeats 1000000 in
theorem look_any (w : World) (br n : Nat) (ts : List Tok) (hr : RdAt w br n ts) (b3 : Nat) (hb : w.cell? ⟨b3, 0, none⟩ = some (.pointer (some ⟨br, 0, none⟩))) (s : List UInt8) :
    Calls Tryz.prog 100 #[.string ⟨s.toArray⟩, .pointer (some ⟨b3, 0, none⟩)] w fun e w' => e = .returned (.bool (isSign s ts)) ∧ w = w' := by
  go_enter Tryz.func100, Tryz.ntmps100
  go_wp2_with fail
  refine (at0_any w br n ts hr _).mono ?_
  rintro e w' ⟨rfl, rfl⟩
  go_wp2_with fail
  go_ret
  exact ⟨ret_bool (by simp), rfl⟩
theorem look_decides (w : World) (br n : Nat) (ts : List Tok) (hr : RdAt w br n ts) (b3 : Nat) (hb : w.cell? ⟨b3, 0, none⟩ = some (.pointer (some ⟨br, 0, none⟩))) :
    DecidesS Tryz.prog w 100 #[.pointer (some ⟨b3, 0, none⟩)] (fun s => isSign s ts) :=
  ⟨fun _ _ => by simp [go_sem], fun s => look_any w br n ts hr b3 hb s⟩
/-- The sign that is found is the next token's. -/
theorem idx_op {m : Nat} {ts : List Tok} {k : Nat} (h : k < (levelSigns m).length) (hp : isSign (levelSigns m)[k] ts = true) : isOp m ts = true ∧ headText ts = (levelSigns m)[k] := by
  obtain ⟨t, r, rfl, h4, ht⟩ : ∃ t r, ts = t :: r ∧ t.kind = 4 ∧ t.text = (levelSigns m)[k] := by
    cases ts with
    | nil => simp [isSign] at hp
    | cons t r => simp [isSign] at hp; exact ⟨t, r, rfl, hp.1, hp.2⟩
  refine ⟨?_, ht⟩
  simp only [isOp, h4, ht, List.contains_eq_mem, List.getElem_mem, decide_true]
  rfl
theorem idx_none {m : Nat} {ts : List Tok} (h : ∀ s ∈ levelSigns m, isSign s ts = false) : isOp m ts = false := by
  cases ts with
  | nil => rfl
  | cons t r =>
    simp only [isOp]
    rw [Bool.eq_false_iff]
    intro hc
    simp only [Bool.and_eq_true, beq_iff_eq, List.contains_eq_mem, decide_eq_true_eq] at hc
    have := h t.text hc.2
    simp [isSign, hc.1] at this
end Go.Proofs.YtaehlakefgnfmaaGreatDoor
