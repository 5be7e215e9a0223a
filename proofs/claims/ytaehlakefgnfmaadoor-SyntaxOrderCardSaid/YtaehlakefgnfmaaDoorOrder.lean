/-
  DERIVED. PLAIN: what the texts of the law of two signs come to; by evaluation.
-/
import Derived.Test.YtaehlakefgnfmaaDoorSyn
import Derived.WalkKit
namespace Go.Proofs.YtaehlakefgnfmaaDoor
set_option linter.unusedSimpArgs false
set_option linter.unusedVariables false
set_option maxRecDepth 100000

def allSigns : List (List UInt8) := levelSigns 0 ++ levelSigns 1 ++ levelSigns 2 ++ levelSigns 3 ++ levelSigns 4
/-- How loose a sign is. -/
def looseN (s : List UInt8) : Nat := if (levelSigns 0).contains s then 0 else if (levelSigns 1).contains s then 1 else if (levelSigns 2).contains s then 2 else if (levelSigns 3).contains s then 3 else if (levelSigns 4).contains s then 4 else 5
theorem loose_all {s : List UInt8} (h : looseN s ≠ 5) : s ∈ allSigns := by
  unfold looseN at h
  unfold allSigns
  simp only [List.mem_append]
  repeat' split at h
  all_goals first
    | exact absurd rfl h
    | (rename_i hc; simp only [List.contains_iff_mem] at hc; simp [hc])
    | skip
def orderText (s t : List UInt8) : List UInt8 := [102, 110, 32, 102, 40, 41, 32, 123, 32, 120, 32, 61, 32, 97, 32] ++ (s ++ ([32, 98, 32] ++ (t ++ [32, 99, 59, 32, 125])))
def exA : Ex := .mk 4 0 [97] [] 13
def exB (s : List UInt8) : Ex := .mk 4 0 [98] [] (16 + s.length)
def exC (s t : List UInt8) : Ex := .mk 4 0 [99] [] (19 + s.length + t.length)
def orderEx (s t : List UInt8) : Ex :=
  if looseN s < looseN t then .mk 6 0 s [exA, .mk 6 0 t [exB s, exC s t] (18 + s.length)] 15
  else .mk 6 0 t [.mk 6 0 s [exA, exB s] 15, exC s t] (18 + s.length)
def orderFu (s t : List UInt8) : Fu := ⟨[102], [], 0, [.mk 2 [120] [orderEx s t] [] [] 9], 0⟩
def orderRes (s t : List UInt8) : Except (Nat × Nat) (List Fu) :=
  if (looseN s == 2 && looseN t == 2) = true then .error (41, 18 + s.length) else .ok [orderFu s t]
theorem order_all : (allSigns.map fun s => allSigns.map fun t => parse (orderText s t)) = (allSigns.map fun s => allSigns.map fun t => orderRes s t) := by kernel_rfl
theorem order_at {s t : List UInt8} (hs : looseN s ≠ 5) (ht : looseN t ≠ 5) : parse (orderText s t) = orderRes s t :=
  List.map_inj_left.1 (List.map_inj_left.1 order_all s (loose_all hs)) t (loose_all ht)
theorem order_no {s t : List UInt8} (hs : looseN s = 2) (ht : looseN t = 2) : parse (orderText s t) = .error (41, 18 + s.length) := by
  rw [order_at (by omega) (by omega), orderRes, if_pos (by simp [hs, ht])]
theorem order_yes {s t : List UInt8} (hs : looseN s ≠ 5) (ht : looseN t ≠ 5) (h : ¬ (looseN s = 2 ∧ looseN t = 2)) : parse (orderText s t) = .ok [orderFu s t] := by
  rw [order_at hs ht, orderRes, if_neg (by simpa using h)]
end Go.Proofs.YtaehlakefgnfmaaDoor
