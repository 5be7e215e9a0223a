/-
  DERIVED. PLAIN: what the texts of the law of brackets come to; by evaluation.
-/
import Derived.Test.YtaehlakefgnfmaaDoorSyn
import Derived.WalkKit
namespace Go.Proofs.YtaehlakefgnfmaaDoor
set_option linter.unusedSimpArgs false
set_option linter.unusedVariables false
set_option maxRecDepth 100000

def deepHead : List UInt8 := [102, 110, 32, 102, 40, 41, 32, 123, 32, 120, 32, 61, 32]
def deepTail : List UInt8 := [59, 32, 125]
def deepText (k : Nat) : List UInt8 := deepHead ++ (List.replicate k 40 ++ 49 :: (List.replicate k 41 ++ deepTail))
def deepEx (k : Nat) : Ex := .mk 1 1 [] [] (13 + k)
def deepFu (k : Nat) : Fu := ⟨[102], [], 0, [.mk 2 [120] [deepEx k] [] [] 9], 0⟩
def deepRes (k : Nat) : Except (Nat × Nat) (List Fu) := if 30 < k then .error (42, 44) else .ok [deepFu k]
theorem deepT_all : (List.range 100).map (fun k => parse (deepText k)) = (List.range 100).map deepRes := by kernel_rfl
theorem deepT_at {k : Nat} (h : k < 100) : parse (deepText k) = deepRes k := List.map_inj_left.1 deepT_all k (List.mem_range.2 h)
theorem deepT_no {k : Nat} (h : k < 100) (hk : 30 < k) : parse (deepText k) = .error (42, 44) := by rw [deepT_at h, deepRes, if_pos hk]
theorem deepT_yes {k : Nat} (h : k < 100) (hk : ¬ 30 < k) : parse (deepText k) = .ok [deepFu k] := by rw [deepT_at h, deepRes, if_neg hk]
end Go.Proofs.YtaehlakefgnfmaaDoor
