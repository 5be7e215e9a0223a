/-
  DERIVED. THE WALK of the reference's Same, where the tokens are alike.
-/
import Derived.Test.YtaehlakefgnfmaaToks
set_option linter.unusedSimpArgs false
set_option linter.unusedVariables false
namespace Go.Proofs.Ytaehlakefgnfmaa
open Go.RowKit

theorem drewN_add (w : World) (m n : Nat) : (w.drewN m).drewN n = w.drewN (m + n) := by
  simp [World.drewN, Nat.add_assoc]

set_option maxRecDepth 100000 in
set_option maxHeartbeats 2000000 in
theorem same_any (w : World) (a b : Option Addr) (ca cb : Nat) (ts : List Tok) (ha : CellsAt w a (ts.flatMap encTok)) (hb : CellsAt w b (ts.flatMap encTok)) (hlen : ts.length ≤ 140737488355328) :
    Calls Try.prog 12 #[.slice a ts.length ca, .slice b ts.length cb] w fun e w' => e = .returned (.bool true) ∧ ∃ n, w' = w.drewN n := by
  go_enter Try.func12, Try.ntmps12
  go_wp2_with fail
  go_loopw [5] (fun i wr => ∃ k n : Nat, k ≤ ts.length ∧ i = .int .i64 k ∧ wr = w.drewN n) (fun i _ => ts.length - (intOf i).toNat)
  case atStart => exact ⟨0, 0, by omega, rfl, rfl⟩
  case round =>
    obtain ⟨k, n, hk, rfl, hw⟩ := hrel
    subst hw
    by_cases hlt : k < ts.length
    · obtain ⟨b1, o1, rfl, c0, c1, c2, c3⟩ := toks_at ha hlt
      obtain ⟨b2, o2, rfl, d0, d1, d2, d3⟩ := toks_at hb hlt
      go_wp2_with fail
      go_quiet (fail)
      go_wp2_with fail
      refine ⟨⟨k + 1, n + nq, by omega, by go_num, rfl⟩, by simp [intOf]; omega⟩
    · go_wp2_with fail
      go_ret
      exact ⟨rfl, n, rfl⟩
/-- One token of a row, as a row of its own. -/
theorem toks_one {w : World} {b off : Nat} {ts : List Tok} (h : CellsAt w (some ⟨b, off, none⟩) (ts.flatMap encTok)) {k : Nat} (hk : k < ts.length) : CellsAt w (some ⟨b, off + k * 4, none⟩) ([ts[k]].flatMap encTok) := by
  obtain ⟨b', off', hb, c0, c1, c2, c3⟩ := toks_at h hk
  cases hb
  intro i v hv
  refine ⟨b, off + k * 4, rfl, ?_⟩
  simp only [List.flatMap_cons, List.flatMap_nil, List.append_nil, encTok] at hv
  match i, hv with
  | 0, hv => cases hv; exact c0
  | 1, hv => cases hv; exact c1
  | 2, hv => cases hv; exact c2
  | 3, hv => cases hv; exact c3
  | i + 4, hv => simp at hv
end Go.Proofs.Ytaehlakefgnfmaa
