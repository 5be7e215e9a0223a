/-
  DERIVED. THE WALKS of package token, further: numbers and signs.
-/
import Derived.Test.YtaehlakefgnfmaaDoorTokb
namespace Go.Proofs.YtaehlakefgnfmaaDoor
set_option linter.unusedSimpArgs false
set_option linter.unusedVariables false
set_option maxRecDepth 100000
open Go.RowKit

theorem numFrom_step (n : Nat) (s : List UInt8) (k : Nat) (h : k < s.length) :
    numFrom n (s.drop k) = if n > (maxNum - ((s[k]).toNat - 48)) / 10 then none else numFrom (10 * n + ((s[k]).toNat - 48)) (s.drop (k + 1)) := by
  rw [drop_getElem s k h]; rfl
/-- What number answers. -/
def numEnds (o : Option Nat) : Ending :=
  match o with
  | some n => .returned (.tuple #[.int .i64 n, .bool true])
  | none => .returned (.tuple #[.int .i64 0, .bool false])
set_option maxHeartbeats 400000 in
theorem number_any (w : World) (a : Option Addr) (s : List UInt8) (cap : Nat) (hs : BytesAt w a s) (hlen : s.length ≤ 140737488355328) (hd : ∀ c ∈ s, isDigit c = true) :
    Calls Tryd.prog 45 #[.slice a s.length cap] w fun e w' => e = numEnds (numFrom 0 s) ∧ Ext w w' := by
  go_enter Tryd.func45, Tryd.ntmps45
  go_wp2_with fail
  go_loopw [4, 10] (fun v i wr => ∃ (k n : Nat), k ≤ s.length ∧ n ≤ maxNum ∧ i = .int .i64 k ∧ v = .int .i64 n ∧ Ext w wr ∧ Hid (numFrom 0 s = numFrom n (s.drop k))) (fun _ i _ => s.length - (intOf i).toNat)
  case atStart => exact ⟨0, 0, by omega, by omega, rfl, rfl, Ext.refl w, rfl⟩
  case round =>
    obtain ⟨k, n, hk, hn, rfl, rfl, he, hsum⟩ := hrel
    by_cases hlt : k < s.length
    · obtain ⟨b, off, rfl, hc⟩ := (hs.ext he).at hlt
      have hdk := hd s[k] (by simp)
      generalize hx : (s[k].toNat : Int) = x at hc
      have hx1 : 48 ≤ x := by simp [isDigit, UInt8.le_iff_toNat_le] at hdk; omega
      have hx2 : x ≤ 57 := by simp [isDigit, UInt8.le_iff_toNat_le] at hdk; omega
      have hst := numFrom_step n s k hlt
      have HX := hid hx
      have HT := hid hst
      clear hx hdk hst
      unfold maxNum at hn
      go_wp2_with fail
      · have hgt : (9223372036854775807 - (x - 48)) / 10 < (n : Int) := by assumption
        go_ret2
        refine ⟨?_, he⟩
        rw [hsum.out, HT.out, if_pos (by have := HX.out; unfold maxNum; omega)]
        rfl
      · have hle : (n : Int) ≤ (9223372036854775807 - (x - 48)) / 10 := by assumption
        go_roundw
        case rel =>
          have h1 := HX.out
          refine ⟨k + 1, 10 * n + (s[k].toNat - 48), by omega, ?_, by go_num, ?_, he, ?_⟩
          · unfold maxNum; omega
          · rw [← h1]; congr 1; omega
          · show _ = _
            rw [hsum.out, HT.out, if_neg (by unfold maxNum; omega)]
        case measure => simp [intOf]; omega
    · go_wp2_with fail
      go_ret2
      refine ⟨?_, he⟩
      rw [hsum.out, List.drop_of_length_le (i := k) (by omega)]
      rfl

/-- The longest sign among the texts that open r. -/
def best : Nat → List UInt8 → List UInt8
  | 0, _ => []
  | n + 1, r => if r.isEmpty then [] else if signs.contains r then r else best n r.dropLast
theorem best_signAt (l : List UInt8) : best 3 (l.take 2) = signAt l := by
  match l with
  | [] => rfl
  | [a] => simp [best, signAt]
  | a :: b :: l => simp [best, signAt]

def strLen : Value → Nat | .string s => s.size | _ => 0
theorem best_hit (n : Nat) (r x : List UInt8) (h : (r == x) = true) (hx : signs.contains x = true) : best (n + 1) r = r := by
  rw [eq_of_beq h]
  have hne : x.isEmpty = false := by
    cases x with
    | nil => revert hx; decide
    | cons => rfl
  simp only [best, hne, hx, Bool.false_eq_true, if_false, if_true]
theorem extract_init (q : ByteArray) (n : Nat) (h : q.size = n) : (q.extract 0 (n - 1)).toList = q.toList.dropLast := by
  rw [Lib.extract_toList, ByteArray.toList_eq]
  subst h
  simp [List.dropLast_eq_take]
theorem string_of {q : ByteArray} {l : List UInt8} (h : q.toList = l) : Ending.returned (.string q) = .returned (.string ⟨l.toArray⟩) := by
  subst h
  rw [ByteArray.toList_eq]
theorem sign_hit {q : ByteArray} {n : Nat} {x S : List UInt8} (hb : best n q.toList = S) (hn : q.size < n) (h : (q.toList == x) = true) (hx : signs.contains x = true) :
    Ending.returned (.string q) = .returned (.string ⟨S.toArray⟩) := by
  obtain ⟨k, rfl⟩ : ∃ k, n = k + 1 := ⟨n - 1, by omega⟩
  exact string_of (by rw [← hb]; exact (best_hit k _ _ h hx).symm)
theorem size_pos_of {q : ByteArray} (h : q.toList.isEmpty = false) : 1 ≤ q.size := by
  rw [ByteArray.toList_eq] at h
  rcases Nat.eq_zero_or_pos q.data.size with h0 | h0
  · have h1 : q.data.toList = [] := List.eq_nil_of_length_eq_zero (by rw [Array.length_toList]; exact h0)
    rw [h1] at h; simp at h
  · exact h0
theorem sign_miss {q : ByteArray} {n : Nat} {S : List UInt8} (hb : best n q.toList = S) (hn : q.size < n) (h : q.toList.isEmpty = false) (hx : signs.contains q.toList = false) :
    best (n - 1) (q.extract 0 (q.size - 1)).toList = S ∧ (q.extract 0 (q.size - 1)).size < n - 1 ∧ (q.extract 0 (q.size - 1)).size < q.size := by
  obtain ⟨k, rfl⟩ : ∃ k, n = k + 1 := ⟨n - 1, by omega⟩
  have hs := size_pos_of h
  refine ⟨?_, ?_, ?_⟩
  · rw [extract_init q q.size rfl, Nat.add_sub_cancel, ← hb]
    simp only [best, h, hx, Bool.false_eq_true, if_false]
  · simp [ByteArray.size_extract]; omega
  · simp [ByteArray.size_extract]; omega
set_option maxHeartbeats 1000000 in
theorem sign_any (w : World) (a : Option Addr) (s : List UInt8) (cap at_ : Nat) (hs : BytesAt w a s) (hlen : s.length ≤ 140737488355328) (hcap : s.length ≤ cap) (hat : at_ < s.length) :
    Calls Tryd.prog 47 #[.slice a s.length cap, .int .i64 at_] w fun e w' => e = .returned (.string ⟨(signAt (s.drop at_)).toArray⟩) ∧ Ext w w' := by
  obtain ⟨b, off, rfl, hc⟩ := hs.at hat
  obtain ⟨m, hm⟩ : ∃ m, m = min (at_ + 2) s.length := ⟨_, rfl⟩
  have hm1 : at_ < m := by omega
  have hm2 : m ≤ s.length := by omega
  have htk : (s.drop at_).take (m - at_) = (s.drop at_).take 2 := by
    by_cases h : at_ + 2 ≤ s.length
    · rw [show m - at_ = 2 by omega]
    · rw [List.take_of_length_le (by simp; omega), List.take_of_length_le (by simp; omega)]
  have hlen2 : ((s.drop at_).take 2).length = m - at_ := by simp; omega
  have hcv : (convert 22 9 (.slice (some ⟨b, off + at_, none⟩) (m - at_) (cap - at_))).run Tryd.prog w = .ok (.string ⟨((s.drop at_).take 2).toArray⟩) w := by
    have hp := hs.part at_ (m - at_)
    rw [htk] at hp
    exact run_string_of hp _ _ _ Tryd.underlying22 Tryd.underlying5 Tryd.underlying9 _ _ hlen2
  have hmin : min ((at_ : Int) + 2) s.length = (m : Int) := by omega
  have HB := hid (best_signAt (s.drop at_))
  generalize hr : (s.drop at_).take 2 = r at hcv HB
  have HL := hid (show r.length ≤ 2 by rw [← hr]; simp; omega)
  clear hr htk hlen2 hm
  go_enter Tryd.func47, Tryd.ntmps47
  go_wp2_with fail
  go_step3
  go_wp2_with fail
  go_step3
  go_wp2_with fail
  go_loop [5] (fun v => ∃ (q : ByteArray) (n : Nat), v = .string q ∧ q.size < n ∧ n ≤ 3 ∧ Hid (best n q.toList = signAt (s.drop at_))) (fun v => strLen v)
  case atStart => exact ⟨_, 3, rfl, by have := HL.out; show r.length < 3; omega, by omega, by rw [ByteArray.toList_eq]; exact HB.out⟩
  case round =>
    obtain ⟨q, n, rfl, hq, hn, hbest⟩ := hrel
    by_cases he : q.toList.isEmpty = true
    · have HE := hid he
      go_wp2_with fail
      go_ret
      refine ⟨string_of ?_, Ext.refl _⟩
      obtain ⟨k, rfl⟩ : ∃ k, n = k + 1 := ⟨n - 1, by omega⟩
      rw [← hbest.out]
      simp only [best, HE.out, if_true]
      simpa using HE.out
    · have hef : q.toList.isEmpty = false := by simpa using he
      clear he
      have hsz := size_pos_of hef
      go_wp2_with fail
      all_goals first
        | (exfalso; simp_all only [Bool.true_eq_false, Bool.false_eq_true]; done)
        | (go_ret; exact ⟨sign_hit hbest.out hq (by assumption) rfl, Ext.refl _⟩)
        | skip
      have hno : signs.contains q.toList = false := by
        simp only [signs, twos, ones, List.cons_append, List.nil_append, List.contains_cons, List.contains_nil, *, Bool.or_self]
      obtain ⟨m1, m2, m3⟩ := sign_miss hbest.out hq hef hno
      exact ⟨⟨_, n - 1, rfl, m2, by omega, m1⟩, m3⟩
end Go.Proofs.YtaehlakefgnfmaaDoor
