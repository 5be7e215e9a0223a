/-
  DERIVED. THE WALKS of the reference's tokens, further: a sign, the next token.
-/
import Derived.Test.YtaehlakefgnfmaaRefc
set_option linter.unusedSimpArgs false
set_option linter.unusedVariables false
namespace Go.Proofs.Ytaehlakefgnfmaa
open Go.RowKit

theorem signs_parts (x : List UInt8) : signs.contains x = (inL twos x || inL ones x) := by
  unfold signs inL
  simp only [List.contains_eq_any_beq, List.any_append]
theorem nextT_sign {s : List UInt8} {at_ : Nat} (hat : at_ < s.length) (hl : isLetter s[at_] = false) (hd : isDigit s[at_] = false) (h34 : s[at_] ≠ 34) :
    nextT (s.drop at_) = if (signAt (s.drop at_)).isEmpty then .error 31 else .ok ⟨4, signAt (s.drop at_), 0, (signAt (s.drop at_)).length⟩ := by
  generalize hq : s.drop at_ = q
  have hq' := drop_getElem s at_ hat
  rw [hq] at hq'
  subst hq'
  have hb : (s[at_] == 34) = false := by simpa using h34
  simp only [nextT, hl, hd, hb, Bool.false_eq_true, if_false]
/-- What is known of the sign when the texts longer than n were no signs. -/
def SignDown (q : List UInt8) (n : Nat) : Prop := ∀ m, n < m → m ≤ 2 → m ≤ q.length → signs.contains (q.take m) = false
theorem signDown_hit {q : List UInt8} {n : Nat} (h : SignDown q n) (h1 : 1 ≤ n) (h2 : n ≤ 2) (hq : n ≤ q.length) (hc : signs.contains (q.take n) = true) : signAt q = q.take n := by
  unfold signAt
  rcases (show n = 1 ∨ n = 2 by omega) with rfl | rfl
  · by_cases hl : 2 ≤ q.length
    · rw [if_neg (by rw [h 2 (by omega) (by omega) hl]; simp), if_pos hc]
    · have : q.take 2 = q.take 1 := by rw [List.take_of_length_le (by omega), List.take_of_length_le (by omega)]
      rw [this, if_pos hc]
  · rw [if_pos hc]
theorem signDown_none {q : List UInt8} (h : SignDown q 0) (hq : 1 ≤ q.length) : signAt q = [] := by
  unfold signAt
  have h1 := h 1 (by omega) (by omega) hq
  by_cases hl : 2 ≤ q.length
  · rw [if_neg (by rw [h 2 (by omega) (by omega) hl]; simp), if_neg (by rw [h1]; simp)]
  · have : q.take 2 = q.take 1 := by rw [List.take_of_length_le (by omega), List.take_of_length_le (by omega)]
    rw [this, if_neg (by rw [h1]; simp), if_neg (by rw [h1]; simp)]
theorem signDown_next {q : List UInt8} {n : Nat} (h : SignDown q n) (hc : n ≤ q.length → signs.contains (q.take n) = false) : SignDown q (n - 1) := by
  intro m hm h2 hq
  by_cases hmn : m = n
  · subst hmn; exact hc hq
  · exact h m (by omega) h2 hq

set_option maxHeartbeats 2000000 in
theorem rsign_any (w : World) (a : Option Addr) (s : List UInt8) (cap at_ : Nat) (hs : BytesAt w a s) (hlen : s.length ≤ 140737488355328) (hcap : s.length ≤ cap) (hat : at_ < s.length) (hl : isLetter s[at_] = false) (hd : isDigit s[at_] = false) (H34 : Hid (s[at_] ≠ 34)) :
    Calls Try.prog 35 #[.slice a s.length cap, .int .i64 at_] w fun e w' => refEnds (nextT (s.drop at_)) at_ e ∧ Ext w w' := by
  obtain ⟨b, off, rfl, hc⟩ := hs.at hat
  have HX := hid (nextT_sign hat hl hd H34.out)
  have w1 : Ext w (w.alloc (.cells #[.int .i64 0, .string ⟨#[]⟩, .int .i64 0, .int .i64 0] 33)) := (Ext.refl w).alloc _
  have br0 := Blk.new w 33 [Value.int .i64 0, .string ⟨#[]⟩, .int .i64 0, .int .i64 0]
  have hql : (s.drop at_).length = s.length - at_ := List.length_drop ..
  go_enter Try.func35, Try.ntmps35
  go_wp2_with fail
  go_loopw [7] (fun i wr => ∃ n : Nat, n ≤ 2 ∧ i = .int .i64 n ∧ Ext (w.alloc (.cells #[.int .i64 0, .string ⟨#[]⟩, .int .i64 0, .int .i64 0] 33)) wr ∧ Hid (SignDown (s.drop at_) n)) (fun i _ => (intOf i).toNat)
  case atStart => exact ⟨2, by omega, rfl, Ext.refl _, fun m h1 h2 _ => by omega⟩
  case round =>
    obtain ⟨n, hn, rfl, he, hdn⟩ := hrel
    have e0 : Ext w wr := w1.trans he
    obtain ⟨r0, r1, r2, r3, rf⟩ := (br0.ext he).four
    by_cases hn0 : 0 < n
    · by_cases hfit : at_ + n ≤ s.length
      · have hx := (hs.ext e0).part at_ n
        obtain ⟨x, hxd⟩ : ∃ x, x = (s.drop at_).take n := ⟨_, rfl⟩
        have hxl : x.length = at_ + n - at_ := by rw [hxd, List.length_take, hql]; omega
        rw [← hxd] at hx
        have hcv : (convert 22 9 (.slice (some ⟨b, off + at_, none⟩) n (cap - at_))).run Try.prog wr = .ok (.string ⟨x.toArray⟩) wr :=
          run_string_of hx _ _ _ Try.underlying22 Try.underlying5 Try.underlying9 _ _ (by omega)
        have hA : CellsAt (wr.alloc (.cells (twos.map strV).toArray 9)) (some ⟨wr.heap.size, 0, none⟩) (twos.map strV) := CellsAt.new wr _ _
        have hA2 := hA.ext ((Ext.refl _).alloc (.cells (ones.map strV).toArray 9))
        have hB : CellsAt ((wr.alloc (.cells (twos.map strV).toArray 9)).alloc (.cells (ones.map strV).toArray 9)) (some ⟨wr.heap.size + 1, 0, none⟩) (ones.map strV) := by
          have := CellsAt.new (wr.alloc (.cells (twos.map strV).toArray 9)) 9 (ones.map strV)
          rw [World.size_alloc] at this
          exact this
        have L1 := rin_any _ _ 6 twos ⟨x.toArray⟩ hA2 (by decide)
        have L2 := rin_any _ _ 16 ones ⟨x.toArray⟩ hB (by decide)
        have HL1 := hid L1
        have HL2 := hid L2
        have hsp := signs_parts x
        have HXD := hid hxd
        have HXL := hid hxl
        have HSP := hid hsp
        have e2 : Ext w ((wr.alloc (.cells (twos.map strV).toArray 9)).alloc (.cells (ones.map strV).toArray 9)) := (e0.alloc _).alloc _
        obtain ⟨r0', r1', r2', r3', rf'⟩ := (br0.ext ((he.alloc (.cells (twos.map strV).toArray 9)).alloc (.cells (ones.map strV).toArray 9))).four
        have hat64 : (at_ : Int) + n ≤ s.length := by omega
        clear L1 L2 hA hA2 hB hx hxd hxl hsp
        cases hI2 : inL twos x with
        | true =>
          have hno : nextT (s.drop at_) = .ok ⟨4, x, 0, n⟩ := by
            have hsg := signDown_hit hdn.out (by omega) hn (by rw [hql]; omega) (by rw [← HXD.out, HSP.out, hI2]; first | rfl | simp)
            rw [HX.out, hsg, ← HXD.out]
            have : x ≠ [] := by intro h; have := HXL.out; rw [h] at this; simp at this; omega
            rw [if_neg (by simpa using this)]
            rw [show x.length = n by have := HXL.out; omega]
          have HNO := hid hno
          have HI2 := hid hI2
          clear hno hI2
          go_wp2_with fail
          refine HL1.out.mono ?_
          rintro e w' ⟨rfl, rfl⟩
          rw [HI2.out]
          go_wp2_with fail
          refine bodyPost_ret (v := .tuple #[.agg #[.int .i64 4, .string ⟨x.toArray⟩, .int .i64 0, .int .i64 at_], .int .i64 ((at_ : Int) + n), .int .i64 0]) ?_ rfl ⟨refEnds_ok HNO.out (by omega), ?_⟩
          · simp [results, Try.results35, go_sem, *]
          · repeat (with_reducible first | exact e2 | apply Ext.drew | refine Ext.setCell ?_ ?_ _)
            all_goals exact Nat.le_refl _
        | false =>
          have HI2 := hid hI2
          cases hI1 : inL ones x with
          | true =>
            have hno : nextT (s.drop at_) = .ok ⟨4, x, 0, n⟩ := by
              have hsg := signDown_hit hdn.out (by omega) hn (by rw [hql]; omega) (by rw [← HXD.out, HSP.out, HI2.out, hI1]; first | rfl | simp)
              rw [HX.out, hsg, ← HXD.out]
              have : x ≠ [] := by intro h; have := HXL.out; rw [h] at this; simp at this; omega
              rw [if_neg (by simpa using this)]
              rw [show x.length = n by have := HXL.out; omega]
            have HNO := hid hno
            have HI1 := hid hI1
            clear hno hI2 hI1
            go_wp2_with fail
            refine HL1.out.mono ?_
            rintro e w' ⟨rfl, rfl⟩
            rw [HI2.out]
            go_wp2_with fail
            refine HL2.out.mono ?_
            rintro e w' ⟨rfl, rfl⟩
            rw [HI1.out]
            go_wp2_with fail
            refine bodyPost_ret (v := .tuple #[.agg #[.int .i64 4, .string ⟨x.toArray⟩, .int .i64 0, .int .i64 at_], .int .i64 ((at_ : Int) + n), .int .i64 0]) ?_ rfl ⟨refEnds_ok HNO.out (by omega), ?_⟩
            · simp [results, Try.results35, go_sem, *]
            · repeat (with_reducible first | exact e2 | apply Ext.drew | refine Ext.setCell ?_ ?_ _)
              all_goals exact Nat.le_refl _
          | false =>
            have HM := hid (signDown_next hdn.out (fun _ => by rw [← HXD.out, HSP.out, HI2.out, hI1]; rfl))
            have HI1 := hid hI1
            clear hI2 hI1
            go_wp2_with fail
            refine HL1.out.mono ?_
            rintro e w' ⟨rfl, rfl⟩
            rw [HI2.out]
            go_wp2_with fail
            refine HL2.out.mono ?_
            rintro e w' ⟨rfl, rfl⟩
            rw [HI1.out]
            go_wp2_with fail
            go_round
            case rel => exact ⟨n - 1, by omega, by go_num, (he.alloc _).alloc _, HM.out⟩
            case measure => simp [intOf]; omega
      · have HM := hid (signDown_next hdn.out (fun h => by rw [hql] at h; omega))
        go_wp2_with fail
        go_round
        case rel => exact ⟨n - 1, by omega, by go_num, he, HM.out⟩
        case measure => simp [intOf]; omega
    · have hno : nextT (s.drop at_) = .error 31 := by
        obtain rfl : n = 0 := by omega
        rw [HX.out, signDown_none hdn.out (by rw [hql]; omega)]
        rfl
      have HNO := hid hno
      clear hno
      go_wp2_with fail
      refine bodyPost_ret (v := .tuple #[.agg #[.int .i64 0, .string ⟨#[]⟩, .int .i64 0, .int .i64 0], .int .i64 0, .int .i64 31]) ?_ rfl ⟨refEnds_err HNO.out, ?_⟩
      · simp [results, Try.results35, go_sem, *]
      · repeat (with_reducible first | exact e0 | apply Ext.drew | refine Ext.setCell ?_ ?_ _)
        all_goals exact Nat.le_refl _
end Go.Proofs.Ytaehlakefgnfmaa
