/-
  DERIVED. THE WALKS of the reference's tokens, further: a number, a text.
-/
import Derived.Test.YtaehlakefgnfmaaRefb
set_option linter.unusedSimpArgs false
set_option linter.unusedVariables false
namespace Go.Proofs.Ytaehlakefgnfmaa
open Go.RowKit

theorem numFrom_at (n : Nat) (c : UInt8) (l : List UInt8) : numFrom n (c :: l) = if n > (maxNum - (c.toNat - 48)) / 10 then none else numFrom (10 * n + (c.toNat - 48)) l := rfl
theorem take_span (p : UInt8 → Bool) (l : List UInt8) (k : Nat) (h : k < l.length) (hp : p l[k] = true) : (l.drop k).take (spanLen p (l.drop k)) = l[k] :: (l.drop (k + 1)).take (spanLen p (l.drop (k + 1))) := by
  rw [span_more p l k h hp, drop_getElem l k h, List.take_succ_cons]

set_option maxHeartbeats 2000000 in
theorem rnumber_any (w : World) (a : Option Addr) (s : List UInt8) (cap at_ : Nat) (hs : BytesAt w a s) (hlen : s.length ≤ 140737488355328) (hcap : s.length ≤ cap) (hat : at_ < s.length) (hl : isLetter s[at_] = false) (hd : isDigit s[at_] = true) :
    Calls Try.prog 33 #[.slice a s.length cap, .int .i64 at_] w fun e w' => refEnds (nextT (s.drop at_)) at_ e ∧ Ext w w' := by
  obtain ⟨b, off, rfl, hc⟩ := hs.at hat
  have hnx : nextT (s.drop at_) = match numFrom 0 ((s.drop at_).take (spanLen isDigit (s.drop at_))) with | none => .error 32 | some n => .ok ⟨2, [], n, spanLen isDigit (s.drop at_)⟩ := by
    have hle := spanLen_le isDigit (s.drop at_)
    have hlt : ((s.drop at_).take (spanLen isDigit (s.drop at_))).length = spanLen isDigit (s.drop at_) := by rw [List.length_take]; omega
    generalize hq : s.drop at_ = q at *
    have hq' := drop_getElem s at_ hat
    rw [hq] at hq'
    subst hq'
    simp only [nextT, hl, hd, hlt, if_true, Bool.false_eq_true, if_false]
    generalize numFrom 0 _ = o
    cases o <;> rfl
  have HX := hid hnx
  clear hnx
  have w1 : Ext w (w.alloc (.cells #[.int .i64 0, .string ⟨#[]⟩, .int .i64 0, .int .i64 0] 33)) := (Ext.refl w).alloc _
  have hs1 := hs.ext w1
  obtain ⟨r0, r1, r2, r3, rf⟩ := (Blk.new w 33 [Value.int .i64 0, .string ⟨#[]⟩, .int .i64 0, .int .i64 0]).four
  go_enter Try.func33, Try.ntmps33
  go_wp2_with fail
  go_loop [7, 8] (fun v i => ∃ k n : Nat, at_ ≤ k ∧ k ≤ s.length ∧ n ≤ maxNum ∧ i = .int .i64 k ∧ v = .int .i64 n ∧ Hid (at_ + spanLen isDigit (s.drop at_) = k + spanLen isDigit (s.drop k)) ∧
    Hid (numFrom 0 ((s.drop at_).take (spanLen isDigit (s.drop at_))) = numFrom n ((s.drop k).take (spanLen isDigit (s.drop k))))) (fun _ i => s.length - (intOf i).toNat)
  case atStart => exact ⟨at_, 0, by omega, by omega, by omega, rfl, rfl, rfl, rfl⟩
  case round =>
    obtain ⟨k, n, hka, hk, hn, rfl, rfl, hsum, hnum⟩ := hrel
    by_cases hlt : k < s.length
    · obtain ⟨b', off', hbb, hck⟩ := hs1.at hlt
      simp only [Option.some.injEq, Addr.mk.injEq, and_true] at hbb
      obtain ⟨rfl, rfl⟩ := hbb
      cases hdk : isDigit s[k] with
      | true =>
        have HS := hid (span_more isDigit s k hlt hdk)
        have HT := hid (take_span isDigit s k hlt hdk)
        have HD := hid hdk
        have hx12 : 48 ≤ (s[k].toNat : Int) ∧ (s[k].toNat : Int) ≤ 57 := by revert hdk; simp [isDigit, UInt8.le_iff_toNat_le]; omega
        clear hdk
        generalize hx : (s[k].toNat : Int) = x at hck hx12
        obtain ⟨hx1, hx2⟩ := hx12
        have HXX := hid hx
        unfold maxNum at hn
        go_wp2_with fail
        rw [← hx]
        refine (rdigit_any _ _).mono ?_
        rintro e w' ⟨rfl, rfl⟩
        rw [HD.out, hx]
        clear hx
        go_wp2_with fail
        · have hgt : (9223372036854775807 - (x - 48)) / 10 < (n : Int) := by assumption
          have hno : nextT (s.drop at_) = .error 32 := by
            rw [HX.out, hnum.out, HT.out, numFrom_at, if_pos (by have := HXX.out; unfold maxNum; omega)]
          have HNO := hid hno
          clear hno
          refine bodyPost_ret (v := .tuple #[.agg #[.int .i64 0, .string ⟨#[]⟩, .int .i64 0, .int .i64 0], .int .i64 0, .int .i64 32]) ?_ rfl ⟨refEnds_err HNO.out, ?_⟩
          · simp [results, Try.results33, go_sem, *]
          · first | exact w1 | exact (Ext.refl _).alloc _
        · have hle : (n : Int) ≤ (9223372036854775807 - (x - 48)) / 10 := by assumption
          go_round
          case rel =>
            have h1 := HXX.out
            refine ⟨k + 1, 10 * n + (s[k].toNat - 48), by omega, by omega, ?_, by go_num, ?_, ?_, ?_⟩
            · unfold maxNum; omega
            · rw [← h1]; congr 1; omega
            · have h2 := hsum.out; have h3 := HS.out; show _ = _; omega
            · show _ = _
              rw [hnum.out, HT.out, numFrom_at, if_neg (by unfold maxNum; omega)]
          case measure => simp [intOf]; omega
      | false =>
        have hz := span_end isDigit s k hlt hdk
        have hno : nextT (s.drop at_) = .ok ⟨2, [], n, k - at_⟩ := by
          have h2 := hsum.out
          rw [HX.out, hnum.out, hz]
          simp only [List.take_zero, numFrom]
          rw [show spanLen isDigit (s.drop at_) = k - at_ by omega]
        have HNO := hid hno
        have HD := hid hdk
        clear hno hz hdk
        go_wp2_with fail
        refine (rdigit_any _ _).mono ?_
        rintro e w' ⟨rfl, rfl⟩
        rw [HD.out]
        go_wp2_with fail
        refine bodyPost_ret (v := .tuple #[.agg #[.int .i64 2, .string ⟨#[]⟩, .int .i64 n, .int .i64 at_], .int .i64 k, .int .i64 0]) ?_ rfl ⟨refEnds_ok HNO.out (by omega), ?_⟩
        · simp [results, Try.results33, go_sem, *]
        · first | exact w1 | exact (Ext.refl _).alloc _
    · have hno : nextT (s.drop at_) = .ok ⟨2, [], n, k - at_⟩ := by
        have h2 := hsum.out
        have hz : spanLen isDigit (s.drop k) = 0 := by rw [List.drop_of_length_le (by omega)]; rfl
        rw [HX.out, hnum.out, hz]
        simp only [List.take_zero, numFrom]
        rw [show spanLen isDigit (s.drop at_) = k - at_ by omega]
      have HNO := hid hno
      clear hno
      go_wp2_with fail
      refine bodyPost_ret (v := .tuple #[.agg #[.int .i64 2, .string ⟨#[]⟩, .int .i64 n, .int .i64 at_], .int .i64 k, .int .i64 0]) ?_ rfl ⟨refEnds_ok HNO.out (by omega), ?_⟩
      · simp [results, Try.results33, go_sem, *]
      · first | exact w1 | exact (Ext.refl _).alloc _

theorem isText_no {c : UInt8} {x : Int} (hx : (c.toNat : Int) = x) (h : isTextByte c = false) : x < 32 ∨ (32 ≤ x ∧ 126 < x) ∨ (32 ≤ x ∧ x ≤ 126 ∧ (x != 34) = false) ∨ (32 ≤ x ∧ x ≤ 126 ∧ (x != 34) = true ∧ (x != 92) = false) := by
  rw [isText_nat, hx] at h
  simp only [decide_eq_false_iff_not] at h
  by_cases h34 : x = 34
  · subst h34; right; right; left; decide
  · by_cases h92 : x = 92
    · subst h92; right; right; right; decide
    · omega
theorem isText_yes {c : UInt8} {x : Int} (hx : (c.toNat : Int) = x) (h : isTextByte c = true) : 32 ≤ x ∧ x ≤ 126 ∧ (x != 34) = true ∧ (x != 92) = true := by
  rw [isText_nat, hx] at h
  simp only [decide_eq_true_eq] at h
  simpa using h
set_option maxHeartbeats 2000000 in
theorem rtext_any (w : World) (a : Option Addr) (s : List UInt8) (cap at_ : Nat) (hs : BytesAt w a s) (hlen : s.length ≤ 140737488355328) (hcap : s.length ≤ cap) (hat : at_ < s.length) (hl : isLetter s[at_] = false) (hd : isDigit s[at_] = false) (H34 : Hid (s[at_] = 34)) :
    Calls Try.prog 34 #[.slice a s.length cap, .int .i64 at_] w fun e w' => refEnds (nextT (s.drop at_)) at_ e ∧ Ext w w' := by
  obtain ⟨b, off, rfl, hc⟩ := hs.at hat
  have hnx : ∀ m, m = at_ + 1 + spanLen isTextByte (s.drop (at_ + 1)) → nextT (s.drop at_) = match s.drop m with | [] => .error 31 | d :: _ => if d != 34 then .error 31 else if m - (at_ + 1) > 64 then .error 32 else .ok ⟨3, (s.drop (at_ + 1)).take (m - (at_ + 1)), 0, m - (at_ + 1) + 2⟩ := by
    intro m hm
    rw [show m - (at_ + 1) = spanLen isTextByte (s.drop (at_ + 1)) by omega, hm, ← List.drop_drop]
    generalize hq : s.drop at_ = q
    have hq' := drop_getElem s at_ hat
    rw [hq] at hq'
    rw [show s.drop (at_ + 1) = q.drop 1 by rw [← hq, List.drop_drop]]
    subst hq'
    have hb : (s[at_] == 34) = true := by rw [H34.out]; rfl
    simp only [nextT, hl, hd, hb, if_true, Bool.false_eq_true, if_false, List.drop_succ_cons, List.drop_zero]
    generalize List.drop (spanLen isTextByte _) _ = o
    cases o <;> rfl
  have HX := hid hnx
  clear hnx
  have w1 : Ext w (w.alloc (.cells #[.int .i64 0, .string ⟨#[]⟩, .int .i64 0, .int .i64 0] 33)) := (Ext.refl w).alloc _
  have hs1 := hs.ext w1
  obtain ⟨r0, r1, r2, r3, rf⟩ := (Blk.new w 33 [Value.int .i64 0, .string ⟨#[]⟩, .int .i64 0, .int .i64 0]).four
  go_enter Try.func34, Try.ntmps34
  go_wp2_with fail
  go_loop [7] (fun i => ∃ k : Nat, at_ + 1 ≤ k ∧ k ≤ s.length ∧ i = .int .i64 k ∧ Hid (at_ + 1 + spanLen isTextByte (s.drop (at_ + 1)) = k + spanLen isTextByte (s.drop k))) (fun i => s.length - (intOf i).toNat)
  case atStart => exact ⟨at_ + 1, by omega, by omega, by go_num, rfl⟩
  case round =>
    obtain ⟨k, hka, hk, rfl, hsum⟩ := hrel
    by_cases hlt : k < s.length
    · obtain ⟨b', off', hbb, hck⟩ := hs1.at hlt
      simp only [Option.some.injEq, Addr.mk.injEq, and_true] at hbb
      obtain ⟨rfl, rfl⟩ := hbb
      generalize hx : (s[k].toNat : Int) = x at hck
      cases hdk : isTextByte s[k] with
      | true =>
        have HS := hid (span_more isTextByte s k hlt hdk)
        obtain ⟨g1, g2, g3, g4⟩ := isText_yes hx hdk
        clear hx hdk
        go_wp2_with fail
        go_round
        case rel => exact ⟨k + 1, by omega, by omega, by go_num, by have h1 := hsum.out; have h2 := HS.out; show _ = _; omega⟩
        case measure => simp [intOf]; omega
      | false =>
        have hz := span_end isTextByte s k hlt hdk
        have hxk := HX.out k (by have := hsum.out; omega)
        rw [drop_getElem s k hlt] at hxk
        simp only [] at hxk
        have HXK := hid hxk
        have HXX := hid hx
        rcases isText_no hx hdk with g1 | ⟨g1, g2⟩ | ⟨g1, g2, g3⟩ | ⟨g1, g2, g3, g4⟩
        · have hq : (x != 34) = true := by simp; omega
          have hno : nextT (s.drop at_) = .error 31 := by rw [HXK.out, if_pos (by rw [← u8_ne]; rw [HXX.out]; exact hq)]
          have HNO := hid hno
          clear hno hxk hz hdk hx
          go_wp2_with fail
          refine bodyPost_ret (v := .tuple #[.agg #[.int .i64 0, .string ⟨#[]⟩, .int .i64 0, .int .i64 0], .int .i64 0, .int .i64 31]) ?_ rfl ⟨refEnds_err HNO.out, ?_⟩
          · simp [results, Try.results34, go_sem, *]
          · first | exact w1 | exact (Ext.refl _).alloc _
        · have hq : (x != 34) = true := by simp; omega
          have hno : nextT (s.drop at_) = .error 31 := by rw [HXK.out, if_pos (by rw [← u8_ne]; rw [HXX.out]; exact hq)]
          have HNO := hid hno
          clear hno hxk hz hdk hx
          go_wp2_with fail
          refine bodyPost_ret (v := .tuple #[.agg #[.int .i64 0, .string ⟨#[]⟩, .int .i64 0, .int .i64 0], .int .i64 0, .int .i64 31]) ?_ rfl ⟨refEnds_err HNO.out, ?_⟩
          · simp [results, Try.results34, go_sem, *]
          · first | exact w1 | exact (Ext.refl _).alloc _
        · have hno : nextT (s.drop at_) = if k - (at_ + 1) > 64 then .error 32 else .ok ⟨3, (s.drop (at_ + 1)).take (k - (at_ + 1)), 0, k - (at_ + 1) + 2⟩ := by
            rw [HXK.out, if_neg (by rw [← u8_ne]; rw [HXX.out, show ((34 : UInt8).toNat : Int) = 34 from rfl, g3]; simp)]
          have hx3 := hs1.part (at_ + 1) (k - (at_ + 1))
          have hxl : ((s.drop (at_ + 1)).take (k - (at_ + 1))).length = k - (at_ + 1) := by simp; omega
          generalize (s.drop (at_ + 1)).take (k - (at_ + 1)) = y at hno hx3 hxl
          have HNO := hid hno
          clear hno hxk hz hdk hx
          by_cases h64 : 64 < k - at_ - 1
          · have hno : nextT (s.drop at_) = .error 32 := by rw [HNO.out, if_pos (by omega)]
            have HNO := hid hno
            have h64' : 64 < (k : Int) - at_ - 1 := by omega
            clear hno hxl
            go_wp2_with fail
            refine bodyPost_ret (v := .tuple #[.agg #[.int .i64 0, .string ⟨#[]⟩, .int .i64 0, .int .i64 0], .int .i64 0, .int .i64 32]) ?_ rfl ⟨refEnds_err HNO.out, ?_⟩
            · simp [results, Try.results34, go_sem, *]
            · first | exact w1 | exact (Ext.refl _).alloc _
          · have hno : nextT (s.drop at_) = .ok ⟨3, y, 0, k - (at_ + 1) + 2⟩ := by rw [HNO.out, if_neg (by omega)]
            have HNO := hid hno
            have h64' : ¬ 64 < (k : Int) - at_ - 1 := by omega
            have hcv := run_string_of hx3 _ _ _ Try.underlying22 Try.underlying5 Try.underlying9 _ (cap - (at_ + 1)) hxl
            clear hno hxl
            go_wp2_with fail
            refine bodyPost_ret (v := .tuple #[.agg #[.int .i64 3, .string ⟨y.toArray⟩, .int .i64 0, .int .i64 at_], .int .i64 (k + 1), .int .i64 0]) ?_ rfl ⟨refEnds_ok (m := k + 1) HNO.out (by omega), ?_⟩
            · simp [results, Try.results34, go_sem, *]
            · first | exact w1 | exact (Ext.refl _).alloc _
        · have hno : nextT (s.drop at_) = .error 31 := by rw [HXK.out, if_pos (by rw [← u8_ne]; rw [HXX.out]; exact g3)]
          have HNO := hid hno
          clear hno hxk hz hdk hx
          go_wp2_with fail
          refine bodyPost_ret (v := .tuple #[.agg #[.int .i64 0, .string ⟨#[]⟩, .int .i64 0, .int .i64 0], .int .i64 0, .int .i64 31]) ?_ rfl ⟨refEnds_err HNO.out, ?_⟩
          · simp [results, Try.results34, go_sem, *]
          · first | exact w1 | exact (Ext.refl _).alloc _
    · have hno : nextT (s.drop at_) = .error 31 := by
        have hz : spanLen isTextByte (s.drop k) = 0 := by rw [List.drop_of_length_le (by omega)]; rfl
        have hxk := HX.out k (by have := hsum.out; omega)
        rw [hxk, List.drop_of_length_le (by omega)]
      have HNO := hid hno
      clear hno
      go_wp2_with fail
      refine bodyPost_ret (v := .tuple #[.agg #[.int .i64 0, .string ⟨#[]⟩, .int .i64 0, .int .i64 0], .int .i64 0, .int .i64 31]) ?_ rfl ⟨refEnds_err HNO.out, ?_⟩
      · simp [results, Try.results34, go_sem, *]
      · first | exact w1 | exact (Ext.refl _).alloc _
end Go.Proofs.Ytaehlakefgnfmaa
