/-
  DERIVED. THE WALKS of the reference's tokens: words, blanks, names, numbers.
-/
import Derived.Test.YtaehlakefgnfmaaToks
set_option linter.unusedSimpArgs false
set_option linter.unusedVariables false
namespace Go.Proofs.Ytaehlakefgnfmaa
open Go.RowKit

/-- Is a text among some? -/
def inL (ss : List (List UInt8)) (x : List UInt8) : Bool := ss.contains x
def strV (l : List UInt8) : Value := .string ⟨l.toArray⟩

set_option maxHeartbeats 400000 in
theorem rletter_any (w : World) (c : UInt8) :
    Calls Try.prog 30 #[.int .u8 c.toNat] w fun e w' => e = .returned (.bool (isLetter c)) ∧ w = w' := by
  go_enter Try.func30, Try.ntmps30
  go_wp2_with fail
  all_goals
    go_ret
    refine ⟨ret_bool ?_, rfl⟩
    rw [Bool.eq_iff_iff]
    simp [isLetter, UInt8.le_iff_toNat_le]
    omega
set_option maxHeartbeats 400000 in
theorem rdigit_any (w : World) (c : UInt8) :
    Calls Try.prog 32 #[.int .u8 c.toNat] w fun e w' => e = .returned (.bool (isDigit c)) ∧ w = w' := by
  go_enter Try.func32, Try.ntmps32
  go_wp2_with fail
  all_goals
    go_ret
    refine ⟨ret_bool ?_, rfl⟩
    rw [Bool.eq_iff_iff]
    simp [isDigit, UInt8.le_iff_toNat_le]
    omega

theorem contains_take (ss : List (List UInt8)) (x : List UInt8) (k : Nat) (h : k < ss.length) (hk : (ss.take k).contains x = false) (hx : (ss[k] == x) = false) : (ss.take (k + 1)).contains x = false := by
  rw [List.take_succ_eq_append_getElem h]
  simp only [List.contains_eq_any_beq, List.any_append, List.any_cons, List.any_nil, Bool.or_false] at *
  rw [hk, Bool.false_or]
  rw [Bool.eq_false_iff] at hx ⊢
  intro h'
  exact hx (by rw [beq_iff_eq] at h' ⊢; exact h'.symm)
set_option maxHeartbeats 400000 in
theorem rin_any (w : World) (a : Option Addr) (cap : Nat) (ss : List (List UInt8)) (s : ByteArray) (hs : CellsAt w a (ss.map strV)) (hlen : ss.length ≤ 1000) :
    Calls Try.prog 19 #[.slice a ss.length cap, .string s] w fun e w' => e = .returned (.bool (inL ss s.data.toList)) ∧ w = w' := by
  rw [← ByteArray.toList_eq]
  go_enter Try.func19, Try.ntmps19
  go_wp2_with fail
  go_loop [5] (fun i => ∃ k : Nat, k ≤ ss.length ∧ i = .int .i64 k ∧ Hid ((ss.take k).contains s.toList = false)) (fun i => ss.length - (intOf i).toNat)
  case atStart => exact ⟨0, by omega, rfl, rfl⟩
  case round =>
    obtain ⟨k, hk, rfl, hno⟩ := hrel
    by_cases hlt : k < ss.length
    · obtain ⟨b, off, rfl, hc⟩ := hs k (strV ss[k]) (by simp [hlt])
      unfold strV at hc
      have HC := hid (fun h => contains_take ss s.toList k hlt hno.out h)
      cases hx : ss[k] == s.toList with
      | true =>
        have hy : ss.contains s.toList = true := by
          rw [← eq_of_beq hx]; simp
        have HY := hid hy
        clear hy
        go_wp2_with fail
        go_ret
        exact ⟨ret_bool (show true = inL ss s.toList from HY.out.symm), rfl⟩
      | false =>
        have HX := hid (HC.out hx)
        clear HC
        go_wp2_with fail
        go_round
        case rel => exact ⟨k + 1, by omega, by go_num, HX⟩
        case measure => simp [intOf]; omega
    · go_wp2_with fail
      go_ret
      have h := hno.out
      rw [List.take_of_length_le (by omega)] at h
      exact ⟨ret_bool (show false = inL ss s.toList from h.symm), rfl⟩

set_option maxHeartbeats 400000 in
theorem rwords_any (w : World) :
    Calls Try.prog 20 #[] w fun e w' => ∃ a, e = .returned (.slice a 17 17) ∧ CellsAt w' a (words.map strV) ∧ Ext w w' := by
  go_enter Try.func20, Try.ntmps20
  go_wp2_with fail
  go_ret
  exact ⟨_, rfl, CellsAt.new w _ (words.map strV), (Ext.refl _).alloc _⟩

set_option maxHeartbeats 400000 in
theorem rword_any (w : World) (s : ByteArray) :
    Calls Try.prog 14 #[.string s] w fun e w' => e = .returned (.bool (word s.data.toList)) ∧ Ext w w' := by
  go_enter Try.func14, Try.ntmps14
  go_wp2_with fail
  refine (rwords_any w).mono ?_
  rintro e w1 ⟨a, rfl, hc, e1⟩
  have L := rin_any w1 a 17 words s hc (by decide)
  rw [show words.length = 17 from rfl] at L
  have HL := hid L
  clear L
  go_wp2_with fail
  refine HL.out.mono ?_
  rintro e w2 ⟨rfl, hw⟩
  subst hw
  go_wp2_with fail
  go_ret
  exact ⟨ret_bool (show inL words s.data.toList = word s.data.toList from rfl), e1⟩

theorem u8_eqi (c d : UInt8) : ((c.toNat : Int) == d.toNat) = (c == d) := by
  rw [Bool.eq_iff_iff]; simp [← UInt8.toNat_inj]; omega
theorem skip_more (l : List UInt8) (k : Nat) (h : k < l.length) (h1 : l[k] ≠ 35) (h2 : isBlank l[k] = true) : skip false (l.drop k) = skip false (l.drop (k + 1)) + 1 := by
  have h35 : (l[k] == 35) = false := by simpa using h1
  rw [drop_getElem l k h]
  simp only [skip, h35, h2, Bool.false_eq_true, if_false, if_true]
theorem skip_in (l : List UInt8) (k : Nat) (h : k < l.length) (h1 : l[k] ≠ 10) : skip true (l.drop k) = skip true (l.drop (k + 1)) + 1 := by
  have h10 : (l[k] == 10) = false := by simpa using h1
  rw [drop_getElem l k h]
  simp only [skip, h10, Bool.false_eq_true, if_false]
theorem skip_out (l : List UInt8) (k : Nat) (h : k < l.length) (h1 : l[k] = 10) : skip true (l.drop k) = skip false (l.drop k) := by
  rw [drop_getElem l k h, h1]
  simp [skip, isBlank]
theorem skip_open (l : List UInt8) (k : Nat) (h : k < l.length) (h1 : l[k] = 35) : skip false (l.drop k) = skip true (l.drop k) := by
  rw [drop_getElem l k h, h1]
  simp [skip]
set_option maxHeartbeats 1000000 in
theorem rblanks_any (w : World) (a : Option Addr) (s : List UInt8) (cap at_ : Nat) (hs : BytesAt w a s) (hlen : s.length ≤ 140737488355328) (hat : at_ ≤ s.length) :
    Calls Try.prog 17 #[.slice a s.length cap, .int .i64 at_] w fun e w' => e = .returned (.int .i64 (at_ + skip false (s.drop at_) : Nat)) ∧ w = w' := by
  go_enter Try.func17, Try.ntmps17
  go_wp2_with fail
  go_loop [1] (fun i => ∃ k : Nat, k ≤ s.length ∧ i = .int .i64 k ∧ Hid (at_ + skip false (s.drop at_) = k + skip false (s.drop k))) (fun i => s.length - (intOf i).toNat)
  case atStart => exact ⟨at_, hat, rfl, rfl⟩
  case round =>
    obtain ⟨k, hk, rfl, hsum⟩ := hrel
    by_cases hlt : k < s.length
    · obtain ⟨b, off, rfl, hc⟩ := hs.at hlt
      by_cases h35 : s[k] = 35
      · have hi35 : ((s[k].toNat : Int) == 35) = true := by rw [h35]; rfl
        have HO := hid (skip_open s k hlt h35)
        have hlt2 : k < s.length := hlt
        have H35 := hid h35
        clear h35
        go_wp2_with fail
        go_loop [1] (fun i => ∃ m : Nat, k ≤ m ∧ m ≤ s.length ∧ (m = k ∨ k < m) ∧ i = .int .i64 m ∧ Hid (k + skip true (s.drop k) = m + skip true (s.drop m))) (fun i => s.length - (intOf i).toNat)
        case atStart => exact ⟨k, by omega, by omega, .inl rfl, rfl, rfl⟩
        case round =>
          obtain ⟨m, hm1, hm2, hm3, rfl, hsm⟩ := hrel
          by_cases hmt : m < s.length
          · obtain ⟨b', off', hbb, hcm⟩ := hs.at hmt
            simp only [Option.some.injEq, Addr.mk.injEq, and_true] at hbb
            obtain ⟨rfl, rfl⟩ := hbb
            by_cases h10 : s[m] = 10
            · have hi10 : ((s[m].toNat : Int) != 10) = false := by rw [h10]; rfl
              have HS := hid (skip_out s m hmt h10)
              have hkm : k < m := by
                rcases hm3 with rfl | h
                · have := H35.out; rw [h10] at this; exact absurd this (by decide)
                · exact h
              clear h10
              go_wp2_with fail
              go_round
              case rel => exact ⟨m, hm2, rfl, by show _ = _; rw [hsum.out, HO.out, hsm.out, HS.out]⟩
              case measure => simp [intOf]; omega
            · have hi10 : ((s[m].toNat : Int) != 10) = true := by rw [show ((10 : Int)) = ((10 : UInt8).toNat : Int) from rfl, u8_ne]; simpa using h10
              have HS := hid (skip_in s m hmt h10)
              clear h10
              go_wp2_with fail
              go_round
              case rel => exact ⟨m + 1, by omega, by omega, .inr (by omega), by go_num, by have h1 := hsm.out; have h2 := HS.out; show _ = _; omega⟩
              case measure => simp [intOf]; omega
          · have hme : m = s.length := by omega
            have HE := hid hme
            have hkm : k < m := by omega
            clear hme
            go_wp2_with fail
            go_round
            case rel => exact ⟨m, hm2, rfl, by show _ = _; rw [hsum.out, HO.out, hsm.out, HE.out]; simp [skip]⟩
            case measure => simp [intOf]; omega
      · have hi35 : ((s[k].toNat : Int) == 35) = false := by rw [show ((35 : Int)) = ((35 : UInt8).toNat : Int) from rfl, u8_eqi]; simpa using h35
        have H35 := hid h35
        clear h35
        cases hb : isBlank s[k] with
        | true =>
          have HM := hid (skip_more s k hlt H35.out hb)
          have hor : s[k] = 9 ∨ s[k] = 10 ∨ s[k] = 13 ∨ s[k] = 32 := by simpa [isBlank, or_assoc] using hb
          clear hb
          rcases hor with h | h | h | h
          all_goals
            have hi : (s[k].toNat : Int) = _ := congrArg (fun c : UInt8 => (c.toNat : Int)) h
            clear h
            rw [hi] at hc
            clear hi
            go_wp2_with fail
            go_round
            case rel => exact ⟨k + 1, by omega, by go_num, by have h1 := hsum.out; have h2 := HM.out; show _ = _; omega⟩
            case measure => simp [intOf]; omega
        | false =>
          have hz : skip false (s.drop k) = 0 := by rw [drop_getElem s k hlt]; exact skip_none _ _ H35.out hb
          have HZ := hid hz
          simp [isBlank] at hb
          obtain ⟨⟨⟨h1, h2⟩, h3⟩, h4⟩ := hb
          have i1 : ((s[k].toNat : Int) != 9) = true := by rw [show ((9 : Int)) = ((9 : UInt8).toNat : Int) from rfl, u8_ne]; simpa using h1
          have i2 : ((s[k].toNat : Int) != 10) = true := by rw [show ((10 : Int)) = ((10 : UInt8).toNat : Int) from rfl, u8_ne]; simpa using h2
          have i3 : ((s[k].toNat : Int) != 13) = true := by rw [show ((13 : Int)) = ((13 : UInt8).toNat : Int) from rfl, u8_ne]; simpa using h3
          have i4 : ((s[k].toNat : Int) != 32) = true := by rw [show ((32 : Int)) = ((32 : UInt8).toNat : Int) from rfl, u8_ne]; simpa using h4
          clear h1 h2 h3 h4 hz
          go_wp2_with fail
          go_ret
          exact ⟨ret_int (by have h1 := hsum.out; have h2 := HZ.out; omega), rfl⟩
    · go_wp2_with fail
      go_ret
      exact ⟨ret_int (by have h2 := hsum.out; rw [List.drop_of_length_le (i := k) (by omega)] at h2; simp only [skip] at h2; omega), rfl⟩
end Go.Proofs.Ytaehlakefgnfmaa
