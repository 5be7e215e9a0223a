/-
  DERIVED. THE WALKS of the reference's tokens: words, blanks, names, numbers.
-/
import Derived.Test.YtaehlakefgnfmaaGreatDoorTokf
set_option linter.unusedSimpArgs false
set_option linter.unusedVariables false
set_option maxRecDepth 100000
namespace Go.Proofs.YtaehlakefgnfmaaGreatDoor
open Go.RowKit

/-- Is a text among some? -/
def inL (ss : List (List UInt8)) (x : List UInt8) : Bool := ss.contains x
def strV (l : List UInt8) : Value := .string ⟨l.toArray⟩

set_option maxHeartbeats 400000 in
theorem rletter_any (w : World) (c : UInt8) :
    Calls Tryz.prog 60 #[.int .u8 c.toNat] w fun e w' => e = .returned (.bool (isLetter c)) ∧ w = w' := by
  go_enter Tryz.func60, Tryz.ntmps60
  go_wp2_with fail
  all_goals
    go_ret
    refine ⟨ret_bool ?_, rfl⟩
    rw [Bool.eq_iff_iff]
    simp [isLetter, UInt8.le_iff_toNat_le]
    omega
set_option maxHeartbeats 400000 in
theorem rdigit_any (w : World) (c : UInt8) :
    Calls Tryz.prog 62 #[.int .u8 c.toNat] w fun e w' => e = .returned (.bool (isDigit c)) ∧ w = w' := by
  go_enter Tryz.func62, Tryz.ntmps62
  go_wp2_with fail
  all_goals
    go_ret
    refine ⟨ret_bool ?_, rfl⟩
    rw [Bool.eq_iff_iff]
    simp [isDigit, UInt8.le_iff_toNat_le]
    omega

theorem contains_take (ss : List (List UInt8)) (x : List UInt8) (k : Nat) (h : k < ss.length) (hk : (ss.take k).contains x = false) (hx : (ss[k] == x) = false) : (ss.take (k + 1)).contains x = false := by
  rw [List.take_succ_eq_append_getElem h]
  simp only [List.contains_eq_any_beq, List.any_append, List.any_cons, List.any_nil, Bool.or_false] at *
  rw [hk, Bool.false_or]
  rw [Bool.eq_false_iff] at hx ⊢
  intro h'
  exact hx (by rw [beq_iff_eq] at h' ⊢; exact h'.symm)
set_option maxHeartbeats 400000 in
theorem rin_any (w : World) (a : Option Addr) (cap : Nat) (ss : List (List UInt8)) (s : ByteArray) (hs : CellsAt w a (ss.map strV)) (hlen : ss.length ≤ 1000) :
    Calls Tryz.prog 82 #[.slice a ss.length cap, .string s] w fun e w' => e = .returned (.bool (inL ss s.data.toList)) ∧ w = w' := by
  rw [← ByteArray.toList_eq]
  go_enter Tryz.func82, Tryz.ntmps82
  go_wp2_with fail
  go_loop [5] (fun i => ∃ k : Nat, k ≤ ss.length ∧ i = .int .i64 k ∧ Hid ((ss.take k).contains s.toList = false)) (fun i => ss.length - (intOf i).toNat)
  case atStart => exact ⟨0, by omega, rfl, rfl⟩
  case round =>
    obtain ⟨k, hk, rfl, hno⟩ := hrel
    by_cases hlt : k < ss.length
    · obtain ⟨b, off, rfl, hc⟩ := hs k (strV ss[k]) (by simp [hlt])
      unfold strV at hc
      have HC := hid (fun h => contains_take ss s.toList k hlt hno.out h)
      cases hx : ss[k] == s.toList with
      | true =>
        have hy : ss.contains s.toList = true := by
          rw [← eq_of_beq hx]; simp
        have HY := hid hy
        clear hy
        go_wp2_with fail
        go_ret
        exact ⟨ret_bool (show true = inL ss s.toList from HY.out.symm), rfl⟩
      | false =>
        have HX := hid (HC.out hx)
        clear HC
        go_wp2_with fail
        go_round
        case rel => exact ⟨k + 1, by omega, by go_num, HX⟩
        case measure => simp [intOf]; omega
    · go_wp2_with fail
      go_ret
      have h := hno.out
      rw [List.take_of_length_le (by omega)] at h
      exact ⟨ret_bool (show false = inL ss s.toList from h.symm), rfl⟩

set_option maxHeartbeats 400000 in
theorem rwords_any (w : World) :
    Calls Tryz.prog 91 #[] w fun e w' => ∃ a, e = .returned (.slice a 17 17) ∧ CellsAt w' a (words.map strV) ∧ Ext w w' := by
  go_enter Tryz.func91, Tryz.ntmps91
  go_wp2_with fail
  go_ret
  exact ⟨_, rfl, CellsAt.new w _ (words.map strV), (Ext.refl _).alloc _⟩

set_option maxHeartbeats 400000 in
theorem rword_any (w : World) (s : ByteArray) :
    Calls Tryz.prog 81 #[.string s] w fun e w' => e = .returned (.bool (word s.data.toList)) ∧ Ext w w' := by
  go_enter Tryz.func81, Tryz.ntmps81
  go_wp2_with fail
  refine (rwords_any w).mono ?_
  rintro e w1 ⟨a, rfl, hc, e1⟩
  have L := rin_any w1 a 17 words s hc (by decide)
  rw [show words.length = 17 from rfl] at L
  have HL := hid L
  clear L
  go_wp2_with fail
  refine HL.out.mono ?_
  rintro e w2 ⟨rfl, hw⟩
  subst hw
  go_wp2_with fail
  go_ret
  exact ⟨ret_bool (show inL words s.data.toList = word s.data.toList from rfl), e1⟩

theorem u8_eqi (c d : UInt8) : ((c.toNat : Int) == d.toNat) = (c == d) := by
  rw [Bool.eq_iff_iff]; simp [← UInt8.toNat_inj]; omega
theorem skip_more (l : List UInt8) (k : Nat) (h : k < l.length) (h1 : l[k] ≠ 35) (h2 : isBlank l[k] = true) : skip false (l.drop k) = skip false (l.drop (k + 1)) + 1 := by
  have h35 : (l[k] == 35) = false := by simpa using h1
  rw [drop_getElem l k h]
  simp only [skip, h35, h2, Bool.false_eq_true, if_false, if_true]
theorem skip_in (l : List UInt8) (k : Nat) (h : k < l.length) (h1 : l[k] ≠ 10) : skip true (l.drop k) = skip true (l.drop (k + 1)) + 1 := by
  have h10 : (l[k] == 10) = false := by simpa using h1
  rw [drop_getElem l k h]
  simp only [skip, h10, Bool.false_eq_true, if_false]
theorem skip_out (l : List UInt8) (k : Nat) (h : k < l.length) (h1 : l[k] = 10) : skip true (l.drop k) = skip false (l.drop k) := by
  rw [drop_getElem l k h, h1]
  simp [skip, isBlank]
theorem skip_open (l : List UInt8) (k : Nat) (h : k < l.length) (h1 : l[k] = 35) : skip false (l.drop k) = skip true (l.drop k) := by
  rw [drop_getElem l k h, h1]
  simp [skip]
set_option maxHeartbeats 1000000 in
theorem rblanks_any (w : World) (a : Option Addr) (s : List UInt8) (cap at_ : Nat) (hs : BytesAt w a s) (hlen : s.length ≤ 140737488355328) (hat : at_ ≤ s.length) :
    Calls Tryz.prog 31 #[.slice a s.length cap, .int .i64 at_] w fun e w' => e = .returned (.int .i64 (at_ + skip false (s.drop at_) : Nat)) ∧ w = w' := by
  go_enter Tryz.func31, Tryz.ntmps31
  go_wp2_with fail
  go_loop [1] (fun i => ∃ k : Nat, k ≤ s.length ∧ i = .int .i64 k ∧ Hid (at_ + skip false (s.drop at_) = k + skip false (s.drop k))) (fun i => s.length - (intOf i).toNat)
  case atStart => exact ⟨at_, hat, rfl, rfl⟩
  case round =>
    obtain ⟨k, hk, rfl, hsum⟩ := hrel
    by_cases hlt : k < s.length
    · obtain ⟨b, off, rfl, hc⟩ := hs.at hlt
      by_cases h35 : s[k] = 35
      · have hi35 : ((s[k].toNat : Int) == 35) = true := by rw [h35]; rfl
        have HO := hid (skip_open s k hlt h35)
        have hlt2 : k < s.length := hlt
        have H35 := hid h35
        clear h35
        go_wp2_with fail
        go_loop [1] (fun i => ∃ m : Nat, k ≤ m ∧ m ≤ s.length ∧ (m = k ∨ k < m) ∧ i = .int .i64 m ∧ Hid (k + skip true (s.drop k) = m + skip true (s.drop m))) (fun i => s.length - (intOf i).toNat)
        case atStart => exact ⟨k, by omega, by omega, .inl rfl, rfl, rfl⟩
        case round =>
          obtain ⟨m, hm1, hm2, hm3, rfl, hsm⟩ := hrel
          by_cases hmt : m < s.length
          · obtain ⟨b', off', hbb, hcm⟩ := hs.at hmt
            simp only [Option.some.injEq, Addr.mk.injEq, and_true] at hbb
            obtain ⟨rfl, rfl⟩ := hbb
            by_cases h10 : s[m] = 10
            · have hi10 : ((s[m].toNat : Int) != 10) = false := by rw [h10]; rfl
              have HS := hid (skip_out s m hmt h10)
              have hkm : k < m := by
                rcases hm3 with rfl | h
                · have := H35.out; rw [h10] at this; exact absurd this (by decide)
                · exact h
              clear h10
              go_wp2_with fail
              go_round
              case rel => exact ⟨m, hm2, rfl, by show _ = _; rw [hsum.out, HO.out, hsm.out, HS.out]⟩
              case measure => simp [intOf]; omega
            · have hi10 : ((s[m].toNat : Int) != 10) = true := by rw [show ((10 : Int)) = ((10 : UInt8).toNat : Int) from rfl, u8_ne]; simpa using h10
              have HS := hid (skip_in s m hmt h10)
              clear h10
              go_wp2_with fail
              go_round
              case rel => exact ⟨m + 1, by omega, by omega, .inr (by omega), by go_num, by have h1 := hsm.out; have h2 := HS.out; show _ = _; omega⟩
              case measure => simp [intOf]; omega
          · have hme : m = s.length := by omega
            have HE := hid hme
            have hkm : k < m := by omega
            clear hme
            go_wp2_with fail
            go_round
            case rel => exact ⟨m, hm2, rfl, by show _ = _; rw [hsum.out, HO.out, hsm.out, HE.out]; simp [skip]⟩
            case measure => simp [intOf]; omega
      · have hi35 : ((s[k].toNat : Int) == 35) = false := by rw [show ((35 : Int)) = ((35 : UInt8).toNat : Int) from rfl, u8_eqi]; simpa using h35
        have H35 := hid h35
        clear h35
        cases hb : isBlank s[k] with
        | true =>
          have HM := hid (skip_more s k hlt H35.out hb)
          have hor : s[k] = 9 ∨ s[k] = 10 ∨ s[k] = 13 ∨ s[k] = 32 := by simpa [isBlank, or_assoc] using hb
          clear hb
          rcases hor with h | h | h | h
          all_goals
            have hi : (s[k].toNat : Int) = _ := congrArg (fun c : UInt8 => (c.toNat : Int)) h
            clear h
            rw [hi] at hc
            clear hi
            go_wp2_with fail
            go_round
            case rel => exact ⟨k + 1, by omega, by go_num, by have h1 := hsum.out; have h2 := HM.out; show _ = _; omega⟩
            case measure => simp [intOf]; omega
        | false =>
          have hz : skip false (s.drop k) = 0 := by rw [drop_getElem s k hlt]; exact skip_none _ _ H35.out hb
          have HZ := hid hz
          simp [isBlank] at hb
          obtain ⟨⟨⟨h1, h2⟩, h3⟩, h4⟩ := hb
          have i1 : ((s[k].toNat : Int) != 9) = true := by rw [show ((9 : Int)) = ((9 : UInt8).toNat : Int) from rfl, u8_ne]; simpa using h1
          have i2 : ((s[k].toNat : Int) != 10) = true := by rw [show ((10 : Int)) = ((10 : UInt8).toNat : Int) from rfl, u8_ne]; simpa using h2
          have i3 : ((s[k].toNat : Int) != 13) = true := by rw [show ((13 : Int)) = ((13 : UInt8).toNat : Int) from rfl, u8_ne]; simpa using h3
          have i4 : ((s[k].toNat : Int) != 32) = true := by rw [show ((32 : Int)) = ((32 : UInt8).toNat : Int) from rfl, u8_ne]; simpa using h4
          clear h1 h2 h3 h4 hz
          go_wp2_with fail
          go_ret
          exact ⟨ret_int (by have h1 := hsum.out; have h2 := HZ.out; omega), rfl⟩
    · go_wp2_with fail
      go_ret
      exact ⟨ret_int (by have h2 := hsum.out; rw [List.drop_of_length_le (i := k) (by omega)] at h2; simp only [skip] at h2; omega), rfl⟩
end Go.Proofs.YtaehlakefgnfmaaGreatDoor
/-
  DERIVED. THE WALKS of the reference's tokens, further: a name, a number, a text, a sign.
-/
set_option linter.unusedSimpArgs false
set_option linter.unusedVariables false
set_option maxRecDepth 100000
namespace Go.Proofs.YtaehlakefgnfmaaGreatDoor
open Go.RowKit

/-- What the reference's next answers. -/
def refEnds (o : Except Nat Bit) (at_ : Nat) (e : Ending) : Prop :=
  match o with
  | .ok b => e = .returned (.tuple #[.agg #[.int .i64 b.kind, .string ⟨b.text.toArray⟩, .int .i64 b.num, .int .i64 at_], .int .i64 (at_ + b.len : Nat), .int .i64 0])
  | .error x => e = .returned (.tuple #[.agg #[.int .i64 0, .string ⟨#[]⟩, .int .i64 0, .int .i64 0], .int .i64 0, .int .i64 x])
theorem refEnds_ok {o : Except Nat Bit} {at_ k num m : Nat} {t : List UInt8} {len : Nat} (h : o = .ok ⟨k, t, num, len⟩) (hm : m = at_ + len) :
    refEnds o at_ (.returned (.tuple #[.agg #[.int .i64 k, .string ⟨t.toArray⟩, .int .i64 num, .int .i64 at_], .int .i64 m, .int .i64 0])) := by
  subst h; subst hm; rfl
theorem refEnds_err {o : Except Nat Bit} {at_ x : Nat} (h : o = .error x) :
    refEnds o at_ (.returned (.tuple #[.agg #[.int .i64 0, .string ⟨#[]⟩, .int .i64 0, .int .i64 0], .int .i64 0, .int .i64 x])) := by
  subst h; rfl
theorem span_more (p : UInt8 → Bool) (l : List UInt8) (k : Nat) (h : k < l.length) (hp : p l[k] = true) : spanLen p (l.drop k) = spanLen p (l.drop (k + 1)) + 1 := by
  rw [drop_getElem l k h]; simp only [spanLen, hp, if_true]
theorem span_end (p : UInt8 → Bool) (l : List UInt8) (k : Nat) (h : k < l.length) (hp : p l[k] = false) : spanLen p (l.drop k) = 0 := by
  rw [drop_getElem l k h]; simp only [spanLen, hp, Bool.false_eq_true, if_false]

set_option maxHeartbeats 2000000 in
theorem rname_any (w : World) (a : Option Addr) (s : List UInt8) (cap at_ : Nat) (hs : BytesAt w a s) (hlen : s.length ≤ 140737488355328) (hcap : s.length ≤ cap) (hat : at_ < s.length) (hl : isLetter s[at_] = true) :
    Calls Tryz.prog 61 #[.slice a s.length cap, .int .i64 at_] w fun e w' => refEnds (nextT (s.drop at_)) at_ e ∧ Ext w w' := by
  obtain ⟨b, off, rfl, hc⟩ := hs.at hat
  have hb := World.block_lt_of_cell? _ _ hc
  have hk1 : 0 < spanLen isNameByte (s.drop at_) := by rw [drop_getElem s at_ hat]; simp [spanLen, isNameByte, hl]
  have hk2 := spanLen_le isNameByte (s.drop at_)
  rw [List.length_drop] at hk2
  obtain ⟨m, hm⟩ : ∃ m, m = at_ + spanLen isNameByte (s.drop at_) := ⟨_, rfl⟩
  have hm1 : at_ < m := by omega
  have hm2 : m ≤ s.length := by omega
  have hx := hs.part at_ (m - at_)
  rw [show m - at_ = spanLen isNameByte (s.drop at_) by omega] at hx
  obtain ⟨x, hxd⟩ : ∃ x, x = (s.drop at_).take (spanLen isNameByte (s.drop at_)) := ⟨_, rfl⟩
  have hxl : x.length = m - at_ := by rw [hxd]; simp; omega
  rw [← hxd] at hx
  have hnx : nextT (s.drop at_) = if word x then .ok ⟨4, x, 0, x.length⟩ else if x.length > 16 then .error 32 else .ok ⟨1, x, 0, x.length⟩ := by
    rw [hxd]
    generalize hq : s.drop at_ = q
    have hq' := drop_getElem s at_ hat
    rw [hq] at hq'
    subst hq'
    simp only [nextT, hl, if_true]
  have HM := hid hm
  have HX := hid hnx
  have HL := hid hxl
  have w1 : Ext w (w.alloc (.cells #[.int .i64 0, .string ⟨#[]⟩, .int .i64 0, .int .i64 0] 63)) := (Ext.refl w).alloc _
  have hs1 := hs.ext w1
  have hcv : ∀ w', Ext w w' → (convert 22 9 (.slice (some ⟨b, off + at_, none⟩) (m - at_) (cap - at_))).run Tryz.prog w' = .ok (.string ⟨x.toArray⟩) w' := fun w' e =>
    run_string_of (hx.ext e) _ _ _ Tryz.underlying22 Tryz.underlying5 Tryz.underlying9 _ _ hxl
  have hcv1 := hcv _ w1
  clear hm hk1 hk2 hx hxd hnx hxl hcv
  go_enter Tryz.func61, Tryz.ntmps61
  go_wp2_with fail
  go_loop [7] (fun i => ∃ k : Nat, at_ ≤ k ∧ k ≤ s.length ∧ i = .int .i64 k ∧ Hid (at_ + spanLen isNameByte (s.drop at_) = k + spanLen isNameByte (s.drop k))) (fun i => s.length - (intOf i).toNat)
  case atStart => exact ⟨at_, by omega, by omega, rfl, rfl⟩
  case round =>
    obtain ⟨k, hka, hk, rfl, hsum⟩ := hrel
    by_cases hlt : k < s.length
    · obtain ⟨b', off', hbb, hck⟩ := hs1.at hlt
      simp only [Option.some.injEq, Addr.mk.injEq, and_true] at hbb
      obtain ⟨rfl, rfl⟩ := hbb
      cases hn : isNameByte s[k] with
      | true =>
        have HS := hid (span_more isNameByte s k hlt hn)
        have hor : isLetter s[k] = true ∨ (isLetter s[k] = false ∧ isDigit s[k] = true) ∨ (isLetter s[k] = false ∧ isDigit s[k] = false ∧ ((s[k].toNat : Int) == 95) = true) := by
          have h95 := u8_eqi s[k] 95
          revert hn
          simp only [isNameByte]
          rw [show ((95 : Int)) = ((95 : UInt8).toNat : Int) from rfl, h95]
          cases isLetter s[k] <;> cases isDigit s[k] <;> cases (s[k] == 95) <;> simp
        clear hn
        rcases hor with h1 | ⟨h1, h2⟩ | ⟨h1, h2, h3⟩
        · go_wp2_with (go_at_call 60; refine (rletter_any _ _).mono ?_; rintro e w' ⟨rfl, rfl⟩; rw [h1])
          go_round
          case rel => exact ⟨k + 1, by omega, by omega, by go_num, by have h1 := hsum.out; have h2 := HS.out; show _ = _; omega⟩
          case measure => simp [intOf]; omega
        · go_wp2_with (first | (go_at_call 60; refine (rletter_any _ _).mono ?_; rintro e w' ⟨rfl, rfl⟩; rw [h1]) | (go_at_call 62; refine (rdigit_any _ _).mono ?_; rintro e w' ⟨rfl, rfl⟩; rw [h2]))
          go_round
          case rel => exact ⟨k + 1, by omega, by omega, by go_num, by have h1 := hsum.out; have h2 := HS.out; show _ = _; omega⟩
          case measure => simp [intOf]; omega
        · go_wp2_with (first | (go_at_call 60; refine (rletter_any _ _).mono ?_; rintro e w' ⟨rfl, rfl⟩; rw [h1]) | (go_at_call 62; refine (rdigit_any _ _).mono ?_; rintro e w' ⟨rfl, rfl⟩; rw [h2]))
          go_round
          case rel => exact ⟨k + 1, by omega, by omega, by go_num, by have h1 := hsum.out; have h2 := HS.out; show _ = _; omega⟩
          case measure => simp [intOf]; omega
      | false =>
        have hz := span_end isNameByte s k hlt hn
        have hkm : k = m := by have h1 := hsum.out; have h2 := HM.out; omega
        have hall : isLetter s[k] = false ∧ isDigit s[k] = false ∧ ((s[k].toNat : Int) == 95) = false := by
          have h95 := u8_eqi s[k] 95
          revert hn
          simp only [isNameByte]
          rw [show ((95 : Int)) = ((95 : UInt8).toNat : Int) from rfl, h95]
          cases isLetter s[k] <;> cases isDigit s[k] <;> cases (s[k] == 95) <;> simp
        obtain ⟨h1, h2, h3⟩ := hall
        clear hz hn
        subst hkm
        go_wp2_with (first | (go_at_call 60; refine (rletter_any _ _).mono ?_; rintro e w' ⟨rfl, rfl⟩; rw [h1]) | (go_at_call 62; refine (rdigit_any _ _).mono ?_; rintro e w' ⟨rfl, rfl⟩; rw [h2]))
        refine (rword_any _ _).mono ?_
        rintro e w2 ⟨rfl, e2⟩
        have e02 := w1.trans e2
        have br := (Blk.new w 63 [Value.int .i64 0, .string ⟨#[]⟩, .int .i64 0, .int .i64 0]).ext e2
        obtain ⟨r0, r1, r2, r3, rf⟩ := br.four
        clear br
        by_cases hw : word x = true
        · simp only [List.toList_toArray, hw]
          go_wp2_with fail
          refine bodyPost_ret (v := .tuple #[.agg #[.int .i64 4, .string ⟨x.toArray⟩, .int .i64 0, .int .i64 at_], .int .i64 k, .int .i64 0]) ?_ rfl ⟨refEnds_ok (by rw [HX.out, if_pos hw]) (by have := HL.out; omega), ?_⟩
          · simp [results, Tryz.results61, go_sem, *]
          · repeat (with_reducible first | exact e02 | apply Ext.drew | refine Ext.setCell ?_ ?_ _)
            all_goals simp
        · have hwf : word x = false := by simpa using hw
          clear hw
          simp only [List.toList_toArray, hwf]
          by_cases hl16 : 16 < x.length
          · go_wp2_with fail
            refine bodyPost_ret (v := .tuple #[.agg #[.int .i64 0, .string ⟨#[]⟩, .int .i64 0, .int .i64 0], .int .i64 0, .int .i64 32]) ?_ rfl ⟨refEnds_err (by rw [HX.out, if_neg (by simp [hwf]), if_pos hl16]), ?_⟩
            · simp [results, Tryz.results61, go_sem, *]
            · repeat (with_reducible first | exact e02 | apply Ext.drew | refine Ext.setCell ?_ ?_ _)
              all_goals simp
          · go_wp2_with fail
            refine bodyPost_ret (v := .tuple #[.agg #[.int .i64 1, .string ⟨x.toArray⟩, .int .i64 0, .int .i64 at_], .int .i64 k, .int .i64 0]) ?_ rfl ⟨refEnds_ok (by rw [HX.out, if_neg (by simp [hwf]), if_neg hl16]) (by have := HL.out; omega), ?_⟩
            · simp [results, Tryz.results61, go_sem, *]
            · repeat (with_reducible first | exact e02 | apply Ext.drew | refine Ext.setCell ?_ ?_ _)
              all_goals simp
    · have hkm : k = m := by
        have h1 := hsum.out; have h2 := HM.out
        have h3 : spanLen isNameByte (s.drop k) = 0 := by rw [List.drop_of_length_le (by omega)]; rfl
        omega
      subst hkm
      go_wp2_with fail
      refine (rword_any _ _).mono ?_
      rintro e w2 ⟨rfl, e2⟩
      have e02 := w1.trans e2
      have br := (Blk.new w 63 [Value.int .i64 0, .string ⟨#[]⟩, .int .i64 0, .int .i64 0]).ext e2
      obtain ⟨r0, r1, r2, r3, rf⟩ := br.four
      clear br
      by_cases hw : word x = true
      · simp only [List.toList_toArray, hw]
        go_wp2_with fail
        refine bodyPost_ret (v := .tuple #[.agg #[.int .i64 4, .string ⟨x.toArray⟩, .int .i64 0, .int .i64 at_], .int .i64 k, .int .i64 0]) ?_ rfl ⟨refEnds_ok (by rw [HX.out, if_pos hw]) (by have := HL.out; omega), ?_⟩
        · simp [results, Tryz.results61, go_sem, *]
        · repeat (with_reducible first | exact e02 | apply Ext.drew | refine Ext.setCell ?_ ?_ _)
          all_goals simp
      · have hwf : word x = false := by simpa using hw
        clear hw
        simp only [List.toList_toArray, hwf]
        by_cases hl16 : 16 < x.length
        · go_wp2_with fail
          refine bodyPost_ret (v := .tuple #[.agg #[.int .i64 0, .string ⟨#[]⟩, .int .i64 0, .int .i64 0], .int .i64 0, .int .i64 32]) ?_ rfl ⟨refEnds_err (by rw [HX.out, if_neg (by simp [hwf]), if_pos hl16]), ?_⟩
          · simp [results, Tryz.results61, go_sem, *]
          · repeat (with_reducible first | exact e02 | apply Ext.drew | refine Ext.setCell ?_ ?_ _)
            all_goals simp
        · go_wp2_with fail
          refine bodyPost_ret (v := .tuple #[.agg #[.int .i64 1, .string ⟨x.toArray⟩, .int .i64 0, .int .i64 at_], .int .i64 k, .int .i64 0]) ?_ rfl ⟨refEnds_ok (by rw [HX.out, if_neg (by simp [hwf]), if_neg hl16]) (by have := HL.out; omega), ?_⟩
          · simp [results, Tryz.results61, go_sem, *]
          · repeat (with_reducible first | exact e02 | apply Ext.drew | refine Ext.setCell ?_ ?_ _)
            all_goals simp
end Go.Proofs.YtaehlakefgnfmaaGreatDoor
/-
  DERIVED. THE WALKS of the reference's tokens, further: a number, a text.
-/
set_option linter.unusedSimpArgs false
set_option linter.unusedVariables false
set_option maxRecDepth 100000
namespace Go.Proofs.YtaehlakefgnfmaaGreatDoor
open Go.RowKit

theorem numFrom_at (n : Nat) (c : UInt8) (l : List UInt8) : numFrom n (c :: l) = if n > (maxNum - (c.toNat - 48)) / 10 then none else numFrom (10 * n + (c.toNat - 48)) l := rfl
theorem take_span (p : UInt8 → Bool) (l : List UInt8) (k : Nat) (h : k < l.length) (hp : p l[k] = true) : (l.drop k).take (spanLen p (l.drop k)) = l[k] :: (l.drop (k + 1)).take (spanLen p (l.drop (k + 1))) := by
  rw [span_more p l k h hp, drop_getElem l k h, List.take_succ_cons]

set_option maxHeartbeats 2000000 in
theorem rnumber_any (w : World) (a : Option Addr) (s : List UInt8) (cap at_ : Nat) (hs : BytesAt w a s) (hlen : s.length ≤ 140737488355328) (hcap : s.length ≤ cap) (hat : at_ < s.length) (hl : isLetter s[at_] = false) (hd : isDigit s[at_] = true) :
    Calls Tryz.prog 63 #[.slice a s.length cap, .int .i64 at_] w fun e w' => refEnds (nextT (s.drop at_)) at_ e ∧ Ext w w' := by
  obtain ⟨b, off, rfl, hc⟩ := hs.at hat
  have hnx : nextT (s.drop at_) = match numFrom 0 ((s.drop at_).take (spanLen isDigit (s.drop at_))) with | none => .error 32 | some n => .ok ⟨2, [], n, spanLen isDigit (s.drop at_)⟩ := by
    have hle := spanLen_le isDigit (s.drop at_)
    have hlt : ((s.drop at_).take (spanLen isDigit (s.drop at_))).length = spanLen isDigit (s.drop at_) := by rw [List.length_take]; omega
    generalize hq : s.drop at_ = q at *
    have hq' := drop_getElem s at_ hat
    rw [hq] at hq'
    subst hq'
    simp only [nextT, hl, hd, hlt, if_true, Bool.false_eq_true, if_false]
    generalize numFrom 0 _ = o
    cases o <;> rfl
  have HX := hid hnx
  clear hnx
  have w1 : Ext w (w.alloc (.cells #[.int .i64 0, .string ⟨#[]⟩, .int .i64 0, .int .i64 0] 63)) := (Ext.refl w).alloc _
  have hs1 := hs.ext w1
  obtain ⟨r0, r1, r2, r3, rf⟩ := (Blk.new w 63 [Value.int .i64 0, .string ⟨#[]⟩, .int .i64 0, .int .i64 0]).four
  go_enter Tryz.func63, Tryz.ntmps63
  go_wp2_with fail
  go_loop [7, 8] (fun v i => ∃ k n : Nat, at_ ≤ k ∧ k ≤ s.length ∧ n ≤ maxNum ∧ i = .int .i64 k ∧ v = .int .i64 n ∧ Hid (at_ + spanLen isDigit (s.drop at_) = k + spanLen isDigit (s.drop k)) ∧
    Hid (numFrom 0 ((s.drop at_).take (spanLen isDigit (s.drop at_))) = numFrom n ((s.drop k).take (spanLen isDigit (s.drop k))))) (fun _ i => s.length - (intOf i).toNat)
  case atStart => exact ⟨at_, 0, by omega, by omega, by omega, rfl, rfl, rfl, rfl⟩
  case round =>
    obtain ⟨k, n, hka, hk, hn, rfl, rfl, hsum, hnum⟩ := hrel
    by_cases hlt : k < s.length
    · obtain ⟨b', off', hbb, hck⟩ := hs1.at hlt
      simp only [Option.some.injEq, Addr.mk.injEq, and_true] at hbb
      obtain ⟨rfl, rfl⟩ := hbb
      cases hdk : isDigit s[k] with
      | true =>
        have HS := hid (span_more isDigit s k hlt hdk)
        have HT := hid (take_span isDigit s k hlt hdk)
        have HD := hid hdk
        have hx12 : 48 ≤ (s[k].toNat : Int) ∧ (s[k].toNat : Int) ≤ 57 := by revert hdk; simp [isDigit, UInt8.le_iff_toNat_le]; omega
        clear hdk
        generalize hx : (s[k].toNat : Int) = x at hck hx12
        obtain ⟨hx1, hx2⟩ := hx12
        have HXX := hid hx
        unfold maxNum at hn
        go_wp2_with fail
        rw [← hx]
        refine (rdigit_any _ _).mono ?_
        rintro e w' ⟨rfl, rfl⟩
        rw [HD.out, hx]
        clear hx
        go_wp2_with fail
        · have hgt : (9223372036854775807 - (x - 48)) / 10 < (n : Int) := by assumption
          have hno : nextT (s.drop at_) = .error 32 := by
            rw [HX.out, hnum.out, HT.out, numFrom_at, if_pos (by have := HXX.out; unfold maxNum; omega)]
          have HNO := hid hno
          clear hno
          refine bodyPost_ret (v := .tuple #[.agg #[.int .i64 0, .string ⟨#[]⟩, .int .i64 0, .int .i64 0], .int .i64 0, .int .i64 32]) ?_ rfl ⟨refEnds_err HNO.out, ?_⟩
          · simp [results, Tryz.results63, go_sem, *]
          · first | exact w1 | exact (Ext.refl _).alloc _
        · have hle : (n : Int) ≤ (9223372036854775807 - (x - 48)) / 10 := by assumption
          go_round
          case rel =>
            have h1 := HXX.out
            refine ⟨k + 1, 10 * n + (s[k].toNat - 48), by omega, by omega, ?_, by go_num, ?_, ?_, ?_⟩
            · unfold maxNum; omega
            · rw [← h1]; congr 1; omega
            · have h2 := hsum.out; have h3 := HS.out; show _ = _; omega
            · show _ = _
              rw [hnum.out, HT.out, numFrom_at, if_neg (by unfold maxNum; omega)]
          case measure => simp [intOf]; omega
      | false =>
        have hz := span_end isDigit s k hlt hdk
        have hno : nextT (s.drop at_) = .ok ⟨2, [], n, k - at_⟩ := by
          have h2 := hsum.out
          rw [HX.out, hnum.out, hz]
          simp only [List.take_zero, numFrom]
          rw [show spanLen isDigit (s.drop at_) = k - at_ by omega]
        have HNO := hid hno
        have HD := hid hdk
        clear hno hz hdk
        go_wp2_with fail
        refine (rdigit_any _ _).mono ?_
        rintro e w' ⟨rfl, rfl⟩
        rw [HD.out]
        go_wp2_with fail
        refine bodyPost_ret (v := .tuple #[.agg #[.int .i64 2, .string ⟨#[]⟩, .int .i64 n, .int .i64 at_], .int .i64 k, .int .i64 0]) ?_ rfl ⟨refEnds_ok HNO.out (by omega), ?_⟩
        · simp [results, Tryz.results63, go_sem, *]
        · first | exact w1 | exact (Ext.refl _).alloc _
    · have hno : nextT (s.drop at_) = .ok ⟨2, [], n, k - at_⟩ := by
        have h2 := hsum.out
        have hz : spanLen isDigit (s.drop k) = 0 := by rw [List.drop_of_length_le (by omega)]; rfl
        rw [HX.out, hnum.out, hz]
        simp only [List.take_zero, numFrom]
        rw [show spanLen isDigit (s.drop at_) = k - at_ by omega]
      have HNO := hid hno
      clear hno
      go_wp2_with fail
      refine bodyPost_ret (v := .tuple #[.agg #[.int .i64 2, .string ⟨#[]⟩, .int .i64 n, .int .i64 at_], .int .i64 k, .int .i64 0]) ?_ rfl ⟨refEnds_ok HNO.out (by omega), ?_⟩
      · simp [results, Tryz.results63, go_sem, *]
      · first | exact w1 | exact (Ext.refl _).alloc _

theorem isText_no {c : UInt8} {x : Int} (hx : (c.toNat : Int) = x) (h : isTextByte c = false) : x < 32 ∨ (32 ≤ x ∧ 126 < x) ∨ (32 ≤ x ∧ x ≤ 126 ∧ (x != 34) = false) ∨ (32 ≤ x ∧ x ≤ 126 ∧ (x != 34) = true ∧ (x != 92) = false) := by
  rw [isText_nat, hx] at h
  simp only [decide_eq_false_iff_not] at h
  by_cases h34 : x = 34
  · subst h34; right; right; left; decide
  · by_cases h92 : x = 92
    · subst h92; right; right; right; decide
    · omega
theorem isText_yes {c : UInt8} {x : Int} (hx : (c.toNat : Int) = x) (h : isTextByte c = true) : 32 ≤ x ∧ x ≤ 126 ∧ (x != 34) = true ∧ (x != 92) = true := by
  rw [isText_nat, hx] at h
  simp only [decide_eq_true_eq] at h
  simpa using h
set_option maxHeartbeats 2000000 in
theorem rtext_any (w : World) (a : Option Addr) (s : List UInt8) (cap at_ : Nat) (hs : BytesAt w a s) (hlen : s.length ≤ 140737488355328) (hcap : s.length ≤ cap) (hat : at_ < s.length) (hl : isLetter s[at_] = false) (hd : isDigit s[at_] = false) (H34 : Hid (s[at_] = 34)) :
    Calls Tryz.prog 64 #[.slice a s.length cap, .int .i64 at_] w fun e w' => refEnds (nextT (s.drop at_)) at_ e ∧ Ext w w' := by
  obtain ⟨b, off, rfl, hc⟩ := hs.at hat
  have hnx : ∀ m, m = at_ + 1 + spanLen isTextByte (s.drop (at_ + 1)) → nextT (s.drop at_) = match s.drop m with | [] => .error 31 | d :: _ => if d != 34 then .error 31 else if m - (at_ + 1) > 64 then .error 32 else .ok ⟨3, (s.drop (at_ + 1)).take (m - (at_ + 1)), 0, m - (at_ + 1) + 2⟩ := by
    intro m hm
    rw [show m - (at_ + 1) = spanLen isTextByte (s.drop (at_ + 1)) by omega, hm, ← List.drop_drop]
    generalize hq : s.drop at_ = q
    have hq' := drop_getElem s at_ hat
    rw [hq] at hq'
    rw [show s.drop (at_ + 1) = q.drop 1 by rw [← hq, List.drop_drop]]
    subst hq'
    have hb : (s[at_] == 34) = true := by rw [H34.out]; rfl
    simp only [nextT, hl, hd, hb, if_true, Bool.false_eq_true, if_false, List.drop_succ_cons, List.drop_zero]
    generalize List.drop (spanLen isTextByte _) _ = o
    cases o <;> rfl
  have HX := hid hnx
  clear hnx
  have w1 : Ext w (w.alloc (.cells #[.int .i64 0, .string ⟨#[]⟩, .int .i64 0, .int .i64 0] 63)) := (Ext.refl w).alloc _
  have hs1 := hs.ext w1
  obtain ⟨r0, r1, r2, r3, rf⟩ := (Blk.new w 63 [Value.int .i64 0, .string ⟨#[]⟩, .int .i64 0, .int .i64 0]).four
  go_enter Tryz.func64, Tryz.ntmps64
  go_wp2_with fail
  go_loop [7] (fun i => ∃ k : Nat, at_ + 1 ≤ k ∧ k ≤ s.length ∧ i = .int .i64 k ∧ Hid (at_ + 1 + spanLen isTextByte (s.drop (at_ + 1)) = k + spanLen isTextByte (s.drop k))) (fun i => s.length - (intOf i).toNat)
  case atStart => exact ⟨at_ + 1, by omega, by omega, by go_num, rfl⟩
  case round =>
    obtain ⟨k, hka, hk, rfl, hsum⟩ := hrel
    by_cases hlt : k < s.length
    · obtain ⟨b', off', hbb, hck⟩ := hs1.at hlt
      simp only [Option.some.injEq, Addr.mk.injEq, and_true] at hbb
      obtain ⟨rfl, rfl⟩ := hbb
      generalize hx : (s[k].toNat : Int) = x at hck
      cases hdk : isTextByte s[k] with
      | true =>
        have HS := hid (span_more isTextByte s k hlt hdk)
        obtain ⟨g1, g2, g3, g4⟩ := isText_yes hx hdk
        clear hx hdk
        go_wp2_with fail
        go_round
        case rel => exact ⟨k + 1, by omega, by omega, by go_num, by have h1 := hsum.out; have h2 := HS.out; show _ = _; omega⟩
        case measure => simp [intOf]; omega
      | false =>
        have hz := span_end isTextByte s k hlt hdk
        have hxk := HX.out k (by have := hsum.out; omega)
        rw [drop_getElem s k hlt] at hxk
        simp only [] at hxk
        have HXK := hid hxk
        have HXX := hid hx
        rcases isText_no hx hdk with g1 | ⟨g1, g2⟩ | ⟨g1, g2, g3⟩ | ⟨g1, g2, g3, g4⟩
        · have hq : (x != 34) = true := by simp; omega
          have hno : nextT (s.drop at_) = .error 31 := by rw [HXK.out, if_pos (by rw [← u8_ne]; rw [HXX.out]; exact hq)]
          have HNO := hid hno
          clear hno hxk hz hdk hx
          go_wp2_with fail
          refine bodyPost_ret (v := .tuple #[.agg #[.int .i64 0, .string ⟨#[]⟩, .int .i64 0, .int .i64 0], .int .i64 0, .int .i64 31]) ?_ rfl ⟨refEnds_err HNO.out, ?_⟩
          · simp [results, Tryz.results64, go_sem, *]
          · first | exact w1 | exact (Ext.refl _).alloc _
        · have hq : (x != 34) = true := by simp; omega
          have hno : nextT (s.drop at_) = .error 31 := by rw [HXK.out, if_pos (by rw [← u8_ne]; rw [HXX.out]; exact hq)]
          have HNO := hid hno
          clear hno hxk hz hdk hx
          go_wp2_with fail
          refine bodyPost_ret (v := .tuple #[.agg #[.int .i64 0, .string ⟨#[]⟩, .int .i64 0, .int .i64 0], .int .i64 0, .int .i64 31]) ?_ rfl ⟨refEnds_err HNO.out, ?_⟩
          · simp [results, Tryz.results64, go_sem, *]
          · first | exact w1 | exact (Ext.refl _).alloc _
        · have hno : nextT (s.drop at_) = if k - (at_ + 1) > 64 then .error 32 else .ok ⟨3, (s.drop (at_ + 1)).take (k - (at_ + 1)), 0, k - (at_ + 1) + 2⟩ := by
            rw [HXK.out, if_neg (by rw [← u8_ne]; rw [HXX.out, show ((34 : UInt8).toNat : Int) = 34 from rfl, g3]; simp)]
          have hx3 := hs1.part (at_ + 1) (k - (at_ + 1))
          have hxl : ((s.drop (at_ + 1)).take (k - (at_ + 1))).length = k - (at_ + 1) := by simp; omega
          generalize (s.drop (at_ + 1)).take (k - (at_ + 1)) = y at hno hx3 hxl
          have HNO := hid hno
          clear hno hxk hz hdk hx
          by_cases h64 : 64 < k - at_ - 1
          · have hno : nextT (s.drop at_) = .error 32 := by rw [HNO.out, if_pos (by omega)]
            have HNO := hid hno
            have h64' : 64 < (k : Int) - at_ - 1 := by omega
            clear hno hxl
            go_wp2_with fail
            refine bodyPost_ret (v := .tuple #[.agg #[.int .i64 0, .string ⟨#[]⟩, .int .i64 0, .int .i64 0], .int .i64 0, .int .i64 32]) ?_ rfl ⟨refEnds_err HNO.out, ?_⟩
            · simp [results, Tryz.results64, go_sem, *]
            · first | exact w1 | exact (Ext.refl _).alloc _
          · have hno : nextT (s.drop at_) = .ok ⟨3, y, 0, k - (at_ + 1) + 2⟩ := by rw [HNO.out, if_neg (by omega)]
            have HNO := hid hno
            have h64' : ¬ 64 < (k : Int) - at_ - 1 := by omega
            have hcv := run_string_of hx3 _ _ _ Tryz.underlying22 Tryz.underlying5 Tryz.underlying9 _ (cap - (at_ + 1)) hxl
            clear hno hxl
            go_wp2_with fail
            refine bodyPost_ret (v := .tuple #[.agg #[.int .i64 3, .string ⟨y.toArray⟩, .int .i64 0, .int .i64 at_], .int .i64 (k + 1), .int .i64 0]) ?_ rfl ⟨refEnds_ok (m := k + 1) HNO.out (by omega), ?_⟩
            · simp [results, Tryz.results64, go_sem, *]
            · first | exact w1 | exact (Ext.refl _).alloc _
        · have hno : nextT (s.drop at_) = .error 31 := by rw [HXK.out, if_pos (by rw [← u8_ne]; rw [HXX.out]; exact g3)]
          have HNO := hid hno
          clear hno hxk hz hdk hx
          go_wp2_with fail
          refine bodyPost_ret (v := .tuple #[.agg #[.int .i64 0, .string ⟨#[]⟩, .int .i64 0, .int .i64 0], .int .i64 0, .int .i64 31]) ?_ rfl ⟨refEnds_err HNO.out, ?_⟩
          · simp [results, Tryz.results64, go_sem, *]
          · first | exact w1 | exact (Ext.refl _).alloc _
    · have hno : nextT (s.drop at_) = .error 31 := by
        have hz : spanLen isTextByte (s.drop k) = 0 := by rw [List.drop_of_length_le (by omega)]; rfl
        have hxk := HX.out k (by have := hsum.out; omega)
        rw [hxk, List.drop_of_length_le (by omega)]
      have HNO := hid hno
      clear hno
      go_wp2_with fail
      refine bodyPost_ret (v := .tuple #[.agg #[.int .i64 0, .string ⟨#[]⟩, .int .i64 0, .int .i64 0], .int .i64 0, .int .i64 31]) ?_ rfl ⟨refEnds_err HNO.out, ?_⟩
      · simp [results, Tryz.results64, go_sem, *]
      · first | exact w1 | exact (Ext.refl _).alloc _
end Go.Proofs.YtaehlakefgnfmaaGreatDoor
/-
  DERIVED. THE WALKS of the reference's tokens, further: a sign, the next token.
-/
set_option linter.unusedSimpArgs false
set_option linter.unusedVariables false
set_option maxRecDepth 100000
namespace Go.Proofs.YtaehlakefgnfmaaGreatDoor
open Go.RowKit

theorem signs_parts (x : List UInt8) : signs.contains x = (inL twos x || inL ones x) := by
  unfold signs inL
  simp only [List.contains_eq_any_beq, List.any_append]
theorem nextT_sign {s : List UInt8} {at_ : Nat} (hat : at_ < s.length) (hl : isLetter s[at_] = false) (hd : isDigit s[at_] = false) (h34 : s[at_] ≠ 34) :
    nextT (s.drop at_) = if (signAt (s.drop at_)).isEmpty then .error 31 else .ok ⟨4, signAt (s.drop at_), 0, (signAt (s.drop at_)).length⟩ := by
  generalize hq : s.drop at_ = q
  have hq' := drop_getElem s at_ hat
  rw [hq] at hq'
  subst hq'
  have hb : (s[at_] == 34) = false := by simpa using h34
  simp only [nextT, hl, hd, hb, Bool.false_eq_true, if_false]
/-- What is known of the sign when the texts longer than n were no signs. -/
def SignDown (q : List UInt8) (n : Nat) : Prop := ∀ m, n < m → m ≤ 2 → m ≤ q.length → signs.contains (q.take m) = false
theorem signDown_hit {q : List UInt8} {n : Nat} (h : SignDown q n) (h1 : 1 ≤ n) (h2 : n ≤ 2) (hq : n ≤ q.length) (hc : signs.contains (q.take n) = true) : signAt q = q.take n := by
  unfold signAt
  rcases (show n = 1 ∨ n = 2 by omega) with rfl | rfl
  · by_cases hl : 2 ≤ q.length
    · rw [if_neg (by rw [h 2 (by omega) (by omega) hl]; simp), if_pos hc]
    · have : q.take 2 = q.take 1 := by rw [List.take_of_length_le (by omega), List.take_of_length_le (by omega)]
      rw [this, if_pos hc]
  · rw [if_pos hc]
theorem signDown_none {q : List UInt8} (h : SignDown q 0) (hq : 1 ≤ q.length) : signAt q = [] := by
  unfold signAt
  have h1 := h 1 (by omega) (by omega) hq
  by_cases hl : 2 ≤ q.length
  · rw [if_neg (by rw [h 2 (by omega) (by omega) hl]; simp), if_neg (by rw [h1]; simp)]
  · have : q.take 2 = q.take 1 := by rw [List.take_of_length_le (by omega), List.take_of_length_le (by omega)]
    rw [this, if_neg (by rw [h1]; simp), if_neg (by rw [h1]; simp)]
theorem signDown_next {q : List UInt8} {n : Nat} (h : SignDown q n) (hc : n ≤ q.length → signs.contains (q.take n) = false) : SignDown q (n - 1) := by
  intro m hm h2 hq
  by_cases hmn : m = n
  · subst hmn; exact hc hq
  · exact h m (by omega) h2 hq

set_option maxHeartbeats 2000000 in
theorem rsign_any (w : World) (a : Option Addr) (s : List UInt8) (cap at_ : Nat) (hs : BytesAt w a s) (hlen : s.length ≤ 140737488355328) (hcap : s.length ≤ cap) (hat : at_ < s.length) (hl : isLetter s[at_] = false) (hd : isDigit s[at_] = false) (H34 : Hid (s[at_] ≠ 34)) :
    Calls Tryz.prog 65 #[.slice a s.length cap, .int .i64 at_] w fun e w' => refEnds (nextT (s.drop at_)) at_ e ∧ Ext w w' := by
  obtain ⟨b, off, rfl, hc⟩ := hs.at hat
  have HX := hid (nextT_sign hat hl hd H34.out)
  have w1 : Ext w (w.alloc (.cells #[.int .i64 0, .string ⟨#[]⟩, .int .i64 0, .int .i64 0] 63)) := (Ext.refl w).alloc _
  have br0 := Blk.new w 63 [Value.int .i64 0, .string ⟨#[]⟩, .int .i64 0, .int .i64 0]
  have hql : (s.drop at_).length = s.length - at_ := List.length_drop ..
  go_enter Tryz.func65, Tryz.ntmps65
  go_wp2_with fail
  go_loopw [7] (fun i wr => ∃ n : Nat, n ≤ 2 ∧ i = .int .i64 n ∧ Ext (w.alloc (.cells #[.int .i64 0, .string ⟨#[]⟩, .int .i64 0, .int .i64 0] 63)) wr ∧ Hid (SignDown (s.drop at_) n)) (fun i _ => (intOf i).toNat)
  case atStart => exact ⟨2, by omega, rfl, Ext.refl _, fun m h1 h2 _ => by omega⟩
  case round =>
    obtain ⟨n, hn, rfl, he, hdn⟩ := hrel
    have e0 : Ext w wr := w1.trans he
    obtain ⟨r0, r1, r2, r3, rf⟩ := (br0.ext he).four
    by_cases hn0 : 0 < n
    · by_cases hfit : at_ + n ≤ s.length
      · have hx := (hs.ext e0).part at_ n
        obtain ⟨x, hxd⟩ : ∃ x, x = (s.drop at_).take n := ⟨_, rfl⟩
        have hxl : x.length = at_ + n - at_ := by rw [hxd, List.length_take, hql]; omega
        rw [← hxd] at hx
        have hcv : (convert 22 9 (.slice (some ⟨b, off + at_, none⟩) n (cap - at_))).run Tryz.prog wr = .ok (.string ⟨x.toArray⟩) wr :=
          run_string_of hx _ _ _ Tryz.underlying22 Tryz.underlying5 Tryz.underlying9 _ _ (by omega)
        have hA : CellsAt (wr.alloc (.cells (twos.map strV).toArray 9)) (some ⟨wr.heap.size, 0, none⟩) (twos.map strV) := CellsAt.new wr _ _
        have hA2 := hA.ext ((Ext.refl _).alloc (.cells (ones.map strV).toArray 9))
        have hB : CellsAt ((wr.alloc (.cells (twos.map strV).toArray 9)).alloc (.cells (ones.map strV).toArray 9)) (some ⟨wr.heap.size + 1, 0, none⟩) (ones.map strV) := by
          have := CellsAt.new (wr.alloc (.cells (twos.map strV).toArray 9)) 9 (ones.map strV)
          rw [World.size_alloc] at this
          exact this
        have L1 := rin_any _ _ 6 twos ⟨x.toArray⟩ hA2 (by decide)
        have L2 := rin_any _ _ 16 ones ⟨x.toArray⟩ hB (by decide)
        have HL1 := hid L1
        have HL2 := hid L2
        have hsp := signs_parts x
        have HXD := hid hxd
        have HXL := hid hxl
        have HSP := hid hsp
        have e2 : Ext w ((wr.alloc (.cells (twos.map strV).toArray 9)).alloc (.cells (ones.map strV).toArray 9)) := (e0.alloc _).alloc _
        obtain ⟨r0', r1', r2', r3', rf'⟩ := (br0.ext ((he.alloc (.cells (twos.map strV).toArray 9)).alloc (.cells (ones.map strV).toArray 9))).four
        have hat64 : (at_ : Int) + n ≤ s.length := by omega
        clear L1 L2 hA hA2 hB hx hxd hxl hsp
        cases hI2 : inL twos x with
        | true =>
          have hno : nextT (s.drop at_) = .ok ⟨4, x, 0, n⟩ := by
            have hsg := signDown_hit hdn.out (by omega) hn (by rw [hql]; omega) (by rw [← HXD.out, HSP.out, hI2]; first | rfl | simp)
            rw [HX.out, hsg, ← HXD.out]
            have : x ≠ [] := by intro h; have := HXL.out; rw [h] at this; simp at this; omega
            rw [if_neg (by simpa using this)]
            rw [show x.length = n by have := HXL.out; omega]
          have HNO := hid hno
          have HI2 := hid hI2
          clear hno hI2
          go_wp2_with fail
          refine HL1.out.mono ?_
          rintro e w' ⟨rfl, rfl⟩
          rw [HI2.out]
          go_wp2_with fail
          refine bodyPost_ret (v := .tuple #[.agg #[.int .i64 4, .string ⟨x.toArray⟩, .int .i64 0, .int .i64 at_], .int .i64 ((at_ : Int) + n), .int .i64 0]) ?_ rfl ⟨refEnds_ok HNO.out (by omega), ?_⟩
          · simp [results, Tryz.results65, go_sem, *]
          · repeat (with_reducible first | exact e2 | apply Ext.drew | refine Ext.setCell ?_ ?_ _)
            all_goals exact Nat.le_refl _
        | false =>
          have HI2 := hid hI2
          cases hI1 : inL ones x with
          | true =>
            have hno : nextT (s.drop at_) = .ok ⟨4, x, 0, n⟩ := by
              have hsg := signDown_hit hdn.out (by omega) hn (by rw [hql]; omega) (by rw [← HXD.out, HSP.out, HI2.out, hI1]; first | rfl | simp)
              rw [HX.out, hsg, ← HXD.out]
              have : x ≠ [] := by intro h; have := HXL.out; rw [h] at this; simp at this; omega
              rw [if_neg (by simpa using this)]
              rw [show x.length = n by have := HXL.out; omega]
            have HNO := hid hno
            have HI1 := hid hI1
            clear hno hI2 hI1
            go_wp2_with fail
            refine HL1.out.mono ?_
            rintro e w' ⟨rfl, rfl⟩
            rw [HI2.out]
            go_wp2_with fail
            refine HL2.out.mono ?_
            rintro e w' ⟨rfl, rfl⟩
            rw [HI1.out]
            go_wp2_with fail
            refine bodyPost_ret (v := .tuple #[.agg #[.int .i64 4, .string ⟨x.toArray⟩, .int .i64 0, .int .i64 at_], .int .i64 ((at_ : Int) + n), .int .i64 0]) ?_ rfl ⟨refEnds_ok HNO.out (by omega), ?_⟩
            · simp [results, Tryz.results65, go_sem, *]
            · repeat (with_reducible first | exact e2 | apply Ext.drew | refine Ext.setCell ?_ ?_ _)
              all_goals exact Nat.le_refl _
          | false =>
            have HM := hid (signDown_next hdn.out (fun _ => by rw [← HXD.out, HSP.out, HI2.out, hI1]; rfl))
            have HI1 := hid hI1
            clear hI2 hI1
            go_wp2_with fail
            refine HL1.out.mono ?_
            rintro e w' ⟨rfl, rfl⟩
            rw [HI2.out]
            go_wp2_with fail
            refine HL2.out.mono ?_
            rintro e w' ⟨rfl, rfl⟩
            rw [HI1.out]
            go_wp2_with fail
            go_round
            case rel => exact ⟨n - 1, by omega, by go_num, (he.alloc _).alloc _, HM.out⟩
            case measure => simp [intOf]; omega
      · have HM := hid (signDown_next hdn.out (fun h => by rw [hql] at h; omega))
        go_wp2_with fail
        go_round
        case rel => exact ⟨n - 1, by omega, by go_num, he, HM.out⟩
        case measure => simp [intOf]; omega
    · have hno : nextT (s.drop at_) = .error 31 := by
        obtain rfl : n = 0 := by omega
        rw [HX.out, signDown_none hdn.out (by rw [hql]; omega)]
        rfl
      have HNO := hid hno
      clear hno
      go_wp2_with fail
      refine bodyPost_ret (v := .tuple #[.agg #[.int .i64 0, .string ⟨#[]⟩, .int .i64 0, .int .i64 0], .int .i64 0, .int .i64 31]) ?_ rfl ⟨refEnds_err HNO.out, ?_⟩
      · simp [results, Tryz.results65, go_sem, *]
      · repeat (with_reducible first | exact e0 | apply Ext.drew | refine Ext.setCell ?_ ?_ _)
        all_goals exact Nat.le_refl _
end Go.Proofs.YtaehlakefgnfmaaGreatDoor
