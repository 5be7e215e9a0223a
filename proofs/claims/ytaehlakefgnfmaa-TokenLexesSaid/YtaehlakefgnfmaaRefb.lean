/-
  DERIVED. THE WALKS of the reference's tokens, further: a name, a number, a text, a sign.
-/
import Derived.Test.YtaehlakefgnfmaaRef
set_option linter.unusedSimpArgs false
set_option linter.unusedVariables false
namespace Go.Proofs.Ytaehlakefgnfmaa
open Go.RowKit

/-- What the reference's next answers. -/
def refEnds (o : Except Nat Bit) (at_ : Nat) (e : Ending) : Prop :=
  match o with
  | .ok b => e = .returned (.tuple #[.agg #[.int .i64 b.kind, .string ⟨b.text.toArray⟩, .int .i64 b.num, .int .i64 at_], .int .i64 (at_ + b.len : Nat), .int .i64 0])
  | .error x => e = .returned (.tuple #[.agg #[.int .i64 0, .string ⟨#[]⟩, .int .i64 0, .int .i64 0], .int .i64 0, .int .i64 x])
theorem refEnds_ok {o : Except Nat Bit} {at_ k num m : Nat} {t : List UInt8} {len : Nat} (h : o = .ok ⟨k, t, num, len⟩) (hm : m = at_ + len) :
    refEnds o at_ (.returned (.tuple #[.agg #[.int .i64 k, .string ⟨t.toArray⟩, .int .i64 num, .int .i64 at_], .int .i64 m, .int .i64 0])) := by
  subst h; subst hm; rfl
theorem refEnds_err {o : Except Nat Bit} {at_ x : Nat} (h : o = .error x) :
    refEnds o at_ (.returned (.tuple #[.agg #[.int .i64 0, .string ⟨#[]⟩, .int .i64 0, .int .i64 0], .int .i64 0, .int .i64 x])) := by
  subst h; rfl
theorem span_more (p : UInt8 → Bool) (l : List UInt8) (k : Nat) (h : k < l.length) (hp : p l[k] = true) : spanLen p (l.drop k) = spanLen p (l.drop (k + 1)) + 1 := by
  rw [drop_getElem l k h]; simp only [spanLen, hp, if_true]
theorem span_end (p : UInt8 → Bool) (l : List UInt8) (k : Nat) (h : k < l.length) (hp : p l[k] = false) : spanLen p (l.drop k) = 0 := by
  rw [drop_getElem l k h]; simp only [spanLen, hp, Bool.false_eq_true, if_false]

set_option maxHeartbeats 2000000 in
theorem rname_any (w : World) (a : Option Addr) (s : List UInt8) (cap at_ : Nat) (hs : BytesAt w a s) (hlen : s.length ≤ 140737488355328) (hcap : s.length ≤ cap) (hat : at_ < s.length) (hl : isLetter s[at_] = true) :
    Calls Try.prog 31 #[.slice a s.length cap, .int .i64 at_] w fun e w' => refEnds (nextT (s.drop at_)) at_ e ∧ Ext w w' := by
  obtain ⟨b, off, rfl, hc⟩ := hs.at hat
  have hb := World.block_lt_of_cell? _ _ hc
  have hk1 : 0 < spanLen isNameByte (s.drop at_) := by rw [drop_getElem s at_ hat]; simp [spanLen, isNameByte, hl]
  have hk2 := spanLen_le isNameByte (s.drop at_)
  rw [List.length_drop] at hk2
  obtain ⟨m, hm⟩ : ∃ m, m = at_ + spanLen isNameByte (s.drop at_) := ⟨_, rfl⟩
  have hm1 : at_ < m := by omega
  have hm2 : m ≤ s.length := by omega
  have hx := hs.part at_ (m - at_)
  rw [show m - at_ = spanLen isNameByte (s.drop at_) by omega] at hx
  obtain ⟨x, hxd⟩ : ∃ x, x = (s.drop at_).take (spanLen isNameByte (s.drop at_)) := ⟨_, rfl⟩
  have hxl : x.length = m - at_ := by rw [hxd]; simp; omega
  rw [← hxd] at hx
  have hnx : nextT (s.drop at_) = if word x then .ok ⟨4, x, 0, x.length⟩ else if x.length > 16 then .error 32 else .ok ⟨1, x, 0, x.length⟩ := by
    rw [hxd]
    generalize hq : s.drop at_ = q
    have hq' := drop_getElem s at_ hat
    rw [hq] at hq'
    subst hq'
    simp only [nextT, hl, if_true]
  have HM := hid hm
  have HX := hid hnx
  have HL := hid hxl
  have w1 : Ext w (w.alloc (.cells #[.int .i64 0, .string ⟨#[]⟩, .int .i64 0, .int .i64 0] 33)) := (Ext.refl w).alloc _
  have hs1 := hs.ext w1
  have hcv : ∀ w', Ext w w' → (convert 22 9 (.slice (some ⟨b, off + at_, none⟩) (m - at_) (cap - at_))).run Try.prog w' = .ok (.string ⟨x.toArray⟩) w' := fun w' e =>
    run_string_of (hx.ext e) _ _ _ Try.underlying22 Try.underlying5 Try.underlying9 _ _ hxl
  have hcv1 := hcv _ w1
  clear hm hk1 hk2 hx hxd hnx hxl hcv
  go_enter Try.func31, Try.ntmps31
  go_wp2_with fail
  go_loop [7] (fun i => ∃ k : Nat, at_ ≤ k ∧ k ≤ s.length ∧ i = .int .i64 k ∧ Hid (at_ + spanLen isNameByte (s.drop at_) = k + spanLen isNameByte (s.drop k))) (fun i => s.length - (intOf i).toNat)
  case atStart => exact ⟨at_, by omega, by omega, rfl, rfl⟩
  case round =>
    obtain ⟨k, hka, hk, rfl, hsum⟩ := hrel
    by_cases hlt : k < s.length
    · obtain ⟨b', off', hbb, hck⟩ := hs1.at hlt
      simp only [Option.some.injEq, Addr.mk.injEq, and_true] at hbb
      obtain ⟨rfl, rfl⟩ := hbb
      cases hn : isNameByte s[k] with
      | true =>
        have HS := hid (span_more isNameByte s k hlt hn)
        have hor : isLetter s[k] = true ∨ (isLetter s[k] = false ∧ isDigit s[k] = true) ∨ (isLetter s[k] = false ∧ isDigit s[k] = false ∧ ((s[k].toNat : Int) == 95) = true) := by
          have h95 := u8_eqi s[k] 95
          revert hn
          simp only [isNameByte]
          rw [show ((95 : Int)) = ((95 : UInt8).toNat : Int) from rfl, h95]
          cases isLetter s[k] <;> cases isDigit s[k] <;> cases (s[k] == 95) <;> simp
        clear hn
        rcases hor with h1 | ⟨h1, h2⟩ | ⟨h1, h2, h3⟩
        · go_wp2_with (go_at_call 30; refine (rletter_any _ _).mono ?_; rintro e w' ⟨rfl, rfl⟩; rw [h1])
          go_round
          case rel => exact ⟨k + 1, by omega, by omega, by go_num, by have h1 := hsum.out; have h2 := HS.out; show _ = _; omega⟩
          case measure => simp [intOf]; omega
        · go_wp2_with (first | (go_at_call 30; refine (rletter_any _ _).mono ?_; rintro e w' ⟨rfl, rfl⟩; rw [h1]) | (go_at_call 32; refine (rdigit_any _ _).mono ?_; rintro e w' ⟨rfl, rfl⟩; rw [h2]))
          go_round
          case rel => exact ⟨k + 1, by omega, by omega, by go_num, by have h1 := hsum.out; have h2 := HS.out; show _ = _; omega⟩
          case measure => simp [intOf]; omega
        · go_wp2_with (first | (go_at_call 30; refine (rletter_any _ _).mono ?_; rintro e w' ⟨rfl, rfl⟩; rw [h1]) | (go_at_call 32; refine (rdigit_any _ _).mono ?_; rintro e w' ⟨rfl, rfl⟩; rw [h2]))
          go_round
          case rel => exact ⟨k + 1, by omega, by omega, by go_num, by have h1 := hsum.out; have h2 := HS.out; show _ = _; omega⟩
          case measure => simp [intOf]; omega
      | false =>
        have hz := span_end isNameByte s k hlt hn
        have hkm : k = m := by have h1 := hsum.out; have h2 := HM.out; omega
        have hall : isLetter s[k] = false ∧ isDigit s[k] = false ∧ ((s[k].toNat : Int) == 95) = false := by
          have h95 := u8_eqi s[k] 95
          revert hn
          simp only [isNameByte]
          rw [show ((95 : Int)) = ((95 : UInt8).toNat : Int) from rfl, h95]
          cases isLetter s[k] <;> cases isDigit s[k] <;> cases (s[k] == 95) <;> simp
        obtain ⟨h1, h2, h3⟩ := hall
        clear hz hn
        subst hkm
        go_wp2_with (first | (go_at_call 30; refine (rletter_any _ _).mono ?_; rintro e w' ⟨rfl, rfl⟩; rw [h1]) | (go_at_call 32; refine (rdigit_any _ _).mono ?_; rintro e w' ⟨rfl, rfl⟩; rw [h2]))
        refine (rword_any _ _).mono ?_
        rintro e w2 ⟨rfl, e2⟩
        have e02 := w1.trans e2
        have br := (Blk.new w 33 [Value.int .i64 0, .string ⟨#[]⟩, .int .i64 0, .int .i64 0]).ext e2
        obtain ⟨r0, r1, r2, r3, rf⟩ := br.four
        clear br
        by_cases hw : word x = true
        · simp only [List.toList_toArray, hw]
          go_wp2_with fail
          refine bodyPost_ret (v := .tuple #[.agg #[.int .i64 4, .string ⟨x.toArray⟩, .int .i64 0, .int .i64 at_], .int .i64 k, .int .i64 0]) ?_ rfl ⟨refEnds_ok (by rw [HX.out, if_pos hw]) (by have := HL.out; omega), ?_⟩
          · simp [results, Try.results31, go_sem, *]
          · repeat (with_reducible first | exact e02 | apply Ext.drew | refine Ext.setCell ?_ ?_ _)
            all_goals simp
        · have hwf : word x = false := by simpa using hw
          clear hw
          simp only [List.toList_toArray, hwf]
          by_cases hl16 : 16 < x.length
          · go_wp2_with fail
            refine bodyPost_ret (v := .tuple #[.agg #[.int .i64 0, .string ⟨#[]⟩, .int .i64 0, .int .i64 0], .int .i64 0, .int .i64 32]) ?_ rfl ⟨refEnds_err (by rw [HX.out, if_neg (by simp [hwf]), if_pos hl16]), ?_⟩
            · simp [results, Try.results31, go_sem, *]
            · repeat (with_reducible first | exact e02 | apply Ext.drew | refine Ext.setCell ?_ ?_ _)
              all_goals simp
          · go_wp2_with fail
            refine bodyPost_ret (v := .tuple #[.agg #[.int .i64 1, .string ⟨x.toArray⟩, .int .i64 0, .int .i64 at_], .int .i64 k, .int .i64 0]) ?_ rfl ⟨refEnds_ok (by rw [HX.out, if_neg (by simp [hwf]), if_neg hl16]) (by have := HL.out; omega), ?_⟩
            · simp [results, Try.results31, go_sem, *]
            · repeat (with_reducible first | exact e02 | apply Ext.drew | refine Ext.setCell ?_ ?_ _)
              all_goals simp
    · have hkm : k = m := by
        have h1 := hsum.out; have h2 := HM.out
        have h3 : spanLen isNameByte (s.drop k) = 0 := by rw [List.drop_of_length_le (by omega)]; rfl
        omega
      subst hkm
      go_wp2_with fail
      refine (rword_any _ _).mono ?_
      rintro e w2 ⟨rfl, e2⟩
      have e02 := w1.trans e2
      have br := (Blk.new w 33 [Value.int .i64 0, .string ⟨#[]⟩, .int .i64 0, .int .i64 0]).ext e2
      obtain ⟨r0, r1, r2, r3, rf⟩ := br.four
      clear br
      by_cases hw : word x = true
      · simp only [List.toList_toArray, hw]
        go_wp2_with fail
        refine bodyPost_ret (v := .tuple #[.agg #[.int .i64 4, .string ⟨x.toArray⟩, .int .i64 0, .int .i64 at_], .int .i64 k, .int .i64 0]) ?_ rfl ⟨refEnds_ok (by rw [HX.out, if_pos hw]) (by have := HL.out; omega), ?_⟩
        · simp [results, Try.results31, go_sem, *]
        · repeat (with_reducible first | exact e02 | apply Ext.drew | refine Ext.setCell ?_ ?_ _)
          all_goals simp
      · have hwf : word x = false := by simpa using hw
        clear hw
        simp only [List.toList_toArray, hwf]
        by_cases hl16 : 16 < x.length
        · go_wp2_with fail
          refine bodyPost_ret (v := .tuple #[.agg #[.int .i64 0, .string ⟨#[]⟩, .int .i64 0, .int .i64 0], .int .i64 0, .int .i64 32]) ?_ rfl ⟨refEnds_err (by rw [HX.out, if_neg (by simp [hwf]), if_pos hl16]), ?_⟩
          · simp [results, Try.results31, go_sem, *]
          · repeat (with_reducible first | exact e02 | apply Ext.drew | refine Ext.setCell ?_ ?_ _)
            all_goals simp
        · go_wp2_with fail
          refine bodyPost_ret (v := .tuple #[.agg #[.int .i64 1, .string ⟨x.toArray⟩, .int .i64 0, .int .i64 at_], .int .i64 k, .int .i64 0]) ?_ rfl ⟨refEnds_ok (by rw [HX.out, if_neg (by simp [hwf]), if_neg hl16]) (by have := HL.out; omega), ?_⟩
          · simp [results, Try.results31, go_sem, *]
          · repeat (with_reducible first | exact e02 | apply Ext.drew | refine Ext.setCell ?_ ?_ _)
            all_goals simp
end Go.Proofs.Ytaehlakefgnfmaa
