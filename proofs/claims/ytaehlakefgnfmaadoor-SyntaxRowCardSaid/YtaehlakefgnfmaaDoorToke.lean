/-
  DERIVED. THE WALKS of package token, further: the next token, a text or a sign.
-/
import Derived.Test.YtaehlakefgnfmaaDoorTokd
namespace Go.Proofs.YtaehlakefgnfmaaDoor
set_option linter.unusedSimpArgs false
set_option linter.unusedVariables false
set_option maxRecDepth 100000
open Go.RowKit

set_option maxHeartbeats 1000000 in
theorem next_text (w : World) (a : Option Addr) (s : List UInt8) (cap at_ : Nat) (hs : BytesAt w a s) (hlen : s.length ≤ 140737488355328) (hcap : s.length ≤ cap) (hat : at_ < s.length)
    (hl : isLetter s[at_] = false) (hd : isDigit s[at_] = false) (H34 : Hid (s[at_] = 34)) :
    Calls Tryd.prog 24 #[.slice a s.length cap, .int .i64 at_] w fun e w' => nextEnds (nextT (s.drop at_)) at_ e ∧ Ext w w' := by
  obtain ⟨b, off, rfl, hc⟩ := hs.at hat
  have hb := World.block_lt_of_cell? _ _ hc
  go_enter Tryd.func24, Tryd.ntmps24
  go_wp2_with fail
  refine (between_any _ 48 57).mono ?_
  rintro e w1 ⟨cd, rfl, hdig, e1⟩
  go_wp2_with fail
  refine (between_any w1 97 122).mono ?_
  rintro e w2 ⟨cl, rfl, hlet, e2⟩
  have e02 : Ext w w2 := (((Ext.refl w).alloc _).alloc _).trans (e1.trans e2)
  have bt0 := ((Blk.new (w.alloc (.cells [Value.int .i64 0, .string ⟨#[]⟩, .int .i64 0, .int .i64 0].toArray 75)) 75 [Value.int .i64 0, .string ⟨#[]⟩, .int .i64 0, .int .i64 at_]).ext e1).ext e2
  have br0 := (((Blk.new w 75 [Value.int .i64 0, .string ⟨#[]⟩, .int .i64 0, .int .i64 0]).alloc (.cells [Value.int .i64 0, .string ⟨#[]⟩, .int .i64 0, .int .i64 at_].toArray 75)).ext e1).ext e2
  rw [World.size_alloc] at bt0
  have hc2 := e02.cell hc
  have hdig2 := hdig.ext e2
  have hlet2 := hlet.says w2 (Ext.refl _) s[at_]
  simp only [letter_eq, hl] at hlet2
  have hl2 := hid hlet2
  clear hlet2
  go_wp2_with fail
  refine hl2.out.mono ?_
  rintro e w3 ⟨rfl, e3⟩
  have hdig3 := hdig2.says w3 e3 s[at_]
  simp only [digit_eq, hd] at hdig3
  have hd3 := hid hdig3
  clear hdig3
  go_wp2_with fail
  refine hd3.out.mono ?_
  rintro e w4 ⟨rfl, e4⟩
  have e04 := e02.trans (e3.trans e4)
  have bt4 := (bt0.ext e3).ext e4
  have br4 := (br0.ext e3).ext e4
  have hdig4 := (hdig2.ext e3).ext e4
  clear bt0 br0 hdig hlet hdig2 hl2 hd3 hc2
  have hc34 : ((s[at_].toNat : Int) == 34) = true := by rw [H34.out]; rfl
  go_wp2_with fail
  refine (span_any w4 _ s cap (at_ + 1) _ _ isTextByte (hs.ext e04) hlen (by omega) (next1_decides w4)).mono ?_
  rintro e w6 ⟨rfl, e6⟩
  have e06 := e04.trans e6
  have bt6 := bt4.ext e6
  have br6 := br4.ext e6
  have hk2 := spanLen_le isTextByte (s.drop (at_ + 1))
  rw [List.length_drop] at hk2
  obtain ⟨k, hk⟩ : ∃ k, k = spanLen isTextByte (s.drop (at_ + 1)) := ⟨_, rfl⟩
  obtain ⟨m, hm⟩ : ∃ m, m = at_ + 1 + k := ⟨_, rfl⟩
  rw [← hk, ← hm]
  have hm1 : at_ + 1 ≤ m := by omega
  have hm2 : m ≤ s.length := by omega
  have hnx : nextT (s.drop at_) = match s.drop m with | [] => .error 31 | d :: _ => if d != 34 then .error 31 else if k > 64 then .error 32 else .ok ⟨3, (s.drop (at_ + 1)).take k, 0, k + 2⟩ := by
    rw [hm, ← List.drop_drop, hk]
    generalize hq : s.drop at_ = q
    have hq' := drop_getElem s at_ hat
    rw [hq] at hq'
    rw [show s.drop (at_ + 1) = q.drop 1 by rw [← hq, List.drop_drop]]
    subst hq'
    have hb : (s[at_] == 34) = true := by rw [H34.out]; rfl
    simp only [nextT, hl, hd, hb, if_true, Bool.false_eq_true, if_false, List.drop_succ_cons, List.drop_zero]
    generalize List.drop (spanLen isTextByte _) _ = o
    cases o <;> rfl
  have hx := hs.part (at_ + 1) k
  have HX := hid hnx
  have HM := hid hm
  clear hk2 hk bt4 br4 hnx hm
  obtain ⟨c0, c1, c2, c3, cf⟩ := bt6.four
  obtain ⟨r0, r1, r2, r3, rf⟩ := br6.four
  clear bt6 br6
  by_cases hend : m = s.length
  · have hee : ((m : Int) == (s.length : Int)) = true := by simp; omega
    have hno : nextT (s.drop at_) = .error 31 := by rw [HX.out, List.drop_of_length_le (i := m) (by omega)]
    have HNO := hid hno
    clear hno HX hx hend
    go_wp2_with fail
    refine bodyPost_ret (v := .tuple #[.agg #[.int .i64 0, .string ⟨#[]⟩, .int .i64 0, .int .i64 at_], .int .i64 0, .int .i64 31]) ?_ rfl ⟨nextEnds_err HNO.out, ?_⟩
    · simp [results, Tryd.results24, go_sem, *]
    · repeat (with_reducible first | exact e06 | apply Ext.drew | refine Ext.setCell ?_ ?_ _)
      all_goals simp
  · have hlt : m < s.length := by omega
    have hee : ((m : Int) == (s.length : Int)) = false := by simp; omega
    obtain ⟨b', off', hbo, hcm⟩ := (hs.ext e06).at hlt
    simp only [Option.some.injEq, Addr.mk.injEq, and_true] at hbo
    obtain ⟨rfl, rfl⟩ := hbo
    have hnx : nextT (s.drop at_) = if s[m] != 34 then .error 31 else if k > 64 then .error 32 else .ok ⟨3, (s.drop (at_ + 1)).take k, 0, k + 2⟩ := by
      rw [HX.out, drop_getElem s m hlt]
    have HX2 := hid hnx
    clear HX hnx
    by_cases hq : s[m] = 34
    · have hqi : ((s[m].toNat : Int) != 34) = false := by rw [hq]; rfl
      have hnx : nextT (s.drop at_) = if k > 64 then .error 32 else .ok ⟨3, (s.drop (at_ + 1)).take k, 0, k + 2⟩ := by
        rw [HX2.out, hq]; rfl
      have HX := hid hnx
      clear HX2 hnx hq hend
      have hxl : ((s.drop (at_ + 1)).take k).length = m - (at_ + 1) := by have := HM.out; simp; omega
      generalize (s.drop (at_ + 1)).take k = x at hx HX hxl
      have hml : m ≤ 140737488355328 := by omega
      by_cases hk64 : 64 < m - at_ - 1
      · have hk64' : 64 < (m : Int) - at_ - 1 := by omega
        have HK := hid hk64
        clear hk64
        go_wp2_with fail
        refine bodyPost_ret (v := .tuple #[.agg #[.int .i64 0, .string ⟨#[]⟩, .int .i64 0, .int .i64 at_], .int .i64 0, .int .i64 32]) ?_ rfl ⟨nextEnds_err (by rw [HX.out, if_pos (by have := HM.out; have := HK.out; omega)]), ?_⟩
        · simp [results, Tryd.results24, go_sem, *]
        · repeat (with_reducible first | exact e06 | apply Ext.drew | refine Ext.setCell ?_ ?_ _)
          all_goals simp
      · have hk64' : ¬ 64 < (m : Int) - at_ - 1 := by omega
        have HK := hid hk64
        have HXL := hid hxl
        have hcv : ∀ w', Ext w w' → (convert 22 9 (.slice (some ⟨b, off + (at_ + 1), none⟩) (m - (at_ + 1)) (cap - (at_ + 1)))).run Tryd.prog w' = .ok (.string ⟨x.toArray⟩) w' := fun w' e =>
          run_string_of (hx.ext e) _ _ _ Tryd.underlying22 Tryd.underlying5 Tryd.underlying9 _ _ hxl
        have v1 := hcv w6.drew e06.drew
        have v2 := hcv ((w6.setCell ⟨w.heap.size + 1, 0, none⟩ (.int .i64 3)).drew) (e06.setCell (by simp) _).drew
        clear hk64 hcv hxl hx
        go_wp2_with fail
        go_region
        clear v1 v2
        go_wp2_with fail
        refine bodyPost_ret (v := .tuple #[.agg #[.int .i64 3, .string ⟨x.toArray⟩, .int .i64 0, .int .i64 at_], .int .i64 (m + 1), .int .i64 0]) ?_ rfl ⟨nextEnds_ok (m := m + 1) (by rw [HX.out, if_neg (by have := HM.out; have := HK.out; omega)]) (by have := HM.out; omega), ?_⟩
        · simp [results, Tryd.results24, go_sem, *]
        · repeat (with_reducible first | exact e06 | apply Ext.drew | refine Ext.setCell ?_ ?_ _)
          all_goals simp
    · have hqi : ((s[m].toNat : Int) != 34) = true := by rw [show ((34 : Int)) = ((34 : UInt8).toNat : Int) from rfl, u8_ne]; simpa using hq
      have hno : nextT (s.drop at_) = .error 31 := by rw [HX2.out, if_pos (by simpa using hq)]
      have HNO := hid hno
      clear hno HX2 hq hx
      go_wp2_with fail
      refine bodyPost_ret (v := .tuple #[.agg #[.int .i64 0, .string ⟨#[]⟩, .int .i64 0, .int .i64 at_], .int .i64 0, .int .i64 31]) ?_ rfl ⟨nextEnds_err HNO.out, ?_⟩
      · simp [results, Tryd.results24, go_sem, *]
      · repeat (with_reducible first | exact e06 | apply Ext.drew | refine Ext.setCell ?_ ?_ _)
        all_goals simp

set_option maxHeartbeats 1000000 in
theorem next_sign (w : World) (a : Option Addr) (s : List UInt8) (cap at_ : Nat) (hs : BytesAt w a s) (hlen : s.length ≤ 140737488355328) (hcap : s.length ≤ cap) (hat : at_ < s.length)
    (hl : isLetter s[at_] = false) (hd : isDigit s[at_] = false) (H34 : Hid (s[at_] ≠ 34)) :
    Calls Tryd.prog 24 #[.slice a s.length cap, .int .i64 at_] w fun e w' => nextEnds (nextT (s.drop at_)) at_ e ∧ Ext w w' := by
  obtain ⟨b, off, rfl, hc⟩ := hs.at hat
  have hb := World.block_lt_of_cell? _ _ hc
  go_enter Tryd.func24, Tryd.ntmps24
  go_wp2_with fail
  refine (between_any _ 48 57).mono ?_
  rintro e w1 ⟨cd, rfl, hdig, e1⟩
  go_wp2_with fail
  refine (between_any w1 97 122).mono ?_
  rintro e w2 ⟨cl, rfl, hlet, e2⟩
  have e02 : Ext w w2 := (((Ext.refl w).alloc _).alloc _).trans (e1.trans e2)
  have bt0 := ((Blk.new (w.alloc (.cells [Value.int .i64 0, .string ⟨#[]⟩, .int .i64 0, .int .i64 0].toArray 75)) 75 [Value.int .i64 0, .string ⟨#[]⟩, .int .i64 0, .int .i64 at_]).ext e1).ext e2
  have br0 := (((Blk.new w 75 [Value.int .i64 0, .string ⟨#[]⟩, .int .i64 0, .int .i64 0]).alloc (.cells [Value.int .i64 0, .string ⟨#[]⟩, .int .i64 0, .int .i64 at_].toArray 75)).ext e1).ext e2
  rw [World.size_alloc] at bt0
  have hc2 := e02.cell hc
  have hdig2 := hdig.ext e2
  have hlet2 := hlet.says w2 (Ext.refl _) s[at_]
  simp only [letter_eq, hl] at hlet2
  have hl2 := hid hlet2
  clear hlet2
  go_wp2_with fail
  refine hl2.out.mono ?_
  rintro e w3 ⟨rfl, e3⟩
  have hdig3 := hdig2.says w3 e3 s[at_]
  simp only [digit_eq, hd] at hdig3
  have hd3 := hid hdig3
  clear hdig3
  go_wp2_with fail
  refine hd3.out.mono ?_
  rintro e w4 ⟨rfl, e4⟩
  have e04 := e02.trans (e3.trans e4)
  have bt4 := (bt0.ext e3).ext e4
  have br4 := (br0.ext e3).ext e4
  have hdig4 := (hdig2.ext e3).ext e4
  clear bt0 br0 hdig hlet hdig2 hl2 hd3 hc2
  have hc34 : ((s[at_].toNat : Int) == 34) = false := by
    have := u8_ne s[at_] 34
    cases hb : ((s[at_].toNat : Int) == 34) with
    | false => rfl
    | true => rw [bne_iff_ne.2 H34.out] at this; exfalso; simp at hb this; omega
  have hnx : nextT (s.drop at_) = if (signAt (s.drop at_)).isEmpty then .error 31 else .ok ⟨4, signAt (s.drop at_), 0, (signAt (s.drop at_)).length⟩ := by
    generalize hq : s.drop at_ = q
    have hq' := drop_getElem s at_ hat
    rw [hq] at hq'
    subst hq'
    have hb : (s[at_] == 34) = false := by simpa using H34.out
    simp only [nextT, hl, hd, hb, Bool.false_eq_true, if_false]
  have HX := hid hnx
  clear hnx
  go_wp2_with fail
  refine (sign_any w4 _ s cap at_ (hs.ext e04) hlen hcap hat).mono ?_
  rintro e w6 ⟨rfl, e6⟩
  have e06 := e04.trans e6
  obtain ⟨c0, c1, c2, c3, cf⟩ := (bt4.ext e6).four
  obtain ⟨r0, r1, r2, r3, rf⟩ := (br4.ext e6).four
  clear bt4 br4
  have hxl : (signAt (s.drop at_)).length ≤ 2 := by
    unfold signAt
    split
    · simp; omega
    · split
      · simp; omega
      · simp
  generalize signAt (s.drop at_) = x at HX hxl
  by_cases hx0 : x = []
  · have hno : nextT (s.drop at_) = .error 31 := by rw [HX.out, hx0]; rfl
    have HNO := hid hno
    subst hx0
    clear hno HX
    go_wp2_with fail
    refine bodyPost_ret (v := .tuple #[.agg #[.int .i64 4, .string ⟨#[]⟩, .int .i64 0, .int .i64 at_], .int .i64 0, .int .i64 31]) ?_ rfl ⟨nextEnds_err HNO.out, ?_⟩
    · simp [results, Tryd.results24, go_sem, *]
    · repeat (with_reducible first | exact e06 | apply Ext.drew | refine Ext.setCell ?_ ?_ _)
      all_goals simp
  · have hno : nextT (s.drop at_) = .ok ⟨4, x, 0, x.length⟩ := by rw [HX.out, if_neg (by simpa using hx0)]
    have HNO := hid hno
    have hem : x.isEmpty = false := by simpa using hx0
    have hte : (ByteArray.mk x.toArray).toList.isEmpty = false := by rw [ByteArray.toList_eq]; simpa using hx0
    have hsz : (ByteArray.mk x.toArray).size = x.length := by simp [ByteArray.size]
    clear hno HX
    go_wp2_with fail
    go_region
    go_wp2_with fail
    refine bodyPost_ret (v := .tuple #[.agg #[.int .i64 4, .string ⟨x.toArray⟩, .int .i64 0, .int .i64 at_], .int .i64 (at_ + x.length), .int .i64 0]) ?_ rfl ⟨nextEnds_ok (m := at_ + x.length) HNO.out rfl, ?_⟩
    · simp [results, Tryd.results24, go_sem, *]
    · repeat (with_reducible first | exact e06 | apply Ext.drew | refine Ext.setCell ?_ ?_ _)
      all_goals simp

/-- WHATEVER THE TEXT: the token at a place. -/
theorem next_any (w : World) (a : Option Addr) (s : List UInt8) (cap at_ : Nat) (hs : BytesAt w a s) (hlen : s.length ≤ 140737488355328) (hcap : s.length ≤ cap) (hat : at_ < s.length) :
    Calls Tryd.prog 24 #[.slice a s.length cap, .int .i64 at_] w fun e w' => nextEnds (nextT (s.drop at_)) at_ e ∧ Ext w w' := by
  cases hl : isLetter s[at_] with
  | true => exact next_name w a s cap at_ hs hlen hcap hat hl
  | false =>
    cases hd : isDigit s[at_] with
    | true => exact next_number w a s cap at_ hs hlen hcap hat hl hd
    | false =>
      by_cases h34 : s[at_] = 34
      · exact next_text w a s cap at_ hs hlen hcap hat hl hd h34
      · exact next_sign w a s cap at_ hs hlen hcap hat hl hd h34
end Go.Proofs.YtaehlakefgnfmaaDoor
