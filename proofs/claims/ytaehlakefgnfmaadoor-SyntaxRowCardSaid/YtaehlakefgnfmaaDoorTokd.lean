/-
  DERIVED. THE WALKS of package token, further: the next token.
-/
import Derived.Test.YtaehlakefgnfmaaDoorTokc
namespace Go.Proofs.YtaehlakefgnfmaaDoor
set_option linter.unusedSimpArgs false
set_option linter.unusedVariables false
set_option maxRecDepth 100000
open Go.RowKit

theorem under_eq (c : UInt8) : ((95 : UInt8) ≤ c && c ≤ 95) = (c == 95) := by
  rw [Bool.eq_iff_iff]; simp [UInt8.le_iff_toNat_le, ← UInt8.toNat_inj]; omega
theorem names_eq (f g h : FuncId) (x y z : Array Value) :
    anyOf [(f, x, fun c => (97 : UInt8) ≤ c && c ≤ 122), (g, y, fun c => (48 : UInt8) ≤ c && c ≤ 57), (h, z, fun c => (95 : UInt8) ≤ c && c ≤ 95)] = isNameByte := by
  funext c
  simp only [anyOf, List.any_cons, List.any_nil, Bool.or_false, under_eq, isNameByte, isLetter, isDigit, Bool.or_assoc]
theorem letter_eq (c : UInt8) : ((97 : UInt8) ≤ c && c ≤ 122) = isLetter c := rfl
theorem digit_eq (c : UInt8) : ((48 : UInt8) ≤ c && c ≤ 57) = isDigit c := rfl
theorem digits_eq : (fun c => (48 : UInt8) ≤ c && c ≤ 57) = isDigit := rfl

/-- What next answers. -/
def nextEnds (o : Except Nat Bit) (at_ : Nat) (e : Ending) : Prop :=
  match o with
  | .ok b => e = .returned (.tuple #[.agg #[.int .i64 b.kind, .string ⟨b.text.toArray⟩, .int .i64 b.num, .int .i64 at_], .int .i64 (at_ + b.len : Nat), .int .i64 0])
  | .error x => ∃ k t n, e = .returned (.tuple #[.agg #[.int .i64 k, .string t, .int .i64 n, .int .i64 at_], .int .i64 0, .int .i64 x])
theorem nextEnds_ok {o : Except Nat Bit} {at_ k num m : Nat} {t : List UInt8} {len : Nat} (h : o = .ok ⟨k, t, num, len⟩) (hm : m = at_ + len) :
    nextEnds o at_ (.returned (.tuple #[.agg #[.int .i64 k, .string ⟨t.toArray⟩, .int .i64 num, .int .i64 at_], .int .i64 m, .int .i64 0])) := by
  subst h; subst hm; rfl
theorem nextEnds_err {o : Except Nat Bit} {at_ x : Nat} {k n : Int} {t : ByteArray} (h : o = .error x) :
    nextEnds o at_ (.returned (.tuple #[.agg #[.int .i64 k, .string t, .int .i64 n, .int .i64 at_], .int .i64 0, .int .i64 x])) := by
  subst h; exact ⟨k, t, n, rfl⟩

set_option maxHeartbeats 1000000 in
theorem next_name (w : World) (a : Option Addr) (s : List UInt8) (cap at_ : Nat) (hs : BytesAt w a s) (hlen : s.length ≤ 140737488355328) (hcap : s.length ≤ cap) (hat : at_ < s.length)
    (hl : isLetter s[at_] = true) :
    Calls Tryd.prog 24 #[.slice a s.length cap, .int .i64 at_] w fun e w' => nextEnds (nextT (s.drop at_)) at_ e ∧ Ext w w' := by
  obtain ⟨b, off, rfl, hc⟩ := hs.at hat
  have hb := World.block_lt_of_cell? _ _ hc
  go_enter Tryd.func24, Tryd.ntmps24
  go_wp2_with fail
  refine (between_any _ 48 57).mono ?_
  rintro e w1 ⟨cd, rfl, hdig, e1⟩
  go_wp2_with fail
  refine (between_any w1 97 122).mono ?_
  rintro e w2 ⟨cl, rfl, hlet, e2⟩
  have e02 : Ext w w2 := (((Ext.refl w).alloc _).alloc _).trans (e1.trans e2)
  have bt0 := ((Blk.new (w.alloc (.cells [Value.int .i64 0, .string ⟨#[]⟩, .int .i64 0, .int .i64 0].toArray 75)) 75 [Value.int .i64 0, .string ⟨#[]⟩, .int .i64 0, .int .i64 at_]).ext e1).ext e2
  have br0 := (((Blk.new w 75 [Value.int .i64 0, .string ⟨#[]⟩, .int .i64 0, .int .i64 0]).alloc (.cells [Value.int .i64 0, .string ⟨#[]⟩, .int .i64 0, .int .i64 at_].toArray 75)).ext e1).ext e2
  rw [World.size_alloc] at bt0
  have hc2 := e02.cell hc
  have hdig2 := hdig.ext e2
  have hlet2 := hlet.says w2 (Ext.refl _) s[at_]
  simp only [letter_eq, hl] at hlet2
  have hl2 := hid hlet2
  clear hlet2
  go_wp2_with fail
  refine hl2.out.mono ?_
  rintro e w3 ⟨rfl, e3⟩
  go_wp2_with fail
  refine (between_any w3 95 95).mono ?_
  rintro e w4 ⟨cu, rfl, hund, e4⟩
  have e04 := e02.trans (e3.trans e4)
  have bt4 := (bt0.ext e3).ext e4
  have br4 := (br0.ext e3).ext e4
  have hrow : FunRow Tryd.prog (w4.alloc (.cells [Value.func (.func 59) #[] cl, .func (.func 59) #[] cd, .func (.func 59) #[] cu].toArray 48)) (some ⟨w4.heap.size, 0, none⟩)
      [(59, cl, fun c => (97 : UInt8) ≤ c && c ≤ 122), (59, cd, fun c => (48 : UInt8) ≤ c && c ≤ 57), (59, cu, fun c => (95 : UInt8) ≤ c && c ≤ 95)] := by
    refine ⟨CellsAt.new _ _ _, ?_⟩
    intro x hx
    simp only [List.mem_cons, List.not_mem_nil, or_false] at hx
    rcases hx with rfl | rfl | rfl
    · exact (((hlet.ext e3).ext e4).ext ((Ext.refl _).alloc _))
    · exact (((hdig2.ext e3).ext e4).ext ((Ext.refl _).alloc _))
    · exact hund.ext ((Ext.refl _).alloc _)
  clear bt0 br0 hdig hlet hdig2 hl2 hc2 hund
  go_wp2_with fail
  refine (either_any _ _ 3 _ (by simp) hrow).mono ?_
  rintro e w5 ⟨ck, rfl, hk, e5⟩
  rw [names_eq] at hk
  have e45 : Ext w4 w5 := ((Ext.refl _).alloc _).trans e5
  have hP := hid hk
  clear hk hrow e5
  go_wp2_with fail
  refine (span_any w5 _ s cap at_ _ _ isNameByte (hs.ext (e04.trans e45)) hlen (by omega) hP.out).mono ?_
  rintro e w6 ⟨rfl, e6⟩
  have e06 := e04.trans (e45.trans e6)
  have bt6 := (bt4.ext e45).ext e6
  have br6 := (br4.ext e45).ext e6
  have hk1 : 0 < spanLen isNameByte (s.drop at_) := by rw [drop_getElem s at_ hat]; simp [spanLen, isNameByte, hl]
  have hk2 := spanLen_le isNameByte (s.drop at_)
  rw [List.length_drop] at hk2
  obtain ⟨m, hm⟩ : ∃ m, m = at_ + spanLen isNameByte (s.drop at_) := ⟨_, rfl⟩
  have hm1 : at_ < m := by omega
  have hm2 : m ≤ s.length := by omega
  have hx := hs.part at_ (m - at_)
  rw [show m - at_ = spanLen isNameByte (s.drop at_) by omega] at hx
  rw [← hm]
  obtain ⟨x, hxd⟩ : ∃ x, x = (s.drop at_).take (spanLen isNameByte (s.drop at_)) := ⟨_, rfl⟩
  have hxl : x.length = m - at_ := by rw [hxd]; simp; omega
  rw [← hxd] at hx
  have hnx : nextT (s.drop at_) = if word x then .ok ⟨4, x, 0, x.length⟩ else if x.length > 16 then .error 32 else .ok ⟨1, x, 0, x.length⟩ := by
    rw [hxd]
    generalize hq : s.drop at_ = q
    have hq' := drop_getElem s at_ hat
    rw [hq] at hq'
    subst hq'
    simp only [nextT, hl, if_true]
  have HX := hid hnx
  have HL := hid hxl
  have hcv : ∀ w', Ext w w' → (convert 22 9 (.slice (some ⟨b, off + at_, none⟩) (m - at_) (cap - at_))).run Tryd.prog w' = .ok (.string ⟨x.toArray⟩) w' := fun w' e =>
    run_string_of (hx.ext e) _ _ _ Tryd.underlying22 Tryd.underlying5 Tryd.underlying9 _ _ hxl
  clear hm hk1 hk2 hx hxd bt4 br4 hP hnx hxl
  go_wp2_with fail
  obtain ⟨c0, c1, c2, c3, cf⟩ := bt6.four
  obtain ⟨r0, r1, r2, r3, rf⟩ := br6.four
  have v1 := hcv w6.drew e06.drew
  have v2 := hcv ((w6.setCell ⟨w.heap.size + 1, 0, none⟩ (.int .i64 1)).drew) (e06.setCell (by simp) _).drew
  clear hcv
  go_region
  clear v1 v2
  go_wp2_with fail
  refine (word_any _ _).mono ?_
  rintro e w7 ⟨rfl, hw7⟩
  subst hw7
  by_cases hw : word x = true
  · go_wp2_with fail
    refine bodyPost_ret (v := .tuple #[.agg #[.int .i64 4, .string ⟨x.toArray⟩, .int .i64 0, .int .i64 at_], .int .i64 m, .int .i64 0]) ?_ rfl ⟨nextEnds_ok (by rw [HX.out, if_pos hw]) (by have := HL.out; omega), ?_⟩
    · simp [results, Tryd.results24, go_sem, *]
    · repeat (with_reducible first | exact e06 | apply Ext.drew | refine Ext.setCell ?_ ?_ _)
      all_goals simp
  · have hwf : word x = false := by simpa using hw
    clear hw
    by_cases hl16 : 16 < x.length
    · go_wp2_with fail
      refine bodyPost_ret (v := .tuple #[.agg #[.int .i64 1, .string ⟨x.toArray⟩, .int .i64 0, .int .i64 at_], .int .i64 0, .int .i64 32]) ?_ rfl ⟨nextEnds_err (by rw [HX.out, if_neg (by simp [hwf]), if_pos hl16]), ?_⟩
      · simp [results, Tryd.results24, go_sem, *]
      · repeat (with_reducible first | exact e06 | apply Ext.drew | refine Ext.setCell ?_ ?_ _)
        all_goals simp
    · go_wp2_with fail
      refine bodyPost_ret (v := .tuple #[.agg #[.int .i64 1, .string ⟨x.toArray⟩, .int .i64 0, .int .i64 at_], .int .i64 m, .int .i64 0]) ?_ rfl ⟨nextEnds_ok (by rw [HX.out, if_neg (by simp [hwf]), if_neg hl16]) (by have := HL.out; omega), ?_⟩
      · simp [results, Tryd.results24, go_sem, *]
      · repeat (with_reducible first | exact e06 | apply Ext.drew | refine Ext.setCell ?_ ?_ _)
        all_goals simp

set_option maxHeartbeats 1000000 in
theorem next_number (w : World) (a : Option Addr) (s : List UInt8) (cap at_ : Nat) (hs : BytesAt w a s) (hlen : s.length ≤ 140737488355328) (hcap : s.length ≤ cap) (hat : at_ < s.length)
    (hl : isLetter s[at_] = false) (hd : isDigit s[at_] = true) :
    Calls Tryd.prog 24 #[.slice a s.length cap, .int .i64 at_] w fun e w' => nextEnds (nextT (s.drop at_)) at_ e ∧ Ext w w' := by
  obtain ⟨b, off, rfl, hc⟩ := hs.at hat
  have hb := World.block_lt_of_cell? _ _ hc
  go_enter Tryd.func24, Tryd.ntmps24
  go_wp2_with fail
  refine (between_any _ 48 57).mono ?_
  rintro e w1 ⟨cd, rfl, hdig, e1⟩
  go_wp2_with fail
  refine (between_any w1 97 122).mono ?_
  rintro e w2 ⟨cl, rfl, hlet, e2⟩
  have e02 : Ext w w2 := (((Ext.refl w).alloc _).alloc _).trans (e1.trans e2)
  have bt0 := ((Blk.new (w.alloc (.cells [Value.int .i64 0, .string ⟨#[]⟩, .int .i64 0, .int .i64 0].toArray 75)) 75 [Value.int .i64 0, .string ⟨#[]⟩, .int .i64 0, .int .i64 at_]).ext e1).ext e2
  have br0 := (((Blk.new w 75 [Value.int .i64 0, .string ⟨#[]⟩, .int .i64 0, .int .i64 0]).alloc (.cells [Value.int .i64 0, .string ⟨#[]⟩, .int .i64 0, .int .i64 at_].toArray 75)).ext e1).ext e2
  rw [World.size_alloc] at bt0
  have hc2 := e02.cell hc
  have hdig2 := hdig.ext e2
  have hlet2 := hlet.says w2 (Ext.refl _) s[at_]
  simp only [letter_eq, hl] at hlet2
  have hl2 := hid hlet2
  clear hlet2
  go_wp2_with fail
  refine hl2.out.mono ?_
  rintro e w3 ⟨rfl, e3⟩
  have hdig3 := hdig2.says w3 e3 s[at_]
  simp only [digit_eq, hd] at hdig3
  have hd3 := hid hdig3
  clear hdig3
  go_wp2_with fail
  refine hd3.out.mono ?_
  rintro e w4 ⟨rfl, e4⟩
  have e04 := e02.trans (e3.trans e4)
  have bt4 := (bt0.ext e3).ext e4
  have br4 := (br0.ext e3).ext e4
  have hdig4 := (hdig2.ext e3).ext e4
  clear bt0 br0 hdig hlet hdig2 hl2 hd3 hc2
  rw [digits_eq] at hdig4
  have hP := hid hdig4
  clear hdig4
  go_wp2_with fail
  refine (span_any w4 _ s cap at_ _ _ isDigit (hs.ext e04) hlen (by omega) hP.out).mono ?_
  rintro e w6 ⟨rfl, e6⟩
  have e06 := e04.trans e6
  have bt6 := bt4.ext e6
  have br6 := br4.ext e6
  have hk1 : 0 < spanLen isDigit (s.drop at_) := by rw [drop_getElem s at_ hat]; simp [spanLen, hd]
  have hk2 := spanLen_le isDigit (s.drop at_)
  rw [List.length_drop] at hk2
  obtain ⟨m, hm⟩ : ∃ m, m = at_ + spanLen isDigit (s.drop at_) := ⟨_, rfl⟩
  have hm1 : at_ < m := by omega
  have hm2 : m ≤ s.length := by omega
  have hx := hs.part at_ (m - at_)
  rw [show m - at_ = spanLen isDigit (s.drop at_) by omega] at hx
  rw [← hm]
  obtain ⟨x, hxd⟩ : ∃ x, x = (s.drop at_).take (spanLen isDigit (s.drop at_)) := ⟨_, rfl⟩
  have hxl : x.length = m - at_ := by rw [hxd]; simp; omega
  rw [← hxd] at hx
  have hxall : ∀ c ∈ x, isDigit c = true := by rw [hxd]; exact spanLen_take isDigit (s.drop at_)
  have hnx : nextT (s.drop at_) = match numFrom 0 x with | none => .error 32 | some n => .ok ⟨2, [], n, x.length⟩ := by
    rw [hxd]
    generalize hq : s.drop at_ = q
    have hq' := drop_getElem s at_ hat
    rw [hq] at hq'
    subst hq'
    simp only [nextT, hl, hd, if_true, Bool.false_eq_true, if_false]
    generalize numFrom 0 _ = o
    cases o <;> rfl
  have hnum := number_any w6 (some ⟨b, off + at_, none⟩) x (cap - at_) (hx.ext e06) (by omega) hxall
  rw [hxl] at hnum
  have HN := hid hnum
  have HX := hid hnx
  have HL := hid hxl
  clear hm hk1 hk2 hx hxd bt4 br4 hP hnx hxl hnum hxall
  go_wp2_with fail
  refine HN.out.mono ?_
  rintro e w7 ⟨rfl, e7⟩
  have e07 := e06.trans e7
  obtain ⟨c0, c1, c2, c3, cf⟩ := (bt6.ext e7).four
  obtain ⟨r0, r1, r2, r3, rf⟩ := (br6.ext e7).four
  clear HN bt6 br6
  cases hno : numFrom 0 x with
  | none =>
    have HX2 := HX.out
    rw [hno] at HX2
    have HX3 := hid HX2
    clear HX HX2 hno
    unfold numEnds
    go_wp2_with fail
    refine bodyPost_ret (v := .tuple #[.agg #[.int .i64 0, .string ⟨#[]⟩, .int .i64 0, .int .i64 at_], .int .i64 0, .int .i64 32]) ?_ rfl ⟨nextEnds_err HX3.out, ?_⟩
    · simp [results, Tryd.results24, go_sem, *]
    · repeat (with_reducible first | exact e07 | apply Ext.drew | refine Ext.setCell ?_ ?_ _)
      all_goals simp
  | some n =>
    have HX2 := HX.out
    rw [hno] at HX2
    have HX3 := hid HX2
    clear HX HX2 hno
    unfold numEnds
    go_wp2_with fail
    refine bodyPost_ret (v := .tuple #[.agg #[.int .i64 2, .string ⟨#[]⟩, .int .i64 n, .int .i64 at_], .int .i64 m, .int .i64 0]) ?_ rfl ⟨nextEnds_ok HX3.out (by have := HL.out; omega), ?_⟩
    · simp [results, Tryd.results24, go_sem, *]
    · repeat (with_reducible first | exact e07 | apply Ext.drew | refine Ext.setCell ?_ ?_ _)
      all_goals simp
end Go.Proofs.YtaehlakefgnfmaaDoor
