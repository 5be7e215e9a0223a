/-
  DERIVED. THE DOCUMENT's statements and blocks, however deep (printed by gen_re14.py).
-/
import Derived.Test.YtaehlakefgnfmaaGreatDoorRe12
import Derived.Test.YtaehlakefgnfmaaGreatDoorRe12b
import Derived.Test.YtaehlakefgnfmaaGreatDoorRe13
namespace Go.Proofs.YtaehlakefgnfmaaGreatDoor
set_option linter.unusedSimpArgs false
set_option linter.unusedVariables false
set_option maxRecDepth 100000
open Go.RowKit

theorem StPost.congr {w w' : World} {br n : Nat} {us : List Tok} {P Q : Rd St} {e : Ending} (h : StPost w br n (.ok us) P e w') (hq : P us = Q us) : StPost w br n (.ok us) Q e w' := by
  obtain ⟨⟨vs, h1, h2, h3⟩, h4, h5⟩ := h
  refine ⟨⟨vs, h1, h2, fun x hg => h3 x ?_⟩, ?_, h5⟩
  · obtain ⟨r, hg⟩ := giv_ok hg
    exact ⟨us, r, rfl, by rw [hq]; exact hg⟩
  · simp only [aft] at h4 ⊢
    rw [← hq]; exact h4
/-- A statement that begins with no word. -/
def plainR (E : Rd Ex) (p : Nat) : Rd St := fun us => if isName us && isSign [61] us.tail then setR E p us else doR E p us
theorem nameR_yes {β : Type} {k : List UInt8 → Rd β} {us : List Tok} (h : isName us = true) : sqR nameR k us = k (headText us) us.tail := by
  simp only [sqR, nameR, name, h, if_true, Res.bind]
theorem signR_yes {β : Type} {s : List UInt8} {k : Unit → Rd β} {us : List Tok} (h : isSign s us = true) : sqR (signR s) k us = k () us.tail := by
  simp only [sqR, signR, must, h, if_true, Res.bind]
theorem stmt_plain {E : Rd Ex} {B : Rd (List St)} {us : List Tok} (h0 : isSign [108, 101, 116] us = false) (h1 : isSign [105, 102] us = false) (h2 : isSign [102, 111, 114] us = false) (h3 : isSign [114, 101, 116, 117, 114, 110] us = false) (h4 : isSign [112, 117, 116] us = false) (h5 : isSign [100, 101, 108] us = false) : stmtS E B us = plainR E (headPlace us) us := by
  unfold stmtS plainR
  rw [h0, h1, h2, h3, h4, h5, if_neg (by decide), if_neg (by decide), if_neg (by decide), if_neg (by decide), if_neg (by decide), if_neg (by decide)]
  cases hx : (isName us && isSign [61] us.tail) with
  | true =>
    rw [if_pos rfl, if_pos rfl]
    rw [Bool.and_eq_true] at hx
    rw [setR, nameR_yes hx.1, signR_yes hx.2]
    simp only [must_sq]
    rfl
  | false =>
    rw [if_neg (by decide), if_neg (by decide)]
    simp only [must_sq]
    rfl
/-- Where nothing is left the place doesn't matter. -/
theorem plain_place {E : Rd Ex} (hI : Inv Ex.size WFx E) {us : List Tok} {n : Nat} : plainR E (placeOf n us) us = plainR E (headPlace us) us := by
  cases us with
  | cons t r => rfl
  | nil =>
    have hF := hI [] (by intro t h; simp at h)
    unfold plainR
    rw [if_neg (by simp [isName]), if_neg (by simp [isName])]
    unfold doR sqR
    cases he : E [] with
    | err c r => rfl
    | ok x r =>
      rw [he] at hF
      have h1 : x.size + r.length ≤ ([] : List Tok).length := hF.1
      have := x.size_pos
      simp at h1
      omega
theorem rPlain_any (d : Nat) (hd0 : d ≤ 32) (E : Rd Ex) (hE : ExC Any 83 ((d : Int) + 1) E) (w : World) (br n : Nat) (us : List Tok) (hr : ReAt w br n (.ok us)) (p : Nat) :
    Calls Tryz.prog 84 #[.pointer (some ⟨br, 0, none⟩), .agg #[.int .i64 0, .string ⟨#[]⟩, .slice none 0 0, .slice none 0 0, .slice none 0 0, .int .i64 p], .int .i64 d] w (StPost w br n (.ok us) (plainR E p)) := by
  match us, hr with
  | [], hr => exact (rPlain_nil d hd0 E hE w br n hr p).mono fun e w' h => h.congr rfl
  | [t], hr => exact (rPlain_one d hd0 E hE w br n t hr p).mono fun e w' h => h.congr (by simp [plainR, isSign])
  | t :: t' :: r, hr =>
    by_cases hk : t.kind = 1
    · by_cases hk2 : t'.kind = 4
      · cases hx : (t'.text == [61]) with
        | false => exact (rPlain_k3 d hd0 E hE w br n t t' r hr hk hk2 hx p).mono fun e w' h => h.congr (by simp [plainR, isSign, hx])
        | true => exact (rPlain_set d hd0 E hE w br n t t' r hr hk hk2 hx p).mono fun e w' h => h.congr (by simp [plainR, isSign, isName, hx, hk, hk2])
      · exact (rPlain_k2 d hd0 E hE w br n t t' r hr hk hk2 p).mono fun e w' h => h.congr (by simp [plainR, isSign, hk2])
    · exact (rPlain_k d hd0 E hE w br n t t' r hr hk p).mono fun e w' h => h.congr (by simp [plainR, isName, hk])
set_option maxHeartbeats 32000000 in
theorem rStmt_pln (d : Nat) (hd : d ≤ 32) (E : Rd Ex) (hE : ExC Any 83 ((d : Int) + 1) E) (hI : Inv Ex.size WFx E) (w : World) (br n : Nat) (us : List Tok) (hr : ReAt w br n (.ok us)) (B : Rd (List St)) (h0 : isSign [108, 101, 116] us = false) (h1 : isSign [105, 102] us = false) (h2 : isSign [102, 111, 114] us = false) (h3 : isSign [114, 101, 116, 117, 114, 110] us = false) (h4 : isSign [112, 117, 116] us = false) (h5 : isSign [100, 101, 108] us = false) :
    Calls Tryz.prog 68 #[.pointer (some ⟨br, 0, none⟩), .int .i64 d] w (StPost w br n (.ok us) (stmtS E B)) := by
  suffices H : Calls Tryz.prog 68 #[.pointer (some ⟨br, 0, none⟩), .int .i64 d] w (StPost w br n (.ok us) (plainR E (placeOf n us))) from H.mono fun e w' h => h.congr (by rw [plain_place hI, stmt_plain h0 h1 h2 h3 h4 h5])
  have HPL := hid (fun (w : World) (hr : ReAt w br n (.ok us)) (p : Nat) => rPlain_any d hd E hE w br n us hr p)
  have HN0 := hid h0
  have HN1 := hid h1
  have HN2 := hid h2
  have HN3 := hid h3
  have HN4 := hid h4
  have HN5 := hid h5
  clear h0 h1 h2 h3 h4 h5 hE hI
  have hlt := hr.lt
  go_enter Tryz.func68, Tryz.ntmps68
  go_wp2_with fail
  refine (rPlace_any _ br n _ (hr.ext ((Ext.refl _).alloc _))).mono ?_
  rintro e' wP ⟨⟨p, rfl, hp⟩, mm, rfl⟩
  have HP := hid (hp us rfl)
  clear hp
  have A0 : SmAt w (((w.alloc (.cells #[.int .i64 0, .string ⟨#[]⟩, .slice none 0 0, .slice none 0 0, .slice none 0 0, .int .i64 0] 78)).drewN mm).alloc (.cells #[.int .i64 0, .string ⟨#[]⟩, .slice none 0 0, .slice none 0 0, .slice none 0 0, .int .i64 p] 78)) br n (.ok us) [.int .i64 0, .string ⟨#[]⟩, .slice none 0 0, .slice none 0 0, .slice none 0 0, .int .i64 p] :=
    ⟨((hr.ext ((Ext.refl _).alloc _)).drewN mm).ext ((Ext.refl _).alloc _), ((Blk.new w 78 [.int .i64 0, .string ⟨#[]⟩, .slice none 0 0, .slice none 0 0, .slice none 0 0, .int .i64 0]).drewN mm).alloc _, by
      have := Blk.new ((w.alloc (.cells #[.int .i64 0, .string ⟨#[]⟩, .slice none 0 0, .slice none 0 0, .slice none 0 0, .int .i64 0] 78)).drewN mm) 78 [.int .i64 0, .string ⟨#[]⟩, .slice none 0 0, .slice none 0 0, .slice none 0 0, .int .i64 p]
      have e : ((w.alloc (.cells #[.int .i64 0, .string ⟨#[]⟩, .slice none 0 0, .slice none 0 0, .slice none 0 0, .int .i64 0] 78)).drewN mm).heap.size = w.heap.size + 1 := by show (w.alloc _).heap.size = _; rw [World.size_alloc]
      rw [e] at this
      exact this, (((Keep.refl _ _).alloc _).trans' (Keep.drewN' _ _ mm)).alloc _, hlt⟩
  go_wp2_with fail
  refine (rTake_any _ br n _ A0.rd [108, 101, 116]).mono ?_
  rintro e' wT0 ⟨rfl, rT, kT⟩
  rw [show isS [108, 101, 116] (.ok us) = false from HN0.out]
  rw [tkS_no (show isS [108, 101, 116] (.ok us) = false from HN0.out)] at rT
  have A1 := A0.call rT kT
  clear rT kT
  go_wp2_with fail
  refine (rTake_any _ br n _ A1.rd [105, 102]).mono ?_
  rintro e' wT1 ⟨rfl, rT, kT⟩
  rw [show isS [105, 102] (.ok us) = false from HN1.out]
  rw [tkS_no (show isS [105, 102] (.ok us) = false from HN1.out)] at rT
  have A2 := A1.call rT kT
  clear rT kT
  go_wp2_with fail
  refine (rTake_any _ br n _ A2.rd [102, 111, 114]).mono ?_
  rintro e' wT2 ⟨rfl, rT, kT⟩
  rw [show isS [102, 111, 114] (.ok us) = false from HN2.out]
  rw [tkS_no (show isS [102, 111, 114] (.ok us) = false from HN2.out)] at rT
  have A3 := A2.call rT kT
  clear rT kT
  go_wp2_with fail
  refine (rTake_any _ br n _ A3.rd [114, 101, 116, 117, 114, 110]).mono ?_
  rintro e' wT3 ⟨rfl, rT, kT⟩
  rw [show isS [114, 101, 116, 117, 114, 110] (.ok us) = false from HN3.out]
  rw [tkS_no (show isS [114, 101, 116, 117, 114, 110] (.ok us) = false from HN3.out)] at rT
  have A4 := A3.call rT kT
  clear rT kT
  go_wp2_with fail
  refine (rTake_any _ br n _ A4.rd [112, 117, 116]).mono ?_
  rintro e' wT4 ⟨rfl, rT, kT⟩
  rw [show isS [112, 117, 116] (.ok us) = false from HN4.out]
  rw [tkS_no (show isS [112, 117, 116] (.ok us) = false from HN4.out)] at rT
  have A5 := A4.call rT kT
  clear rT kT
  go_wp2_with fail
  refine (rTake_any _ br n _ A5.rd [100, 101, 108]).mono ?_
  rintro e' wT5 ⟨rfl, rT, kT⟩
  rw [show isS [100, 101, 108] (.ok us) = false from HN5.out]
  rw [tkS_no (show isS [100, 101, 108] (.ok us) = false from HN5.out)] at rT
  have A6 := A5.call rT kT
  clear rT kT
  obtain ⟨l0, l1, l2, l3, l4, l5, lf⟩ := A6.loc.sixR
  go_wp2_with fail
  refine (HPL.out _ A6.rd p).mono ?_
  rintro e' w2 ⟨⟨vs, rfl, ⟨op, text, ea, en, ec, ba, bn, bc, la, ln, lc, at_, rfl⟩, hx⟩, r2, k2⟩
  have HX := hid hx
  have hsz := A6.keep.size
  have B1 := A6.call r2 k2
  clear hx l0 l1 l2 l3 l4 l5 lf
  obtain ⟨l0, l1, l2, l3, l4, l5, lf⟩ := B1.loc.sixR
  have lB := B1.loc.lt
  have bL := B1.loc.put6 (.int .i64 op) (.string ⟨text.toArray⟩) (.slice ea en ec) (.slice ba bn bc) (.slice la ln lc) (.int .i64 at_)
  have kL := Keep.put6 w2 (w.heap.size + 1) (.int .i64 op) (.string ⟨text.toArray⟩) (.slice ea en ec) (.slice ba bn bc) (.slice la ln lc) (.int .i64 at_)
  have bR := B1.res.keep kL (by simp)
  obtain ⟨m0, m1, m2, m3, m4, m5, mf⟩ := bR.sixR
  obtain ⟨n0, n1, n2, n3, n4, n5, nf⟩ := bL.sixR
  have bF := bR.put6 (.int .i64 op) (.string ⟨text.toArray⟩) (.slice ea en ec) (.slice ba bn bc) (.slice la ln lc) (.int .i64 at_)
  have kF := Keep.put6 ((((((w2.setCell ⟨w.heap.size + 1, 0, none⟩ (.int .i64 op)).setCell ⟨w.heap.size + 1, 1, none⟩ (.string ⟨text.toArray⟩)).setCell ⟨w.heap.size + 1, 2, none⟩ (.slice ea en ec)).setCell ⟨w.heap.size + 1, 3, none⟩ (.slice ba bn bc)).setCell ⟨w.heap.size + 1, 4, none⟩ (.slice la ln lc)).setCell ⟨w.heap.size + 1, 5, none⟩ (.int .i64 at_)) w.heap.size (.int .i64 op) (.string ⟨text.toArray⟩) (.slice ea en ec) (.slice ba bn bc) (.slice la ln lc) (.int .i64 at_)
  obtain ⟨x0, x1, x2, x3, x4, x5, _⟩ := bF.sixR
  go_wp2_with fail
  refine bodyPost_ret (v := .agg #[.int .i64 op, .string ⟨text.toArray⟩, .slice ea en ec, .slice ba bn bc, .slice la ln lc, .int .i64 at_]) (by simp [results, Tryz.results68, go_sem, x0, x1, x2, x3, x4, x5]) rfl ⟨⟨_, rfl, ⟨op, text, ea, en, ec, ba, bn, bc, la, ln, lc, at_, rfl⟩, fun x hg => ?_⟩, ?_, (B1.keep.trans kL (by simp)).trans kF (by simp)⟩
  · rw [← HP.out] at hg
    have hG : ∀ b, b ∈ ([w.heap.size + 1] : List Nat) ∨ b ∈ ([w.heap.size] : List Nat) → True := fun _ _ => trivial
    have h1 := StIs.carry (Carry.keep kL (G := (wT5.heap.size ≤ ·)) (fun b hb _ hf => by have hf1 : wT5.heap.size ≤ b := hf; have := A6.loc.lt; simp only [List.mem_singleton] at hb; omega) (fun b _ hf => hf)) _ _ (HX.out x hg)
    exact StIs.carry (Carry.keep kF (G := (w.heap.size ≤ ·)) (fun b hb _ hf => by have hf1 : wT5.heap.size ≤ b := hf; have := A6.loc.lt; simp only [List.mem_singleton] at hb; omega) (fun b _ hf => by have hf1 : wT5.heap.size ≤ b := hf; show w.heap.size ≤ b; omega)) _ _ h1
  · rw [← HP.out]
    exact (B1.rd.keep kL (by have := B1.lt; simp; omega)).keep kF (by simp; omega)
/-- STATEMENTS. -/
theorem rStmt_of (d : Nat) (hd : d ≤ 32) (E : Rd Ex) (hE : ExC Any 83 ((d : Int) + 1) E) (hI : Inv Ex.size WFx E) (B : Rd (List St)) (hB : BlC ((d : Int) + 1) B) : StC d (stmtS E B) := by
  intro w br n us hr
  cases h0 : isSign [108, 101, 116] us with
  | true => exact rStmt_let d hd E hE w br n us hr B h0
  | false =>
    cases h1 : isSign [105, 102] us with
    | true => exact rStmt_if d hd E hE w br n us hr B hB h0 h1
    | false =>
      cases h2 : isSign [102, 111, 114] us with
      | true => exact rStmt_for d hd E hE w br n us hr B hB h0 h1 h2
      | false =>
        cases h3 : isSign [114, 101, 116, 117, 114, 110] us with
        | true =>
          cases hx : isSign [59] us.tail with
          | true => exact rStmt_rtn d hd E hE w br n us hr B hB h0 h1 h2 h3 hx
          | false => exact rStmt_rte d hd E hE w br n us hr B hB h0 h1 h2 h3 hx
        | false =>
          cases h4 : isSign [112, 117, 116] us with
          | true => exact rStmt_put d hd E hE w br n us hr B hB h0 h1 h2 h3 h4
          | false =>
            cases h5 : isSign [100, 101, 108] us with
            | true => exact rStmt_del d hd E hE w br n us hr B hB h0 h1 h2 h3 h4 h5
            | false => exact rStmt_pln d hd E hE hI w br n us hr B h0 h1 h2 h3 h4 h5
theorem blockS_no (s s' : Rd St) : blockS s false = blockS s' false := by
  funext ts
  unfold blockS
  simp
theorem inv_st_err : Inv St.size WFs (fun ts => .err 42 ts) := fun ts _ => ⟨.inr rfl, Nat.le_refl _⟩
/-- BLOCKS, so deep. -/
theorem rBK : ∀ k, k ≤ 33 → BlC ((33 - k : Nat) : Int) (BK k) := by
  intro k
  induction k with
  | zero =>
    intro _
    have h := rBlock_of 33 (by omega) (fun ts => .err 42 ts) (fun h => by omega) inv_st_err false (by decide)
    rw [blockS_no _ (fun ts => .err 0 ts)] at h
    exact h
  | succ k ih =>
    intro hk
    have h2 := ih (by omega)
    have h1 := (rEK k (by omega)).1
    have ed : ((33 - k : Nat) : Int) = ((33 - (k + 1) : Nat) : Int) + 1 := by omega
    rw [ed] at h1 h2
    exact rBlock_of (33 - (k + 1)) (by omega) (stmtS (EK k).1 (BK k)) (fun h => rStmt_of (33 - (k + 1)) h (EK k).1 h1 (inv_EK k).1 (BK k) h2) (inv_stmt (inv_EK k).1 (inv_BK k)) true (by simp)
end Go.Proofs.YtaehlakefgnfmaaGreatDoor
