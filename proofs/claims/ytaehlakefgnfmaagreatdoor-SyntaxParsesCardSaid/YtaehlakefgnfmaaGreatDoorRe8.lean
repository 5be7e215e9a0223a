/-
  DERIVED. THE DOCUMENT's expressions, however deep; the walk of its reader's typ.
-/
import Derived.Test.YtaehlakefgnfmaaGreatDoorRe7
namespace Go.Proofs.YtaehlakefgnfmaaGreatDoor
set_option linter.unusedSimpArgs false
set_option linter.unusedVariables false
set_option maxRecDepth 100000
open Go.RowKit

set_option maxHeartbeats 8000000 in
theorem rLevel_five {A : Rz → Prop} (d : Nat) (o : Rd Ex) (hO : ExC A 102 d o) : LvC A 5 d o := by
  intro w br n S hS hr
  have hlt := hr.lt
  have HO := hid hO
  clear hO
  go_enter Tryz.func92, Tryz.ntmps92
  go_wp2_with fail
  refine (rLevels_any _).mono ?_
  rintro e' w1 ⟨rfl, hT1, e1⟩
  rw [World.size_alloc] at hT1 ⊢
  have KA1 : Keep [br] w w1 := ((Keep.refl [br] w).alloc (.cells ex0.toArray 100)).trans' (Keep.ofExt e1)
  have bA1 := (Blk.new w 100 ex0).ext e1
  have lA1 := bA1.lt
  go_wp2_with fail
  refine (HO.out w1 br n S hS (hr.ext (((Ext.refl _).alloc _).trans e1))).mono ?_
  rintro e' w3 ⟨⟨vs, rfl, ⟨op, num, text, ka, kn, kc, at_, rfl⟩, hx⟩, r3, k3⟩
  have HX := hid hx
  clear hx
  have bR := bA1.keep k3 (by simp; omega)
  unfold ex0 at bR
  obtain ⟨e0, e1', e2, e3, e4, ef⟩ := bR.fiveR
  have bF := bR.put5 (.int .i64 op) (.int .i64 num) (.string ⟨text.toArray⟩) (.slice ka kn kc) (.int .i64 at_)
  have kF := Keep.put5 w3 w.heap.size (.int .i64 op) (.int .i64 num) (.string ⟨text.toArray⟩) (.slice ka kn kc) (.int .i64 at_)
  obtain ⟨x0, x1, x2, x3, x4, _⟩ := bF.fiveR
  go_wp2_with fail
  refine bodyPost_ret (v := .agg #[.int .i64 op, .int .i64 num, .string ⟨text.toArray⟩, .slice ka kn kc, .int .i64 at_]) (by simp [results, Tryz.results92, go_sem, x0, x1, x2, x3, x4]) rfl ⟨⟨_, rfl, ⟨op, num, text, ka, kn, kc, at_, rfl⟩, fun x hg => ?_⟩, ?_, (KA1.trans' k3).trans kF (by simp)⟩
  · exact (HX.out x hg).keep kF (by simp; omega) _ (fun b hb => Nat.le_trans KA1.size hb)
  · exact r3.keep kF (by simp; omega)
/-- All levels, from the sharpest. -/
theorem rLevel_all {A : Rz → Prop} (hA : Shut A) (d : Nat) (hd : d ≤ 33) (one : Rd Ex) (hI : Inv Ex.size WFx one) (hO : ExC A 102 d one) (hO2 : (∃ ts, A (.ok ts)) → ExC Any 102 d one) :
    ∀ i, i ≤ 5 → LvC A (5 - i) d (levelS one i) ∧ ((∃ ts, A (.ok ts)) → LvC Any (5 - i) d (levelS one i)) := by
  intro i
  induction i with
  | zero => exact fun _ => ⟨rLevel_five d one hO, fun h => rLevel_five d one (hO2 h)⟩
  | succ i ih =>
    intro hi
    obtain ⟨h1, h2⟩ := ih (by omega)
    have e : 5 - i = (4 - i) + 1 := by omega
    rw [e] at h1 h2
    have hin := inv_level hI i (by omega)
    have e2 : 5 - (i + 1) = 4 - i := by omega
    rw [e2]
    exact ⟨rLevel_step (4 - i) (by omega) d hd (levelS one i) hin h1 h2, fun h => rLevel_step (4 - i) (by omega) d hd (levelS one i) hin (h2 h) fun _ => h2 h⟩
theorem inv_err : Inv Ex.size WFx (fun ts => .err 42 ts) := fun ts _ => ⟨.inr rfl, Nat.le_refl _⟩
/-- In a bad state every level is read, and nothing comes of it. -/
theorem rLevel_bad (d : Nat) (hd : d ≤ 33) : LvC Bad 0 d (levelS (oneS (fun ts => .err 42 ts) (fun ts => .err 42 ts)) 5) :=
  (rLevel_all Shut.bad d hd _ (inv_one inv_err inv_err) (rOne_of Shut.bad d hd _ _ (fun h => by obtain ⟨_, h⟩ := h; cases h) (fun _ => rfl) (rPrim_of d _ hd (fun h => by obtain ⟨_, h⟩ := h; cases h) inv_err)) (fun h => by obtain ⟨_, h⟩ := h; cases h) 5 (by omega)).1
/-- EXPRESSIONS, so deep. -/
theorem rEK : ∀ k, k ≤ 33 → ExC Any 83 ((33 - k : Nat) : Int) (EK k).1 ∧ (1 ≤ k → ExC Any 102 ((33 - k : Nat) : Int) (EK k).2) := by
  intro k
  induction k with
  | zero =>
    intro _
    refine ⟨?_, fun h => by omega⟩
    have h := rExpr_of Shut.any 33 (by omega) (fun ts => .err 42 ts) (fun h => by omega) _ (rLevel_bad 33 (by omega))
    have e : dpR 33 (fun ts => .err 42 ts) = (EK 0).1 := by
      funext ts
      simp [dpR, EK]
    rw [e] at h
    exact h
  | succ k ih =>
    intro hk
    obtain ⟨h1, h2⟩ := ih (by omega)
    have ed : ((33 - (k + 1) : Nat) : Int) + 1 = ((33 - k : Nat) : Int) := by omega
    have hP : ExC Any 105 ((33 - (k + 1) : Nat) : Int) (primaryS (EK k).1) := rPrim_of (33 - (k + 1)) (EK k).1 (by omega) (fun _ => by rw [ed]; exact h1) (inv_EK k).1
    have hO : ExC Any 102 ((33 - (k + 1) : Nat) : Int) (oneS (EK k).1 (EK k).2) := rOne_of Shut.any (33 - (k + 1)) (by omega) (EK k).1 (EK k).2 (fun _ h => by rw [ed]; exact h2 (by omega)) (fun h => by
      obtain rfl : k = 0 := by omega
      rfl) hP
    refine ⟨?_, fun _ => hO⟩
    have hL := (rLevel_all Shut.any (33 - (k + 1)) (by omega) _ (inv_one (inv_EK k).1 (inv_EK k).2) hO (fun _ => hO) 5 (by omega)).1
    have h := rExpr_of Shut.any (33 - (k + 1)) (by omega) (EK (k + 1)).1 (fun _ => hL) _ (rLevel_bad (33 - (k + 1)) (by omega))
    have e : dpR (33 - (k + 1)) (EK (k + 1)).1 = (EK (k + 1)).1 := by
      funext ts
      simp only [dpR]
      rw [if_pos (by omega)]
    rw [e] at h
    exact h
end Go.Proofs.YtaehlakefgnfmaaGreatDoor
/-
  DERIVED. THE WALKS of the document's reader's typ, plain (printed by gen_re9.py).
-/
namespace Go.Proofs.YtaehlakefgnfmaaGreatDoor
set_option linter.unusedSimpArgs false
set_option linter.unusedVariables false
set_option maxRecDepth 100000
open Go.RowKit

def TyNo (j : Nat) (S : Rz) : Prop := (1 ≤ j → isS [105, 110, 116] S = false) ∧ (2 ≤ j → isS [98, 111, 111, 108] S = false) ∧ (3 ≤ j → isS [98, 121, 116, 101, 115] S = false)
set_option maxHeartbeats 16000000 in
theorem rTyp_any (w : World) (br n : Nat) (S : Rz) (hr : ReAt w br n S) :
    Calls Tryz.prog 37 #[.pointer (some ⟨br, 0, none⟩)] w fun e w' => (∃ t : Nat, e = .returned (.int .i64 t) ∧ ∀ a, Giv typS S a → t = a) ∧ ReAt w' br n (aft n typS S) ∧ Keep [br] w w' := by
  have hlt := hr.lt
  have bn' := Blk.new w 9 [.string ⟨#[105, 110, 116]⟩, .string ⟨#[98, 111, 111, 108]⟩, .string ⟨#[98, 121, 116, 101, 115]⟩]
  have rr' := hr.ext ((Ext.refl _).alloc (.cells #[.string ⟨#[105, 110, 116]⟩, .string ⟨#[98, 111, 111, 108]⟩, .string ⟨#[98, 121, 116, 101, 115]⟩] 9))
  have kr' := (Keep.refl [br] w).alloc (.cells #[.string ⟨#[105, 110, 116]⟩, .string ⟨#[98, 111, 111, 108]⟩, .string ⟨#[98, 121, 116, 101, 115]⟩] 9)
  go_enter Tryz.func37, Tryz.ntmps37
  go_wp2_with fail
  go_loopw [4] (fun i wr => ∃ j : Nat, j ≤ 3 ∧ i = .int .i64 j ∧ ReAt wr br n S ∧ Blk wr w.heap.size 9 [.string ⟨#[105, 110, 116]⟩, .string ⟨#[98, 111, 111, 108]⟩, .string ⟨#[98, 121, 116, 101, 115]⟩] ∧ Keep [br] w wr ∧ TyNo j S) (fun i _ => 3 - (intOf i).toNat)
  case atStart => exact ⟨0, by omega, rfl, rr', bn', kr', fun h => by omega, fun h => by omega, fun h => by omega⟩
  case round =>
    obtain ⟨j, hj, rfl, rr, bn, kr, hno⟩ := hrel
    have hn0 := bn.cell 0
    have hn1 := bn.cell 1
    have hn2 := bn.cell 2
    have ln := bn.lt
    simp only [List.getElem?_cons_zero, List.getElem?_cons_succ] at hn0 hn1 hn2
    clear bn' rr' kr'
    rcases (by omega : j = 3 ∨ j = 0 ∨ j = 1 ∨ j = 2) with rfl | rfl | rfl | rfl
    · go_wp2_with fail
      refine (rFail_any wr br n _ rr 41 (by decide)).mono ?_
      rintro e' w3 ⟨rfl, r3, k3⟩
      have HSP := hid (show ∀ ts, S = .ok ts → typS ts = .err 41 ts from fun ts h => by
        subst h
        have h1 : isSign [105, 110, 116] ts = false := hno.1 (by omega)
        have h2 : isSign [98, 111, 111, 108] ts = false := hno.2.1 (by omega)
        have h3 : isSign [98, 121, 116, 101, 115] ts = false := hno.2.2 (by omega)
        rw [typS, h1, h2]
        simp [must, h3])
      go_wp2_with fail
      go_ret
      refine ⟨⟨0, rfl, fun a hg => ?_⟩, ?_, kr.trans' k3⟩
      · obtain ⟨ts, r, h1, h2⟩ := hg
        rw [HSP.out ts h1] at h2
        cases h2
      · cases S with
        | bad x p => exact r3
        | ok ts =>
          simp only [aft]
          rw [HSP.out ts rfl]
          exact r3
    · cases hs : isS [105, 110, 116] S with
      | false =>
        have HS := hid hs
        clear hs
        go_wp2_with fail
        refine (rTake_any wr br n _ rr [105, 110, 116]).mono ?_
        rintro e' w6 ⟨rfl, rT, kT⟩
        rw [HS.out]
        rw [tkS_no HS.out] at rT
        have bn6 := bn.keep kT (by simp; omega)
        have kr6 := kr.trans' kT
        go_wp2_with fail
        go_roundw
        case rel => exact ⟨1, by omega, rfl, rT, bn6, kr6, fun _ => HS.out, fun h => by omega, fun h => by omega⟩
        case measure => simp [intOf]
      | true =>
        obtain ⟨ts, rfl, hts⟩ := isS_ok hs
        have HS := hid hs
        have HT := hid hts
        have HSP := hid (show typS ts = .ok 1 ts.tail by rw [typS, if_pos hts])
        clear hs hts
        go_wp2_with fail
        refine (rTake_any wr br n _ rr [105, 110, 116]).mono ?_
        rintro e' w6 ⟨rfl, rT, kT⟩
        rw [HS.out]
        have R6 : ReAt w6 br n (.ok ts.tail) := by
          have := rT
          rw [tkS, if_pos HT.out] at this
          exact this
        clear rT
        go_wp2_with fail
        go_ret
        refine ⟨⟨1, rfl, fun a hg => ?_⟩, ?_, kr.trans' kT⟩
        · obtain ⟨r, hg⟩ := giv_ok hg
          rw [HSP.out] at hg
          cases hg; rfl
        · simp only [aft]
          rw [HSP.out]
          exact R6
    · cases hs : isS [98, 111, 111, 108] S with
      | false =>
        have HS := hid hs
        clear hs
        go_wp2_with fail
        refine (rTake_any wr br n _ rr [98, 111, 111, 108]).mono ?_
        rintro e' w6 ⟨rfl, rT, kT⟩
        rw [HS.out]
        rw [tkS_no HS.out] at rT
        have bn6 := bn.keep kT (by simp; omega)
        have kr6 := kr.trans' kT
        go_wp2_with fail
        go_roundw
        case rel => exact ⟨2, by omega, rfl, rT, bn6, kr6, fun _ => hno.1 (by omega), fun _ => HS.out, fun h => by omega⟩
        case measure => simp [intOf]
      | true =>
        obtain ⟨ts, rfl, hts⟩ := isS_ok hs
        have HS := hid hs
        have HT := hid hts
        have HSP := hid (show typS ts = .ok 2 ts.tail by rw [typS, show isSign [105, 110, 116] ts = false from hno.1 (by omega), if_neg (by decide), if_pos hts])
        clear hs hts
        go_wp2_with fail
        refine (rTake_any wr br n _ rr [98, 111, 111, 108]).mono ?_
        rintro e' w6 ⟨rfl, rT, kT⟩
        rw [HS.out]
        have R6 : ReAt w6 br n (.ok ts.tail) := by
          have := rT
          rw [tkS, if_pos HT.out] at this
          exact this
        clear rT
        go_wp2_with fail
        go_ret
        refine ⟨⟨2, rfl, fun a hg => ?_⟩, ?_, kr.trans' kT⟩
        · obtain ⟨r, hg⟩ := giv_ok hg
          rw [HSP.out] at hg
          cases hg; rfl
        · simp only [aft]
          rw [HSP.out]
          exact R6
    · cases hs : isS [98, 121, 116, 101, 115] S with
      | false =>
        have HS := hid hs
        clear hs
        go_wp2_with fail
        refine (rTake_any wr br n _ rr [98, 121, 116, 101, 115]).mono ?_
        rintro e' w6 ⟨rfl, rT, kT⟩
        rw [HS.out]
        rw [tkS_no HS.out] at rT
        have bn6 := bn.keep kT (by simp; omega)
        have kr6 := kr.trans' kT
        go_wp2_with fail
        go_roundw
        case rel => exact ⟨3, by omega, rfl, rT, bn6, kr6, fun _ => hno.1 (by omega), fun _ => hno.2.1 (by omega), fun _ => HS.out⟩
        case measure => simp [intOf]
      | true =>
        obtain ⟨ts, rfl, hts⟩ := isS_ok hs
        have HS := hid hs
        have HT := hid hts
        have HSP := hid (show typS ts = .ok 3 ts.tail by rw [typS, show isSign [105, 110, 116] ts = false from hno.1 (by omega), show isSign [98, 111, 111, 108] ts = false from hno.2.1 (by omega)]; simp [must, hts])
        clear hs hts
        go_wp2_with fail
        refine (rTake_any wr br n _ rr [98, 121, 116, 101, 115]).mono ?_
        rintro e' w6 ⟨rfl, rT, kT⟩
        rw [HS.out]
        have R6 : ReAt w6 br n (.ok ts.tail) := by
          have := rT
          rw [tkS, if_pos HT.out] at this
          exact this
        clear rT
        go_wp2_with fail
        go_ret
        refine ⟨⟨3, rfl, fun a hg => ?_⟩, ?_, kr.trans' kT⟩
        · obtain ⟨r, hg⟩ := giv_ok hg
          rw [HSP.out] at hg
          cases hg; rfl
        · simp only [aft]
          rw [HSP.out]
          exact R6
end Go.Proofs.YtaehlakefgnfmaaGreatDoor
/-
  DERIVED. THE WALK of the document's reader's block, over its stmt's contract (printed by gen_re10.py).
-/
namespace Go.Proofs.YtaehlakefgnfmaaGreatDoor
set_option linter.unusedSimpArgs false
set_option linter.unusedVariables false
set_option maxRecDepth 100000
open Go.RowKit

/-- Six cells as a statement has them. -/
def stForm (vs : List Value) : Prop := ∃ (op : Nat) (text : List UInt8) (ea : Option Addr) (en ec : Nat) (ba : Option Addr) (bn bc : Nat) (la : Option Addr) (ln lc at_ : Nat), vs = [.int .i64 op, .string ⟨text.toArray⟩, .slice ea en ec, .slice ba bn bc, .slice la ln lc, .int .i64 at_]
/-- What a function that reads a statement leaves. -/
def StPost (w : World) (br n : Nat) (S : Rz) (P : Rd St) (e : Ending) (w' : World) : Prop :=
  (∃ vs, e = .returned (.agg vs.toArray) ∧ stForm vs ∧ ∀ x, Giv P S x → StIs w' (w.heap.size ≤ ·) x vs) ∧ ReAt w' br n (aft n P S) ∧ Keep [br] w w'
def StC (d : Int) (P : Rd St) : Prop := ∀ (w : World) (br n : Nat) (us : List Tok), ReAt w br n (.ok us) → Calls Tryz.prog 68 #[.pointer (some ⟨br, 0, none⟩), .int .i64 d] w (StPost w br n (.ok us) P)
/-- What a function that reads a block leaves. -/
def BlPost (w : World) (br n : Nat) (S : Rz) (P : Rd (List St)) (e : Ending) (w' : World) : Prop :=
  (∃ va m vc, e = .returned (.slice va m vc) ∧ ∀ l, Giv P S l → m = l.length ∧ RowIs w' (w.heap.size ≤ ·) (.slice va m vc) l.length (StsIs w' (w.heap.size ≤ ·) l)) ∧ ReAt w' br n (aft n P S) ∧ Keep [br] w w'
def BlC (d : Int) (P : Rd (List St)) : Prop := ∀ (w : World) (br n : Nat) (S : Rz), ReAt w br n S → Calls Tryz.prog 39 #[.pointer (some ⟨br, 0, none⟩), .int .i64 d] w (BlPost w br n S P)
def BrRel (w : World) (br n : Nat) (s : Rd St) (R : Res (List St)) (k : Nat) (v : Value) (wr : World) : Prop :=
  ∃ va m vc, v = .slice va m vc ∧ Keep [br] w wr ∧ m ≤ 2049 ∧ 0 < k ∧
    ((∃ acc us, ReAt wr br n (.ok us) ∧ m = acc.length ∧ OwnX stEnc 78 wr w.heap.size (.slice va m vc) acc ∧ acc.length + us.length ≤ 2048 ∧ us.length + 1 < k ∧ R = blockGo s (k - 1) acc us) ∨ (∃ x q, ReAt wr br n (.bad x q) ∧ toS n R = .bad x q))
set_option maxHeartbeats 16000000 in
theorem rBlock_bad (w : World) (br n d : Nat) (P : Rd (List St)) (x q : Nat) (hr : ReAt w br n (.bad x q)) : Calls Tryz.prog 39 #[.pointer (some ⟨br, 0, none⟩), .int .i64 d] w (BlPost w br n (.bad x q) P) := by
  have hlt := hr.lt
  have HSP := hid (show aft n P (.bad x q) = .bad x q from rfl)
  obtain ⟨hx1, rest, hraw⟩ := hr.rawBad
  have hx1' : ((x : Int) == 0) = false := by simp; omega
  obtain ⟨ra, rlen, rcap, rk, _, _, _, rb, _⟩ := hraw.blk
  obtain ⟨c0, c1, c2, c3, c4, cf⟩ := rb.fiveR
  go_enter Tryz.func39, Tryz.ntmps39
  go_wp2_with fail
  refine (rMust_any _ br n _ hr [123]).mono ?_
  rintro e' w4 ⟨rfl, R4', k4⟩
  have R4 : ReAt w4 br n (.bad x q) := R4'
  have K4 := k4
  clear c0 c1 c2 c3 c4 cf rb R4' hx1' hraw
  have HB := hid (show ReAt w4 br n (.bad x q) from R4)
  obtain ⟨hx0, rest, hraw⟩ := R4.rawBad
  have hx0' : (((x : Nat) : Int) == 0) = false := by simp; try omega
  obtain ⟨ra, rlen, rcap, rk, _, _, _, rb, _⟩ := hraw.blk
  obtain ⟨c0, c1, c2, c3, c4, cf⟩ := rb.fiveR
  go_wp2_with fail
  go_loopw [5] (fun v wr => v = .slice none 0 0 ∧ wr = w4) (fun _ _ => 0)
  case atStart => exact ⟨rfl, rfl⟩
  case round =>
    obtain ⟨rfl, rfl⟩ := hrel
    go_wp2_with fail
    refine (rMust_any _ br n _ HB.out [125]).mono ?_
    rintro e' w5 ⟨rfl, r5, k5⟩
    go_wp2_with fail
    go_ret
    refine ⟨⟨none, 0, 0, rfl, fun l hg => ?_⟩, ?_, K4.trans' k5⟩
    · exact absurd hg (by exact fun h => giv_bad h)
    · rw [HSP.out]
      exact r5
set_option maxHeartbeats 16000000 in
theorem rBlock_no (w : World) (br n d : Nat) (s : Rd St) (ok : Bool) (ts : List Tok) (hr : ReAt w br n (.ok ts)) (h : isSign [123] ts = false) : Calls Tryz.prog 39 #[.pointer (some ⟨br, 0, none⟩), .int .i64 d] w (BlPost w br n (.ok ts) (blockS s ok)) := by
  have hlt := hr.lt
  have hsp : blockS s ok ts = .err 41 ts := by unfold blockS; rw [if_neg (by rw [h]; decide)]
  have HSP := hid (show aft n (blockS s ok) (.ok ts) = .bad 41 (placeOf n ts) by simp only [aft]; rw [hsp]; rfl)
  have HS0 := hid hsp
  have HS := hid h
  obtain ⟨rto, hraw⟩ := hr.raw
  obtain ⟨ra, rlen, rcap, rk, _, _, _, rb, _⟩ := hraw.blk
  obtain ⟨c0, c1, c2, c3, c4, cf⟩ := rb.fiveR
  clear h hsp
  go_enter Tryz.func39, Tryz.ntmps39
  go_wp2_with fail
  refine (rIs_any _ br n _ hr [123]).mono ?_
  rintro e' w3 ⟨rfl, mm, rfl⟩
  rw [show isS [123] (.ok ts) = false from HS.out]
  go_wp2_with fail
  refine (rMust_any _ br n _ (hr.drewN mm) [123]).mono ?_
  rintro e' w4 ⟨rfl, R4', k4⟩
  have R4 : ReAt w4 br n (.bad 41 (placeOf n ts)) := by
    have := R4'
    rw [aft_sign, show isS [123] (.ok ts) = false from HS.out, if_neg (by decide), flS] at this
    exact this
  have K4 := (Keep.drewN' [br] w mm).trans' k4
  clear c0 c1 c2 c3 c4 cf rb R4' hraw
  have HB := hid (show ReAt w4 br n (.bad 41 (placeOf n ts)) from R4)
  obtain ⟨hx0, rest, hraw⟩ := R4.rawBad
  have hx0' : (((41 : Nat) : Int) == 0) = false := by simp; try omega
  obtain ⟨ra, rlen, rcap, rk, _, _, _, rb, _⟩ := hraw.blk
  obtain ⟨c0, c1, c2, c3, c4, cf⟩ := rb.fiveR
  go_wp2_with fail
  go_loopw [5] (fun v wr => v = .slice none 0 0 ∧ wr = w4) (fun _ _ => 0)
  case atStart => exact ⟨rfl, rfl⟩
  case round =>
    obtain ⟨rfl, rfl⟩ := hrel
    go_wp2_with fail
    refine (rMust_any _ br n _ HB.out [125]).mono ?_
    rintro e' w5 ⟨rfl, r5, k5⟩
    go_wp2_with fail
    go_ret
    refine ⟨⟨none, 0, 0, rfl, fun l hg => ?_⟩, ?_, K4.trans' k5⟩
    · exact absurd hg (by rintro hg; obtain ⟨r, hg⟩ := giv_ok hg; rw [HS0.out] at hg; cases hg)
    · rw [HSP.out]
      exact r5
set_option maxHeartbeats 16000000 in
theorem rBlock_deep (w : World) (br n d : Nat) (hd : 32 < d) (s : Rd St) (ts : List Tok) (hr : ReAt w br n (.ok ts)) (h : isSign [123] ts = true) : Calls Tryz.prog 39 #[.pointer (some ⟨br, 0, none⟩), .int .i64 d] w (BlPost w br n (.ok ts) (blockS s false)) := by
  have hlt := hr.lt
  have hsp : blockS s false ts = .err 42 ts := by unfold blockS; rw [if_pos h, if_neg (by decide)]
  have HSP := hid (show aft n (blockS s false) (.ok ts) = .bad 42 (placeOf n ts) by simp only [aft]; rw [hsp]; rfl)
  have HS0 := hid hsp
  have HS := hid h
  have HD := hid (fun (w : World) (h : ReAt w br n (.ok ts)) => rDeep_no w br n d (.ok ts) h hd)
  obtain ⟨rto, hraw⟩ := hr.raw
  obtain ⟨ra, rlen, rcap, rk, _, _, _, rb, _⟩ := hraw.blk
  obtain ⟨c0, c1, c2, c3, c4, cf⟩ := rb.fiveR
  clear h hsp hd
  go_enter Tryz.func39, Tryz.ntmps39
  go_wp2_with fail
  refine (rIs_any _ br n _ hr [123]).mono ?_
  rintro e' w3 ⟨rfl, mm, rfl⟩
  rw [show isS [123] (.ok ts) = true from HS.out]
  go_wp2_with fail
  refine (HD.out _ (hr.drewN mm)).mono ?_
  rintro e' w3 ⟨rfl, R3, k3⟩
  go_wp2_with fail
  refine (rMust_any _ br n _ R3 [123]).mono ?_
  rintro e' w4 ⟨rfl, R4', k4⟩
  have R4 : ReAt w4 br n (.bad 42 (placeOf n ts)) := R4'
  have K4 := ((Keep.drewN' [br] w mm).trans' k3).trans' k4
  clear c0 c1 c2 c3 c4 cf rb R4' hraw
  have HB := hid (show ReAt w4 br n (.bad 42 (placeOf n ts)) from R4)
  obtain ⟨hx0, rest, hraw⟩ := R4.rawBad
  have hx0' : (((42 : Nat) : Int) == 0) = false := by simp; try omega
  obtain ⟨ra, rlen, rcap, rk, _, _, _, rb, _⟩ := hraw.blk
  obtain ⟨c0, c1, c2, c3, c4, cf⟩ := rb.fiveR
  go_wp2_with fail
  go_loopw [5] (fun v wr => v = .slice none 0 0 ∧ wr = w4) (fun _ _ => 0)
  case atStart => exact ⟨rfl, rfl⟩
  case round =>
    obtain ⟨rfl, rfl⟩ := hrel
    go_wp2_with fail
    refine (rMust_any _ br n _ HB.out [125]).mono ?_
    rintro e' w5 ⟨rfl, r5, k5⟩
    go_wp2_with fail
    go_ret
    refine ⟨⟨none, 0, 0, rfl, fun l hg => ?_⟩, ?_, K4.trans' k5⟩
    · exact absurd hg (by rintro hg; obtain ⟨r, hg⟩ := giv_ok hg; rw [HS0.out] at hg; cases hg)
    · rw [HSP.out]
      exact r5
set_option maxHeartbeats 32000000 in
theorem rBlock_yes (w : World) (br n d : Nat) (hd : d ≤ 32) (s : Rd St) (hS : StC d s) (hI : Inv St.size WFs s) (ts : List Tok) (hr : ReAt w br n (.ok ts)) (h : isSign [123] ts = true) : Calls Tryz.prog 39 #[.pointer (some ⟨br, 0, none⟩), .int .i64 d] w (BlPost w br n (.ok ts) (blockS s true)) := by
  obtain ⟨i0, hi0, hz0, hz1, hz2⟩ := info_parts Tryz.infoStmt
  have hlt := hr.lt
  have hlen := isSign_len h
  have hmax := hr.wf.2
  have HR0 := hid (show blockS s true ts = blockGo s (ts.length + 1) [] ts.tail by unfold blockS; rw [if_pos h, if_pos rfl])
  have HS := hid h
  have HST := hid hS
  have HD := hid (fun (w : World) => rDeep_ok w br d hd)
  obtain ⟨rto, hraw⟩ := hr.raw
  obtain ⟨ra, rlen, rcap, rk, _, _, _, rb, _⟩ := hraw.blk
  obtain ⟨c0, c1, c2, c3, c4, cf⟩ := rb.fiveR
  obtain ⟨R, hRd⟩ : ∃ R, R = blockS s true ts := ⟨_, rfl⟩
  have HAF := hid (show aft n (blockS s true) (.ok ts) = toS n R by rw [hRd]; rfl)
  have HGV := hid (show ∀ l, Giv (blockS s true) (.ok ts) l → ∃ r, R = .ok l r from fun l hg => by obtain ⟨r, hg⟩ := giv_ok hg; exact ⟨r, by rw [hRd]; exact hg⟩)
  have HRD := hid (show R = blockGo s (ts.length + 1) [] ts.tail by rw [hRd]; exact HR0.out)
  clear h hS hd hRd HR0
  go_enter Tryz.func39, Tryz.ntmps39
  go_wp2_with fail
  refine (rIs_any _ br n _ hr [123]).mono ?_
  rintro e' w3 ⟨rfl, mm, rfl⟩
  rw [show isS [123] (.ok ts) = true from HS.out]
  go_wp2_with fail
  refine (HD.out _).mono ?_
  rintro e' w3 ⟨rfl, rfl⟩
  go_wp2_with fail
  refine (rMust_any _ br n _ (hr.drewN mm) [123]).mono ?_
  rintro e' w4 ⟨rfl, R4', k4⟩
  have R4 : ReAt w4 br n (.ok ts.tail) := by
    have := R4'
    rw [aft_sign, show isS [123] (.ok ts) = true from HS.out, if_pos rfl, tkS, if_pos HS.out] at this
    exact this
  have K4 := (Keep.drewN' [br] w mm).trans' k4
  clear c0 c1 c2 c3 c4 cf rb R4' hraw
  have HREL := hid (show BrRel w br n s R (ts.length + 2) (.slice none 0 0) w4 from ⟨none, 0, 0, rfl, K4, by omega, by omega, .inl ⟨[], ts.tail, R4, rfl, OwnX.nil _ _ _ _, by simp; omega, by omega, HRD.out⟩⟩)
  clear HRD
  go_wp2_with fail
  go_loopg [5] (ts.length + 2) (fun k v wr => BrRel w br n s R k v wr)
  case atStart => exact HREL.out
  case round =>
    obtain ⟨va, m, vc, rfl, kr, hm, hk0, hcase⟩ := hrel
    obtain ⟨k, rfl⟩ : ∃ k, gk = k + 1 := ⟨gk - 1, by omega⟩
    clear HREL
    rcases hcase with ⟨acc, us, rr, hmacc, hownX, hl, hltk, hR⟩ | ⟨x, q, rr, hR⟩
    · obtain ⟨k, rfl⟩ : ∃ k', k = k' + 1 := ⟨k - 1, by omega⟩
      have HWU := hid rr.wf.1
      obtain ⟨rto, hraw⟩ := rr.raw
      obtain ⟨ra, rlen, rcap, rk, _, _, _, rb, _⟩ := hraw.blk
      obtain ⟨c0, c1, c2, c3, c4, cf⟩ := rb.fiveR
      have HOX := hid hownX
      have HM := hid hmacc
      have HR := hid (show R = blockGo s (k + 1) acc us from hR)
      clear hownX hmacc hR
      cases h125 : isSign [125] us with
      | true =>
        have H125 := hid h125
        have HRA := hid (show R = .ok acc us.tail by rw [HR.out, blockGo_succ, if_pos h125])
        clear h125
        go_wp2_with fail
        refine (rIs_any wr br n _ rr [125]).mono ?_
        rintro e' w3 ⟨rfl, mm, rfl⟩
        rw [show isS [125] (.ok us) = true from H125.out]
        go_wp2_with fail
        refine (rMust_any _ br n _ (rr.drewN mm) [125]).mono ?_
        rintro e' w5 ⟨rfl, r5, k5⟩
        have r5' : ReAt w5 br n (.ok us.tail) := by
          have := r5
          rw [aft_sign, show isS [125] (.ok us) = true from H125.out, if_pos rfl, tkS, if_pos H125.out] at this
          exact this
        have kk5 := (Keep.drewN' [br] wr mm).trans' k5
        clear r5
        go_wp2_with fail
        go_ret
        refine ⟨⟨va, m, vc, rfl, fun l hg => ?_⟩, ?_, kr.trans' kk5⟩
        · obtain ⟨r, hg⟩ := HGV.out l hg
          rw [HRA.out] at hg
          cases hg
          have hrow := (HOX.out.keep kk5 (by simp; omega)).row
          rw [← HM.out] at hrow
          refine ⟨HM.out, ?_⟩
          rw [← HM.out]
          exact hrow
        · rw [HAF.out, HRA.out]
          exact r5'
      | false =>
        have H125 := hid h125
        have HRB := hid (show R = (s us).bind fun x r => blockGo s k (acc ++ [x]) r by rw [HR.out, blockGo_succ, h125]; rfl)
        clear h125 HR
        go_wp2_with fail
        refine (rIs_any wr br n _ rr [125]).mono ?_
        rintro e' w2 ⟨rfl, mm, rfl⟩
        rw [show isS [125] (.ok us) = false from H125.out]
        clear c0 c1 c2 c3 c4 cf rb
        go_wp2_with fail
        refine (HST.out _ br n us (rr.drewN mm)).mono ?_
        rintro e' w3 ⟨⟨vs, rfl, ⟨op, text, ea, en, ec, ba, bn, bc, la, ln, lc, at_, rfl⟩, hx⟩, r3, k3⟩
        have HX := hid hx
        clear hx
        have kk3 := (Keep.drewN' [br] wr mm).trans' k3
        have lwr := kr.size
        have lw3 := kk3.size
        obtain ⟨ks, own, hall⟩ := HOX.out.keep kk3 (by simp; omega)
        rw [← HM.out] at own
        have own4 := own.alloc (.cells #[.int .i64 op, .string ⟨text.toArray⟩, .slice ea en ec, .slice ba bn bc, .slice la ln lc, .int .i64 at_] 78)
        have hall4 := stEnc.carries (Carry.keep (Keep.ofExt ((Ext.refl w3).alloc (.cells #[.int .i64 op, .string ⟨text.toArray⟩, .slice ea en ec, .slice ba bn bc, .slice la ln lc, .int .i64 at_] 78)) : Keep [] _ _) (by simp) (fun b _ hf => hf)) _ _ hall
        have lown : ∀ q, (Value.slice va m vc).ownBlock = some q → q < wr.heap.size := fun q hq => by
          obtain ⟨ks', hrow', _⟩ := HOX.out
          exact (hrow'.lt q hq).2
        have HALL := hid hall4
        clear hall hall4
        have hm1 : m + 1 ≤ 4096 := by omega
        go_wp2_with (at_builtin; refine wpList_append_lies _ rfl _ _ 34 rfl w.heap.size 78 i0 (.agg #[.int .i64 0, .string ⟨#[]⟩, .slice none 0 0, .slice none 0 0, .slice none 0 0, .int .i64 0]) 6 104 Tryz.underlying34 hi0 hz0 hz1 hz2 rfl (by decide) _ _ _ rfl own4 ⟨w3.heap.size, 0, none⟩ 1 1 [.int .i64 op, .string ⟨text.toArray⟩, .slice ea en ec, .slice ba bn bc, .slice la ln lc, .int .i64 at_] rfl rfl ?c1 ?c2 ?c3 ?c4 ?c5 ?c6 (w3.heap.size + 1) ?c7 ?_)
        case c1 => exact news_cells _ _ _ _ rfl
        case c2 => simp [Value.oneCell']
        case c3 => omega
        case c4 => simp only [maxLen]; omega
        case c5 => omega
        case c6 => simp; omega
        case c7 => simp
        intro g cap w5 hown5 hgr hat hglt
        have k5 : Keep [br] w w5 := ((kr.trans' kk3).alloc _).grown hgr fun q hq => .inr (by have := (own4.lt q hq).1; exact this)
        have r5 := (r3.ext ((Ext.refl _).alloc (.cells #[.int .i64 op, .string ⟨text.toArray⟩, .slice ea en ec, .slice ba bn bc, .slice la ln lc, .int .i64 at_] 78))).keep (Keep.grownBy hgr (ownL (.slice va m vc)) fun q hq => mem_ownL.2 hq) fun q hq => by
          have := (own4.lt q (mem_ownL.1 hq)).1
          omega
        cases hs : s us with
        | err c r =>
          have HRC := hid (show R = .err c r by rw [HRB.out, hs]; rfl)
          simp only [aft, hs, toS] at r5
          clear hs
          go_wp2_with fail
          go_roundg (k + 1)
          case measure => omega
          case rel => exact ⟨some ⟨g, 0, none⟩, m + 1, cap, rfl, k5, by have := HM.out; omega, by omega, .inr ⟨c, _, r5, by rw [HRC.out]; rfl⟩⟩
        | ok x r =>
          have HRC := hid (show R = blockGo s k (acc ++ [x]) r by rw [HRB.out, hs]; rfl)
          have hF := hI us HWU.out
          rw [hs] at hF
          have hF1 : x.size + r.length ≤ us.length := hF.1
          have hxp := x.size_pos
          have hgx : Giv s (.ok us) x := ⟨us, r, rfl, hs⟩
          simp only [aft, hs, toS] at r5
          have hsn := OwnX.snocR (En := stEnc) (T := 78) (acc := acc) (B := (wr.drewN mm).heap.size) HALL.out (HX.out x hgx) ((Ext.refl _).alloc (.cells #[.int .i64 op, .string ⟨text.toArray⟩, .slice ea en ec, .slice ba bn bc, .slice la ln lc, .int .i64 at_] 78)) (fun q hq => lown q hq) lwr (by rw [← HM.out]; exact hown5) hgr (by rw [World.size_alloc]; exact hat)
          clear hs hF
          go_wp2_with fail
          go_roundg (k + 1)
          case measure => omega
          case rel => exact ⟨some ⟨g, 0, none⟩, m + 1, cap, rfl, k5, by have := HM.out; omega, by omega, .inl ⟨acc ++ [x], r, r5, by simpa using HM.out, hsn, by rw [List.length_append, List.length_singleton]; omega, by omega, HRC.out⟩⟩
    · obtain ⟨hx0, rest, hraw⟩ := rr.rawBad
      have hx0' : ((x : Int) == 0) = false := by simp; omega
      obtain ⟨ra, rlen, rcap, rk, _, _, _, rb, _⟩ := hraw.blk
      obtain ⟨c0, c1, c2, c3, c4, cf⟩ := rb.fiveR
      have HRA := hid hR
      clear hR
      go_wp2_with fail
      refine (rMust_any wr br n _ rr [125]).mono ?_
      rintro e' w5 ⟨rfl, r5, k5⟩
      have r5' : ReAt w5 br n (.bad x q) := r5
      clear r5
      go_wp2_with fail
      go_ret
      refine ⟨⟨va, m, vc, rfl, fun l hg => ?_⟩, ?_, kr.trans' k5⟩
      · obtain ⟨r, hg⟩ := HGV.out l hg
        have := HRA.out
        rw [hg] at this
        cases this
      · rw [HAF.out, HRA.out]
        exact r5'
/-- A BLOCK, over its statements' contract. -/
theorem rBlock_of (d : Nat) (hd : d ≤ 33) (s : Rd St) (hS : d ≤ 32 → StC d s) (hI : Inv St.size WFs s) (ok : Bool) (hok : ok = decide (d ≤ 32)) : BlC d (blockS s ok) := by
  intro w br n S hr
  cases S with
  | bad x q => exact rBlock_bad w br n d _ x q hr
  | ok ts =>
    cases h : isSign [123] ts with
    | false => exact rBlock_no w br n d s ok ts hr h
    | true =>
      by_cases h32 : d ≤ 32
      · rw [hok, show decide (d ≤ 32) = true by simp [h32]]
        exact rBlock_yes w br n d h32 s (hS h32) hI ts hr h
      · rw [hok, show decide (d ≤ 32) = false by simp; omega]
        exact rBlock_deep w br n d (by omega) s ts hr h
end Go.Proofs.YtaehlakefgnfmaaGreatDoor
