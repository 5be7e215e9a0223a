/-
  DERIVED. THE WALK of the document's reader's one (printed by gen_re4.py).
-/
import Derived.Test.YtaehlakefgnfmaaGreatDoorRe0
namespace Go.Proofs.YtaehlakefgnfmaaGreatDoor
set_option linter.unusedSimpArgs false
set_option linter.unusedVariables false
set_option maxRecDepth 100000
open Go.RowKit

/-- A row of one expression. -/
theorem ex_row1 {w : World} {F : Nat → Prop} {b : Nat} {x : Ex} {vs : List Value} (hb : Blk w b 100 vs) (hF : F b) (hx : ExIs w F x vs) : RowIs w F (.slice (some ⟨b, 0, none⟩) 1 1) 1 (fun ks => ExsIs w F [x] ks) := by
  refine ⟨some ⟨b, 0, none⟩, 1, vs, rfl, Nat.le_refl _, fun i v hv => ⟨b, 0, rfl, hF, ?_⟩, ?_⟩
  · rw [Nat.zero_add, hb.cell i, hv]
  · simp only [ExsIs]
    exact ⟨vs, [], by simp, hx, rfl⟩
/-- What 'one' reads behind a sign. -/
def sgnR (o : Rd Ex) (s : List UInt8) (p : Nat) : Rd Ex := sqR o (fun x => retR (.mk 7 0 s [x] p))
theorem aft_sgn {n : Nat} {o : Rd Ex} {s : List UInt8} {p : Nat} {S : Rz} : aft n (sgnR o s p) S = aft n o S :=
  aft_sq (F := id) (fun _ S => aft_ret _ _ _) (fun _ _ => rfl)
theorem one_sg {e o : Rd Ex} {ts : List Tok} {s : List UInt8} (h : isSign s ts = true) (hs : s = [45] ∨ s = [33]) : oneS e o ts = sgnR o s (headPlace ts) ts.tail := by
  obtain ⟨t, r, rfl, h4, ht⟩ := isSign_cons h
  unfold oneS sgnR sqR
  rcases hs with rfl | rfl
  · rw [if_pos h]; rfl
  · have : isSign [45] (t :: r) = false := by simp [isSign, ht]
    rw [this, if_neg (by decide), if_pos h]; rfl
theorem one_no {e o : Rd Ex} {ts : List Tok} (h1 : isSign [45] ts = false) (h2 : isSign [33] ts = false) : oneS e o ts = primaryS e ts := by
  unfold oneS
  rw [h1, h2]; rfl
theorem placeOf_sign {n : Nat} {s : List UInt8} {ts : List Tok} (h : isSign s ts = true) : placeOf n ts = headPlace ts := by
  obtain ⟨t, r, rfl, _⟩ := isSign_cons h; rfl
/-- No sign so far. -/
def OneNo (j : Nat) (S : Rz) : Prop := (1 ≤ j → isS [45] S = false) ∧ (2 ≤ j → isS [33] S = false)
set_option maxHeartbeats 16000000 in
theorem rOne_of {A : Rz → Prop} (hA : Shut A) (d : Nat) (hd : d ≤ 33) (e o : Rd Ex) (hO : (∃ ts, A (.ok ts)) → d + 1 ≤ 32 → ExC Any 102 ((d : Int) + 1) o) (hO' : 32 < d + 1 → o = fun ts => .err 42 ts)
    (hP : ExC A 105 d (primaryS e)) : ExC A 102 d (oneS e o) := by
  intro w br n S hS hr
  have hlt := hr.lt
  have HP := hid hP
  have HO := hid hO
  have HO' := hid hO'
  clear hP hO hO'
  go_enter Tryz.func102, Tryz.ntmps102
  go_wp2_with fail
  refine (rPlace_any _ br n S (hr.ext ((Ext.refl _).alloc _))).mono ?_
  rintro e' w1 ⟨⟨p, rfl, hp⟩, m, rfl⟩
  have HPL := hid hp
  clear hp
  go_wp2_with fail
  have hb0 := ((Blk.new w 100 ex0).drewN m).alloc (.cells #[.string ⟨#[45]⟩, .string ⟨#[33]⟩] 9)
  have hbn := Blk.new ((w.alloc (.cells ex0.toArray 100)).drewN m) 9 [.string ⟨#[45]⟩, .string ⟨#[33]⟩]
  have hrL := ((hr.ext ((Ext.refl _).alloc (.cells ex0.toArray 100))).drewN m).ext ((Ext.refl _).alloc (.cells #[.string ⟨#[45]⟩, .string ⟨#[33]⟩] 9))
  have KL : Keep [br] w (((w.alloc (.cells ex0.toArray 100)).drewN m).alloc (.cells #[.string ⟨#[45]⟩, .string ⟨#[33]⟩] 9)) := (((Keep.refl _ _).alloc _).trans' (Keep.drewN' _ _ m)).alloc _
  have hszn : ((w.alloc (.cells ex0.toArray 100)).drewN m).heap.size = w.heap.size + 1 := by show (w.alloc _).heap.size = _; rw [World.size_alloc]
  rw [hszn] at hbn
  unfold ex0 at hb0 hbn hrL KL
  clear hszn
  go_loopw [7] (fun i wr => ∃ j : Nat, j ≤ 2 ∧ i = .int .i64 j ∧ ReAt wr br n S ∧ Blk wr w.heap.size 100 ex0 ∧ Blk wr (w.heap.size + 1) 9 [.string ⟨#[45]⟩, .string ⟨#[33]⟩] ∧ Keep [br] w wr ∧ OneNo j S) (fun i _ => 2 - (intOf i).toNat)
  case atStart => exact ⟨0, by omega, rfl, hrL, hb0, hbn, KL, fun h => by omega, fun h => by omega⟩
  case round =>
    obtain ⟨j, hj, rfl, rr, b0, bn, kr, hno⟩ := hrel
    have hn0 := bn.cell 0
    have hn1 := bn.cell 1
    have ln := bn.lt
    simp only [List.getElem?_cons_zero, List.getElem?_cons_succ] at hn0 hn1
    clear hb0 hbn hrL KL
    rcases (by omega : j = 0 ∨ j = 1 ∨ j = 2) with rfl | rfl | rfl
    · cases hs : isS [45] S with
      | false =>
        have HS := hid hs
        clear hs
        go_wp2_with fail
        refine (rTake_any wr br n S rr [45]).mono ?_
        rintro e' w2 ⟨rfl, r2, k2⟩
        rw [HS.out]
        rw [tkS_no HS.out] at r2
        have b02 := b0.keep k2 (by simp; omega)
        have bn2 := bn.keep k2 (by simp; omega)
        have kr2 := kr.trans' k2
        go_wp2_with fail
        go_roundw
        case rel => exact ⟨1, by omega, rfl, r2, b02, bn2, kr2, fun _ => HS.out, fun h => by omega⟩
        case measure => simp [intOf]
      | true =>
        obtain ⟨ts, rfl, hts⟩ := isS_ok hs
        have HS := hid hs
        have HT := hid hts
        have hpl := HPL.out ts rfl
        rw [placeOf_sign hts] at hpl
        have HPP := hid hpl
        clear hs hts hpl HPL
        go_wp2_with fail
        refine (rTake_any wr br n _ rr [45]).mono ?_
        rintro e' w2 ⟨rfl, r2, k2⟩
        rw [HS.out]
        have hr2' : ReAt w2 br n (.ok ts.tail) := by
          have := r2
          rw [tkS, if_pos HT.out] at this
          exact this
        clear r2
        have b02 := b0.keep k2 (by simp; omega)
        have bn2 := bn.keep k2 (by simp; omega)
        have kr2 := kr.trans' k2
        by_cases h33 : 32 < d + 1
        · have HO2 := hid (HO'.out h33)
          have h33' : ((d : Int) + 1) = ((d + 1 : Nat) : Int) := by omega
          have D := rDeep_no w2 br n (d + 1) _ hr2' h33
          rw [← h33'] at D
          have HD := hid D
          clear h33 h33' D
          go_wp2_with fail
          refine HD.out.mono ?_
          rintro e' w3 ⟨rfl, r3, k3⟩
          have r3' : ReAt w3 br n (.bad 42 (placeOf n ts.tail)) := r3
          clear r3
          obtain ⟨_, rest, hraw⟩ := r3'.rawBad
          obtain ⟨ra, rlen, rcap, rk, _, _, _, rb, _⟩ := hraw.blk
          obtain ⟨c0, c1, c2, c3, c4, cf⟩ := rb.fiveR
          have bR := b02.keep k3 (by simp; omega)
          unfold ex0 at bR
          obtain ⟨e0, e1, e2, e3, e4, ef⟩ := bR.fiveR
          have bF := bR.put5 (.int .i64 0) (.int .i64 0) (.string ⟨#[]⟩) (.slice none 0 0) (.int .i64 0)
          have kF := Keep.put5 w3 w.heap.size (.int .i64 0) (.int .i64 0) (.string ⟨#[]⟩) (.slice none 0 0) (.int .i64 0)
          obtain ⟨x0, x1, x2, x3, x4, _⟩ := bF.fiveR
          go_wp2_with fail
          refine bodyPost_ret (v := .agg #[.int .i64 0, .int .i64 0, .string ⟨#[]⟩, .slice none 0 0, .int .i64 0]) (by simp [results, Tryz.results102, go_sem, x0, x1, x2, x3, x4]) rfl ⟨⟨_, rfl, ⟨0, 0, [], none, 0, 0, 0, rfl⟩, fun x hg => ?_⟩, ?_, (kr2.trans' k3).trans kF (by simp)⟩
          · obtain ⟨r, hg⟩ := giv_ok hg
            rw [one_sg HT.out (.inl rfl), HO2.out] at hg
            cases hg
          · simp only [aft]
            rw [one_sg HT.out (.inl rfl), HO2.out]
            exact r3'.keep kF (by simp; omega)
        · have C := HO.out ⟨ts, hS⟩ (by omega)
          have h33' : ((d : Int) + 1) = ((d + 1 : Nat) : Int) := by omega
          have D := rDeep_ok w2 br (d + 1) (by omega)
          rw [← h33'] at D
          have HD := hid D
          have HC := hid C
          clear h33 h33' D C
          obtain ⟨rto, hraw⟩ := hr2'.raw
          obtain ⟨ra, rlen, rcap, rk, _, _, _, rb, _⟩ := hraw.blk
          obtain ⟨c0, c1, c2, c3, c4, cf⟩ := rb.fiveR
          go_wp2_with fail
          refine HD.out.mono ?_
          rintro e' w3 ⟨rfl, rfl⟩
          go_wp2_with fail
          refine (HC.out _ br n _ trivial hr2').mono ?_
          rintro e' w3 ⟨⟨vs, rfl, ⟨op, num, text, ka, kn, kc, at_, rfl⟩, hx⟩, r3, k3⟩
          have HX := hid hx
          clear hx c0 c1 c2 c3 c4 cf rb
          have b03 := b02.keep k3 (by simp; omega)
          have bn3 := bn2.keep k3 (by simp; omega)
          have K3 := kr2.trans' k3
          have lb3 := b03.lt
          have ln3 := bn3.lt
          have b5 := Blk.new w3 100 [.int .i64 op, .int .i64 num, .string ⟨text.toArray⟩, .slice ka kn kc, .int .i64 at_]
          have s0 := ((Ext.refl _).alloc (.cells #[.int .i64 op, .int .i64 num, .string ⟨text.toArray⟩, .slice ka kn kc, .int .i64 at_] 100)).cell (bn3.cell 0)
          have s1 := ((Ext.refl _).alloc (.cells #[.int .i64 op, .int .i64 num, .string ⟨text.toArray⟩, .slice ka kn kc, .int .i64 at_] 100)).cell (bn3.cell 1)
          obtain ⟨y0, y1, y2, y3, y4, yf⟩ := b5.fiveR
          have bR := b03
          unfold ex0 at bR
          obtain ⟨g0, g1, g2, g3, g4, gf⟩ := bR.fiveR
          have bF := (((bR.put5 (.int .i64 7) (.int .i64 0) (.string ⟨#[45]⟩) (.slice (some ⟨w3.heap.size + 1, 0, none⟩) 1 1) (.int .i64 p)).alloc (.cells #[.int .i64 op, .int .i64 num, .string ⟨text.toArray⟩, .slice ka kn kc, .int .i64 at_] 100)).alloc (.cells #[.int .i64 op, .int .i64 num, .string ⟨text.toArray⟩, .slice ka kn kc, .int .i64 at_] 100)).drew
          have kF := (((Keep.put5 w3 w.heap.size (.int .i64 7) (.int .i64 0) (.string ⟨#[45]⟩) (.slice (some ⟨w3.heap.size + 1, 0, none⟩) 1 1) (.int .i64 p)).alloc (.cells #[.int .i64 op, .int .i64 num, .string ⟨text.toArray⟩, .slice ka kn kc, .int .i64 at_] 100)).alloc (.cells #[.int .i64 op, .int .i64 num, .string ⟨text.toArray⟩, .slice ka kn kc, .int .i64 at_] 100)).drew
          have bK := (Blk.new ((((((w3.setCell ⟨w.heap.size, 0, none⟩ (.int .i64 7)).setCell ⟨w.heap.size, 1, none⟩ (.int .i64 0)).setCell ⟨w.heap.size, 2, none⟩ (.string ⟨#[45]⟩)).setCell ⟨w.heap.size, 3, none⟩ (.slice (some ⟨w3.heap.size + 1, 0, none⟩) 1 1)).setCell ⟨w.heap.size, 4, none⟩ (.int .i64 p)).alloc (.cells #[.int .i64 op, .int .i64 num, .string ⟨text.toArray⟩, .slice ka kn kc, .int .i64 at_] 100)) 100 [.int .i64 op, .int .i64 num, .string ⟨text.toArray⟩, .slice ka kn kc, .int .i64 at_]).drew
          rw [World.size_alloc, show (((((w3.setCell ⟨w.heap.size, 0, none⟩ (.int .i64 7)).setCell ⟨w.heap.size, 1, none⟩ (.int .i64 0)).setCell ⟨w.heap.size, 2, none⟩ (.string ⟨#[45]⟩)).setCell ⟨w.heap.size, 3, none⟩ (.slice (some ⟨w3.heap.size + 1, 0, none⟩) 1 1)).setCell ⟨w.heap.size, 4, none⟩ (.int .i64 p)).heap.size = w3.heap.size by simp [World.setCell]] at bK
          obtain ⟨x0, x1, x2, x3, x4, _⟩ := bF.fiveR
          have rF := r3.keep kF (by simp; omega)
          have lr := kr2.size
          have l2 := b02.lt
          go_wp2_with fail
          go_region
          all_goals go_wp2_with fail
          all_goals refine bodyPost_ret (v := .agg #[.int .i64 7, .int .i64 0, .string ⟨#[45]⟩, .slice (some ⟨w3.heap.size + 1, 0, none⟩) 1 1, .int .i64 p]) (by simp [results, Tryz.results102, go_sem, x0, x1, x2, x3, x4]) rfl ⟨⟨_, rfl, ⟨7, 0, [45], _, 1, 1, p, rfl⟩, fun x hg => ?_⟩, ?_, K3.trans kF (by simp)⟩
          · obtain ⟨r, hg⟩ := giv_ok hg
            rw [one_sg HT.out (.inl rfl)] at hg
            obtain ⟨y, h1, h2⟩ := giv_sq n (show Giv (sqR o _) (.ok ts.tail) x from ⟨ts.tail, r, rfl, hg⟩)
            obtain rfl := giv_ret h2
            have hy := (HX.out y h1).keep kF (by simp; omega) (w.heap.size ≤ ·) (fun b hb => by have hb' : w2.heap.size ≤ b := hb; omega)
            simp only [ExIs]
            exact ⟨_, by rw [HPP.out]; rfl, ex_row1 bK (by show w.heap.size ≤ w3.heap.size + 1; omega) hy⟩
          · simp only [aft]
            rw [one_sg HT.out (.inl rfl)]
            have : toS n (sgnR o [45] (headPlace ts) ts.tail) = aft n o (.ok ts.tail) := aft_sgn (S := .ok ts.tail)
            rw [this]
            exact rF
    · cases hs : isS [33] S with
      | false =>
        have HS := hid hs
        clear hs
        go_wp2_with fail
        refine (rTake_any wr br n S rr [33]).mono ?_
        rintro e' w2 ⟨rfl, r2, k2⟩
        rw [HS.out]
        rw [tkS_no HS.out] at r2
        have b02 := b0.keep k2 (by simp; omega)
        have bn2 := bn.keep k2 (by simp; omega)
        have kr2 := kr.trans' k2
        go_wp2_with fail
        go_roundw
        case rel => exact ⟨2, by omega, rfl, r2, b02, bn2, kr2, fun _ => hno.1 (by omega), fun _ => HS.out⟩
        case measure => simp [intOf]
      | true =>
        obtain ⟨ts, rfl, hts⟩ := isS_ok hs
        have HS := hid hs
        have HT := hid hts
        have hpl := HPL.out ts rfl
        rw [placeOf_sign hts] at hpl
        have HPP := hid hpl
        clear hs hts hpl HPL
        go_wp2_with fail
        refine (rTake_any wr br n _ rr [33]).mono ?_
        rintro e' w2 ⟨rfl, r2, k2⟩
        rw [HS.out]
        have hr2' : ReAt w2 br n (.ok ts.tail) := by
          have := r2
          rw [tkS, if_pos HT.out] at this
          exact this
        clear r2
        have b02 := b0.keep k2 (by simp; omega)
        have bn2 := bn.keep k2 (by simp; omega)
        have kr2 := kr.trans' k2
        by_cases h33 : 32 < d + 1
        · have HO2 := hid (HO'.out h33)
          have h33' : ((d : Int) + 1) = ((d + 1 : Nat) : Int) := by omega
          have D := rDeep_no w2 br n (d + 1) _ hr2' h33
          rw [← h33'] at D
          have HD := hid D
          clear h33 h33' D
          go_wp2_with fail
          refine HD.out.mono ?_
          rintro e' w3 ⟨rfl, r3, k3⟩
          have r3' : ReAt w3 br n (.bad 42 (placeOf n ts.tail)) := r3
          clear r3
          obtain ⟨_, rest, hraw⟩ := r3'.rawBad
          obtain ⟨ra, rlen, rcap, rk, _, _, _, rb, _⟩ := hraw.blk
          obtain ⟨c0, c1, c2, c3, c4, cf⟩ := rb.fiveR
          have bR := b02.keep k3 (by simp; omega)
          unfold ex0 at bR
          obtain ⟨e0, e1, e2, e3, e4, ef⟩ := bR.fiveR
          have bF := bR.put5 (.int .i64 0) (.int .i64 0) (.string ⟨#[]⟩) (.slice none 0 0) (.int .i64 0)
          have kF := Keep.put5 w3 w.heap.size (.int .i64 0) (.int .i64 0) (.string ⟨#[]⟩) (.slice none 0 0) (.int .i64 0)
          obtain ⟨x0, x1, x2, x3, x4, _⟩ := bF.fiveR
          go_wp2_with fail
          refine bodyPost_ret (v := .agg #[.int .i64 0, .int .i64 0, .string ⟨#[]⟩, .slice none 0 0, .int .i64 0]) (by simp [results, Tryz.results102, go_sem, x0, x1, x2, x3, x4]) rfl ⟨⟨_, rfl, ⟨0, 0, [], none, 0, 0, 0, rfl⟩, fun x hg => ?_⟩, ?_, (kr2.trans' k3).trans kF (by simp)⟩
          · obtain ⟨r, hg⟩ := giv_ok hg
            rw [one_sg HT.out (.inr rfl), HO2.out] at hg
            cases hg
          · simp only [aft]
            rw [one_sg HT.out (.inr rfl), HO2.out]
            exact r3'.keep kF (by simp; omega)
        · have C := HO.out ⟨ts, hS⟩ (by omega)
          have h33' : ((d : Int) + 1) = ((d + 1 : Nat) : Int) := by omega
          have D := rDeep_ok w2 br (d + 1) (by omega)
          rw [← h33'] at D
          have HD := hid D
          have HC := hid C
          clear h33 h33' D C
          obtain ⟨rto, hraw⟩ := hr2'.raw
          obtain ⟨ra, rlen, rcap, rk, _, _, _, rb, _⟩ := hraw.blk
          obtain ⟨c0, c1, c2, c3, c4, cf⟩ := rb.fiveR
          go_wp2_with fail
          refine HD.out.mono ?_
          rintro e' w3 ⟨rfl, rfl⟩
          go_wp2_with fail
          refine (HC.out _ br n _ trivial hr2').mono ?_
          rintro e' w3 ⟨⟨vs, rfl, ⟨op, num, text, ka, kn, kc, at_, rfl⟩, hx⟩, r3, k3⟩
          have HX := hid hx
          clear hx c0 c1 c2 c3 c4 cf rb
          have b03 := b02.keep k3 (by simp; omega)
          have bn3 := bn2.keep k3 (by simp; omega)
          have K3 := kr2.trans' k3
          have lb3 := b03.lt
          have ln3 := bn3.lt
          have b5 := Blk.new w3 100 [.int .i64 op, .int .i64 num, .string ⟨text.toArray⟩, .slice ka kn kc, .int .i64 at_]
          have s0 := ((Ext.refl _).alloc (.cells #[.int .i64 op, .int .i64 num, .string ⟨text.toArray⟩, .slice ka kn kc, .int .i64 at_] 100)).cell (bn3.cell 0)
          have s1 := ((Ext.refl _).alloc (.cells #[.int .i64 op, .int .i64 num, .string ⟨text.toArray⟩, .slice ka kn kc, .int .i64 at_] 100)).cell (bn3.cell 1)
          obtain ⟨y0, y1, y2, y3, y4, yf⟩ := b5.fiveR
          have bR := b03
          unfold ex0 at bR
          obtain ⟨g0, g1, g2, g3, g4, gf⟩ := bR.fiveR
          have bF := (((bR.put5 (.int .i64 7) (.int .i64 0) (.string ⟨#[33]⟩) (.slice (some ⟨w3.heap.size + 1, 0, none⟩) 1 1) (.int .i64 p)).alloc (.cells #[.int .i64 op, .int .i64 num, .string ⟨text.toArray⟩, .slice ka kn kc, .int .i64 at_] 100)).alloc (.cells #[.int .i64 op, .int .i64 num, .string ⟨text.toArray⟩, .slice ka kn kc, .int .i64 at_] 100)).drew
          have kF := (((Keep.put5 w3 w.heap.size (.int .i64 7) (.int .i64 0) (.string ⟨#[33]⟩) (.slice (some ⟨w3.heap.size + 1, 0, none⟩) 1 1) (.int .i64 p)).alloc (.cells #[.int .i64 op, .int .i64 num, .string ⟨text.toArray⟩, .slice ka kn kc, .int .i64 at_] 100)).alloc (.cells #[.int .i64 op, .int .i64 num, .string ⟨text.toArray⟩, .slice ka kn kc, .int .i64 at_] 100)).drew
          have bK := (Blk.new ((((((w3.setCell ⟨w.heap.size, 0, none⟩ (.int .i64 7)).setCell ⟨w.heap.size, 1, none⟩ (.int .i64 0)).setCell ⟨w.heap.size, 2, none⟩ (.string ⟨#[33]⟩)).setCell ⟨w.heap.size, 3, none⟩ (.slice (some ⟨w3.heap.size + 1, 0, none⟩) 1 1)).setCell ⟨w.heap.size, 4, none⟩ (.int .i64 p)).alloc (.cells #[.int .i64 op, .int .i64 num, .string ⟨text.toArray⟩, .slice ka kn kc, .int .i64 at_] 100)) 100 [.int .i64 op, .int .i64 num, .string ⟨text.toArray⟩, .slice ka kn kc, .int .i64 at_]).drew
          rw [World.size_alloc, show (((((w3.setCell ⟨w.heap.size, 0, none⟩ (.int .i64 7)).setCell ⟨w.heap.size, 1, none⟩ (.int .i64 0)).setCell ⟨w.heap.size, 2, none⟩ (.string ⟨#[33]⟩)).setCell ⟨w.heap.size, 3, none⟩ (.slice (some ⟨w3.heap.size + 1, 0, none⟩) 1 1)).setCell ⟨w.heap.size, 4, none⟩ (.int .i64 p)).heap.size = w3.heap.size by simp [World.setCell]] at bK
          obtain ⟨x0, x1, x2, x3, x4, _⟩ := bF.fiveR
          have rF := r3.keep kF (by simp; omega)
          have lr := kr2.size
          have l2 := b02.lt
          go_wp2_with fail
          go_region
          all_goals go_wp2_with fail
          all_goals refine bodyPost_ret (v := .agg #[.int .i64 7, .int .i64 0, .string ⟨#[33]⟩, .slice (some ⟨w3.heap.size + 1, 0, none⟩) 1 1, .int .i64 p]) (by simp [results, Tryz.results102, go_sem, x0, x1, x2, x3, x4]) rfl ⟨⟨_, rfl, ⟨7, 0, [33], _, 1, 1, p, rfl⟩, fun x hg => ?_⟩, ?_, K3.trans kF (by simp)⟩
          · obtain ⟨r, hg⟩ := giv_ok hg
            rw [one_sg HT.out (.inr rfl)] at hg
            obtain ⟨y, h1, h2⟩ := giv_sq n (show Giv (sqR o _) (.ok ts.tail) x from ⟨ts.tail, r, rfl, hg⟩)
            obtain rfl := giv_ret h2
            have hy := (HX.out y h1).keep kF (by simp; omega) (w.heap.size ≤ ·) (fun b hb => by have hb' : w2.heap.size ≤ b := hb; omega)
            simp only [ExIs]
            exact ⟨_, by rw [HPP.out]; rfl, ex_row1 bK (by show w.heap.size ≤ w3.heap.size + 1; omega) hy⟩
          · simp only [aft]
            rw [one_sg HT.out (.inr rfl)]
            have : toS n (sgnR o [33] (headPlace ts) ts.tail) = aft n o (.ok ts.tail) := aft_sgn (S := .ok ts.tail)
            rw [this]
            exact rF
    · go_wp2_with fail
      refine (HP.out wr br n S hS rr).mono ?_
      rintro e' w3 ⟨⟨vs, rfl, ⟨op, num, text, ka, kn, kc, at_, rfl⟩, hx⟩, r3, k3⟩
      have HX := hid hx
      clear hx
      have bR := b0.keep k3 (by simp; omega)
      unfold ex0 at bR
      obtain ⟨e0, e1, e2, e3, e4, ef⟩ := bR.fiveR
      have bF := bR.put5 (.int .i64 op) (.int .i64 num) (.string ⟨text.toArray⟩) (.slice ka kn kc) (.int .i64 at_)
      have kF := Keep.put5 w3 w.heap.size (.int .i64 op) (.int .i64 num) (.string ⟨text.toArray⟩) (.slice ka kn kc) (.int .i64 at_)
      obtain ⟨x0, x1, x2, x3, x4, _⟩ := bF.fiveR
      have lr := kr.size
      go_wp2_with fail
      have hP : ∀ ts, S = .ok ts → oneS e o ts = primaryS e ts := fun ts h => by
        subst h
        exact one_no (hno.1 (by omega)) (hno.2 (by omega))
      refine bodyPost_ret (v := .agg #[.int .i64 op, .int .i64 num, .string ⟨text.toArray⟩, .slice ka kn kc, .int .i64 at_]) (by simp [results, Tryz.results102, go_sem, x0, x1, x2, x3, x4]) rfl ⟨⟨_, rfl, ⟨op, num, text, ka, kn, kc, at_, rfl⟩, fun x hg => ?_⟩, ?_, (kr.trans' k3).trans kF (by simp)⟩
      · have hg' : Giv (primaryS e) S x := by
          obtain ⟨ts, r, h1, h2⟩ := hg
          exact ⟨ts, r, h1, by rw [← hP ts h1]; exact h2⟩
        exact (HX.out x hg').keep kF (by simp; omega) _ (fun b hb => by have hb' : wr.heap.size ≤ b := hb; omega)
      · have : aft n (oneS e o) S = aft n (primaryS e) S := by
          cases S with
          | bad x p => rfl
          | ok ts => simp only [aft]; rw [hP ts rfl]
        rw [this]
        exact r3.keep kF (by simp; omega)
end Go.Proofs.YtaehlakefgnfmaaGreatDoor
