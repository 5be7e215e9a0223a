/-
  DERIVED. THE WALK of the document's reader's primary (printed by gen_re6.py).
-/
import Derived.Test.YtaehlakefgnfmaaGreatDoorRe5
namespace Go.Proofs.YtaehlakefgnfmaaGreatDoor
set_option linter.unusedSimpArgs false
set_option linter.unusedVariables false
set_option maxRecDepth 100000
open Go.RowKit

/-- What ends a function that gives an expression without things below it. -/
theorem exLeaf (w : World) (F : Nat → Prop) (op num : Nat) (text : List UInt8) (p : Nat) : ExIs w F (.mk op num text [] p) [.int .i64 op, .int .i64 num, .string ⟨text.toArray⟩, .slice none 0 0, .int .i64 p] := by
  simp only [ExIs]
  exact ⟨_, rfl, none, 0, [], rfl, Nat.le_refl _, CellsIn.nil _ _ _, by simp [ExsIs]⟩
set_option maxHeartbeats 16000000 in
theorem rPrim_num (w : World) (br n d : Nat) (E : Rd Ex) (t : Tok) (r : List Tok) (hr : ReAt w br n (.ok (t :: r))) (hk : t.kind = 2) : Calls Tryz.prog 105 #[.pointer (some ⟨br, 0, none⟩), .int .i64 d] w (ExPost w br n (.ok (t :: r)) (primaryS E)) := by
  have hlt := hr.lt
  obtain ⟨rto, hraw⟩ := (hr.ext ((Ext.refl w).alloc (.cells ex0.toArray 100))).raw
  unfold ex0 at hraw
  obtain ⟨tb, toff, rlen, rcap, rk, q1, q2, q3, q4, q5, qb, v0, v1, v2, v3, hmk, _⟩ := hraw.cons
  have hd : decide ((rlen : Int) ≤ (rk : Int)) = false := by simp; omega
  have hk' : ((rk : Int) + 1) ≤ 4096 := by omega
  have htb : tb < w.heap.size := by omega
  obtain ⟨u0, u1, u2, u3, u4, uf⟩ := qb.fiveR
  clear q4
  go_enter Tryz.func105, Tryz.ntmps105
  go_wp2_with fail
  refine (rPlace_raw _ br n 0 rto (t :: r) hraw).mono ?_
  rintro e' w1 ⟨rfl, mm, rfl⟩
  rw [show placeOf n (t :: r) = t.place from rfl]
  go_wp2_with fail
  go_quiet (fail)
  go_wp2_with fail
  go_region
  all_goals
    have hki : ((t.kind : Int) == 2) = true := by rw [hk]; rfl
    have hkj : ((t.kind : Int) == 3) = false := by rw [hk]; rfl
    have hspec : primaryS E (t :: r) = .ok (.mk 1 t.num [] [] t.place) r := by rw [primaryS_cons]; simp [hk]
    have HSP := hid hspec
    have kk1 := (Keep.drewN' [br] (w.alloc (.cells #[.int .i64 0, .int .i64 0, .string ⟨#[]⟩, .slice none 0 0, .int .i64 0] 100)) (mm + nq + 1)).trans' (Keep.set _ ⟨br, 1, none⟩ (.int .i64 ((rk : Int) + 1)))
    have qb1 := (qb.drewN (mm + nq + 1)).set 1 (.int .i64 ((rk : Int) + 1))
    simp only [List.set_cons_succ, List.set_cons_zero] at qb1
    have R1 := (hmk _ kk1 qb1).at
    have bR := ((Blk.new w 100 ex0).keep kk1 (by simp; omega))
    unfold ex0 at bR
    have bF := (bR.put5 (.int .i64 1) (.int .i64 t.num) (.string ⟨#[]⟩) (.slice none 0 0) (.int .i64 t.place)).alloc (.cells #[.int .i64 2, .string ⟨t.text.toArray⟩, .int .i64 t.num, .int .i64 t.place] 63)
    have kF := (Keep.put5 (((w.alloc (.cells #[.int .i64 0, .int .i64 0, .string ⟨#[]⟩, .slice none 0 0, .int .i64 0] 100)).drewN (mm + nq + 1)).setCell ⟨br, 1, none⟩ (.int .i64 ((rk : Int) + 1))) w.heap.size (.int .i64 1) (.int .i64 t.num) (.string ⟨#[]⟩) (.slice none 0 0) (.int .i64 t.place)).alloc (.cells #[.int .i64 2, .string ⟨t.text.toArray⟩, .int .i64 t.num, .int .i64 t.place] 63)
    have RF := R1.keep kF (by simp; omega)
    have KF := (((Keep.refl [br] w).alloc (.cells #[.int .i64 0, .int .i64 0, .string ⟨#[]⟩, .slice none 0 0, .int .i64 0] 100)).trans' kk1).trans kF (by simp)
    obtain ⟨x0, x1, x2, x3, x4, _⟩ := bF.fiveR
    clear hspec hmk
    go_wp2_with fail
    refine bodyPost_ret (v := .agg #[.int .i64 1, .int .i64 t.num, .string ⟨#[]⟩, .slice none 0 0, .int .i64 t.place]) (by simp [results, Tryz.results105, go_sem, x0, x1, x2, x3, x4]) rfl ⟨⟨_, rfl, ⟨1, t.num, [], none, 0, 0, t.place, rfl⟩, fun x hg => ?_⟩, ?_, KF⟩
    · obtain ⟨r', hg⟩ := giv_ok hg
      rw [HSP.out] at hg
      cases hg
      exact exLeaf _ _ _ _ _ _
    · simp only [aft]
      rw [HSP.out]
      exact RF
set_option maxHeartbeats 16000000 in
theorem rPrim_text (w : World) (br n d : Nat) (E : Rd Ex) (t : Tok) (r : List Tok) (hr : ReAt w br n (.ok (t :: r))) (hk : t.kind = 3) : Calls Tryz.prog 105 #[.pointer (some ⟨br, 0, none⟩), .int .i64 d] w (ExPost w br n (.ok (t :: r)) (primaryS E)) := by
  have hlt := hr.lt
  obtain ⟨rto, hraw⟩ := (hr.ext ((Ext.refl w).alloc (.cells ex0.toArray 100))).raw
  unfold ex0 at hraw
  obtain ⟨tb, toff, rlen, rcap, rk, q1, q2, q3, q4, q5, qb, v0, v1, v2, v3, hmk, _⟩ := hraw.cons
  have hd : decide ((rlen : Int) ≤ (rk : Int)) = false := by simp; omega
  have hk' : ((rk : Int) + 1) ≤ 4096 := by omega
  have htb : tb < w.heap.size := by omega
  obtain ⟨u0, u1, u2, u3, u4, uf⟩ := qb.fiveR
  clear q4
  go_enter Tryz.func105, Tryz.ntmps105
  go_wp2_with fail
  refine (rPlace_raw _ br n 0 rto (t :: r) hraw).mono ?_
  rintro e' w1 ⟨rfl, mm, rfl⟩
  rw [show placeOf n (t :: r) = t.place from rfl]
  go_wp2_with fail
  go_quiet (fail)
  go_wp2_with fail
  go_region
  all_goals
    have hki : ((t.kind : Int) == 2) = false := by rw [hk]; rfl
    have hkj : ((t.kind : Int) == 3) = true := by rw [hk]; rfl
    have hspec : primaryS E (t :: r) = .ok (.mk 3 0 t.text [] t.place) r := by rw [primaryS_cons]; simp [hk]
    have HSP := hid hspec
    have kk1 := (Keep.drewN' [br] (w.alloc (.cells #[.int .i64 0, .int .i64 0, .string ⟨#[]⟩, .slice none 0 0, .int .i64 0] 100)) (mm + nq + 1)).trans' (Keep.set _ ⟨br, 1, none⟩ (.int .i64 ((rk : Int) + 1)))
    have qb1 := (qb.drewN (mm + nq + 1)).set 1 (.int .i64 ((rk : Int) + 1))
    simp only [List.set_cons_succ, List.set_cons_zero] at qb1
    have R1 := (hmk _ kk1 qb1).at
    have bR := ((Blk.new w 100 ex0).keep kk1 (by simp; omega))
    unfold ex0 at bR
    have bF := (bR.put5 (.int .i64 3) (.int .i64 0) (.string ⟨t.text.toArray⟩) (.slice none 0 0) (.int .i64 t.place)).alloc (.cells #[.int .i64 3, .string ⟨t.text.toArray⟩, .int .i64 t.num, .int .i64 t.place] 63)
    have kF := (Keep.put5 (((w.alloc (.cells #[.int .i64 0, .int .i64 0, .string ⟨#[]⟩, .slice none 0 0, .int .i64 0] 100)).drewN (mm + nq + 1)).setCell ⟨br, 1, none⟩ (.int .i64 ((rk : Int) + 1))) w.heap.size (.int .i64 3) (.int .i64 0) (.string ⟨t.text.toArray⟩) (.slice none 0 0) (.int .i64 t.place)).alloc (.cells #[.int .i64 3, .string ⟨t.text.toArray⟩, .int .i64 t.num, .int .i64 t.place] 63)
    have RF := R1.keep kF (by simp; omega)
    have KF := (((Keep.refl [br] w).alloc (.cells #[.int .i64 0, .int .i64 0, .string ⟨#[]⟩, .slice none 0 0, .int .i64 0] 100)).trans' kk1).trans kF (by simp)
    obtain ⟨x0, x1, x2, x3, x4, _⟩ := bF.fiveR
    clear hspec hmk
    go_wp2_with fail
    refine bodyPost_ret (v := .agg #[.int .i64 3, .int .i64 0, .string ⟨t.text.toArray⟩, .slice none 0 0, .int .i64 t.place]) (by simp [results, Tryz.results105, go_sem, x0, x1, x2, x3, x4]) rfl ⟨⟨_, rfl, ⟨3, 0, t.text, none, 0, 0, t.place, rfl⟩, fun x hg => ?_⟩, ?_, KF⟩
    · obtain ⟨r', hg⟩ := giv_ok hg
      rw [HSP.out] at hg
      cases hg
      exact exLeaf _ _ _ _ _ _
    · simp only [aft]
      rw [HSP.out]
      exact RF
set_option maxHeartbeats 16000000 in
theorem rPrim_name (d : Nat) (E : Rd Ex) (hd33 : d ≤ 33) (hE : ExC Any 83 ((d : Int) + 1) E) (hI : Inv Ex.size WFx E) (w : World) (br n : Nat) (t : Tok) (r : List Tok) (hr : ReAt w br n (.ok (t :: r))) (hk : t.kind = 1) : Calls Tryz.prog 105 #[.pointer (some ⟨br, 0, none⟩), .int .i64 d] w (ExPost w br n (.ok (t :: r)) (primaryS E)) := by
  have HN := hid (rNamed_of d hd33 E hE hI)
  clear hE
  have hlt := hr.lt
  obtain ⟨rto, hraw⟩ := (hr.ext ((Ext.refl w).alloc (.cells ex0.toArray 100))).raw
  unfold ex0 at hraw
  obtain ⟨tb, toff, rlen, rcap, rk, q1, q2, q3, q4, q5, qb, v0, v1, v2, v3, hmk, _⟩ := hraw.cons
  have hd : decide ((rlen : Int) ≤ (rk : Int)) = false := by simp; omega
  have hk' : ((rk : Int) + 1) ≤ 4096 := by omega
  have htb : tb < w.heap.size := by omega
  obtain ⟨u0, u1, u2, u3, u4, uf⟩ := qb.fiveR
  clear q4
  go_enter Tryz.func105, Tryz.ntmps105
  go_wp2_with fail
  refine (rPlace_raw _ br n 0 rto (t :: r) hraw).mono ?_
  rintro e' w1 ⟨rfl, mm, rfl⟩
  rw [show placeOf n (t :: r) = t.place from rfl]
  go_wp2_with fail
  go_quiet (fail)
  go_wp2_with fail
  go_region
  all_goals
    have hki : ((t.kind : Int) == 2) = false := by rw [hk]; rfl
    have hkj : ((t.kind : Int) == 3) = false := by rw [hk]; rfl
    have hkl : ((t.kind : Int) == 1) = true := by rw [hk]; rfl
    have hspec : primaryS E (t :: r) = namedR E t.text t.place r := by rw [primaryS_cons]; simp [hk, namedR]
    have HSP := hid hspec
    have kk1 := (Keep.drewN' [br] (w.alloc (.cells #[.int .i64 0, .int .i64 0, .string ⟨#[]⟩, .slice none 0 0, .int .i64 0] 100)) (mm + nq + 1)).trans' (Keep.set _ ⟨br, 1, none⟩ (.int .i64 ((rk : Int) + 1)))
    have qb1 := (qb.drewN (mm + nq + 1)).set 1 (.int .i64 ((rk : Int) + 1))
    simp only [List.set_cons_succ, List.set_cons_zero] at qb1
    have R1 := (hmk _ kk1 qb1).at.ext ((Ext.refl _).alloc (.cells #[.int .i64 1, .string ⟨t.text.toArray⟩, .int .i64 t.num, .int .i64 t.place] 63))
    have bA := ((Blk.new w 100 ex0).keep kk1 (by simp; omega)).alloc (.cells #[.int .i64 1, .string ⟨t.text.toArray⟩, .int .i64 t.num, .int .i64 t.place] 63)
    have KA := (((Keep.refl [br] w).alloc (.cells #[.int .i64 0, .int .i64 0, .string ⟨#[]⟩, .slice none 0 0, .int .i64 0] 100)).trans' kk1).alloc (.cells #[.int .i64 1, .string ⟨t.text.toArray⟩, .int .i64 t.num, .int .i64 t.place] 63)
    have lA := bA.lt
    clear hspec hmk
    go_wp2_with fail
    refine (HN.out _ br n r t.text t.place R1).mono ?_
    rintro e' w3 ⟨⟨vs, rfl, ⟨op, num, text, ka, kn, kc, at_, rfl⟩, hx⟩, r3, k3⟩
    have HX := hid hx
    clear hx
    have bR := bA.keep k3 (by simp; omega)
    unfold ex0 at bR
    obtain ⟨e0, e1, e2, e3, e4, ef⟩ := bR.fiveR
    have bF := bR.put5 (.int .i64 op) (.int .i64 num) (.string ⟨text.toArray⟩) (.slice ka kn kc) (.int .i64 at_)
    have kF := Keep.put5 w3 w.heap.size (.int .i64 op) (.int .i64 num) (.string ⟨text.toArray⟩) (.slice ka kn kc) (.int .i64 at_)
    obtain ⟨x0, x1, x2, x3, x4, _⟩ := bF.fiveR
    go_wp2_with fail
    refine bodyPost_ret (v := .agg #[.int .i64 op, .int .i64 num, .string ⟨text.toArray⟩, .slice ka kn kc, .int .i64 at_]) (by simp [results, Tryz.results105, go_sem, x0, x1, x2, x3, x4]) rfl ⟨⟨_, rfl, ⟨op, num, text, ka, kn, kc, at_, rfl⟩, fun x hg => ?_⟩, ?_, (KA.trans' k3).trans kF (by simp)⟩
    · obtain ⟨r', hg⟩ := giv_ok hg
      rw [HSP.out] at hg
      exact (HX.out x ⟨r, r', rfl, hg⟩).keep kF (by simp; omega) _ (fun b hb => Nat.le_trans KA.size hb)
    · simp only [aft]
      rw [HSP.out]
      exact (show ReAt w3 br n (toS n (namedR E t.text t.place r)) from r3).keep kF (by simp; omega)
set_option maxHeartbeats 16000000 in
theorem rPrim_bad (w : World) (br n d : Nat) (E : Rd Ex) (x p : Nat) (hr : ReAt w br n (.bad x p)) : Calls Tryz.prog 105 #[.pointer (some ⟨br, 0, none⟩), .int .i64 d] w (ExPost w br n (.bad x p) (primaryS E)) := by
  have hlt := hr.lt
  have hrA := hr.ext ((Ext.refl w).alloc (.cells #[.int .i64 0, .int .i64 0, .string ⟨#[]⟩, .slice none 0 0, .int .i64 0] 100))
  obtain ⟨hx, rest, hraw⟩ := hrA.rawBad
  have hx0 : ((x : Int) != 0) = true := by simp; omega
  obtain ⟨ra, rlen, rcap, rk, _, _, _, rb, _⟩ := hraw.blk
  obtain ⟨c0, c1, c2, c3, c4, cf⟩ := rb.fiveR
  go_enter Tryz.func105, Tryz.ntmps105
  go_wp2_with fail
  refine (rPlace_raw _ br n x p rest hraw).mono ?_
  rintro e' w1 ⟨rfl, mm, rfl⟩
  go_wp2_with fail
  go_quiet (fail)
  go_wp2_with fail
  refine (rFail_any _ br n (.bad x p) (hrA.drewN _) 41 (by decide)).mono ?_
  rintro e' w3 ⟨rfl, r3, k3⟩
  have bR := ((Blk.new w 100 ex0).drewN _).keep k3 (by simp; omega)
  unfold ex0 at bR
  obtain ⟨e0, e1, e2, e3, e4, ef⟩ := bR.fiveR
  have bF := bR.put5 (.int .i64 0) (.int .i64 0) (.string ⟨#[]⟩) (.slice none 0 0) (.int .i64 0)
  have kF := Keep.put5 w3 w.heap.size (.int .i64 0) (.int .i64 0) (.string ⟨#[]⟩) (.slice none 0 0) (.int .i64 0)
  obtain ⟨x0, x1, x2, x3, x4, _⟩ := bF.fiveR
  have KA := (((Keep.refl [br] w).alloc (.cells #[.int .i64 0, .int .i64 0, .string ⟨#[]⟩, .slice none 0 0, .int .i64 0] 100)).trans' (Keep.drewN' _ _ _)).trans' k3
  clear c0 c1 c2 c3 c4 cf
  go_wp2_with fail
  refine bodyPost_ret (v := .agg #[.int .i64 0, .int .i64 0, .string ⟨#[]⟩, .slice none 0 0, .int .i64 0]) (by simp [results, Tryz.results105, go_sem, x0, x1, x2, x3, x4]) rfl ⟨⟨_, rfl, ⟨0, 0, [], none, 0, 0, 0, rfl⟩, fun x hg => (giv_bad hg).elim⟩, ?_, KA.trans kF (by simp)⟩
  exact (show ReAt w3 br n (.bad x p) from r3).keep kF (by simp; omega)
set_option maxHeartbeats 16000000 in
theorem rPrim_nil (w : World) (br n d : Nat) (E : Rd Ex) (hr : ReAt w br n (.ok [])) : Calls Tryz.prog 105 #[.pointer (some ⟨br, 0, none⟩), .int .i64 d] w (ExPost w br n (.ok []) (primaryS E)) := by
  have hlt := hr.lt
  have hrA := hr.ext ((Ext.refl w).alloc (.cells #[.int .i64 0, .int .i64 0, .string ⟨#[]⟩, .slice none 0 0, .int .i64 0] 100))
  obtain ⟨rto, hraw⟩ := hrA.raw
  obtain ⟨ra, rlen, rcap, _, _, rb⟩ := hraw.nil
  obtain ⟨c0, c1, c2, c3, c4, cf⟩ := rb.fiveR
  go_enter Tryz.func105, Tryz.ntmps105
  go_wp2_with fail
  refine (rPlace_raw _ br n 0 rto [] hraw).mono ?_
  rintro e' w1 ⟨rfl, mm, rfl⟩
  go_wp2_with fail
  go_quiet (fail)
  go_wp2_with fail
  refine (rFail_any _ br n (.ok []) (hrA.drewN _) 41 (by decide)).mono ?_
  rintro e' w3 ⟨rfl, r3, k3⟩
  have bR := ((Blk.new w 100 ex0).drewN _).keep k3 (by simp; omega)
  unfold ex0 at bR
  obtain ⟨e0, e1, e2, e3, e4, ef⟩ := bR.fiveR
  have bF := bR.put5 (.int .i64 0) (.int .i64 0) (.string ⟨#[]⟩) (.slice none 0 0) (.int .i64 0)
  have kF := Keep.put5 w3 w.heap.size (.int .i64 0) (.int .i64 0) (.string ⟨#[]⟩) (.slice none 0 0) (.int .i64 0)
  obtain ⟨x0, x1, x2, x3, x4, _⟩ := bF.fiveR
  have KA := (((Keep.refl [br] w).alloc (.cells #[.int .i64 0, .int .i64 0, .string ⟨#[]⟩, .slice none 0 0, .int .i64 0] 100)).trans' (Keep.drewN' _ _ _)).trans' k3
  clear c0 c1 c2 c3 c4 cf
  go_wp2_with fail
  refine bodyPost_ret (v := .agg #[.int .i64 0, .int .i64 0, .string ⟨#[]⟩, .slice none 0 0, .int .i64 0]) (by simp [results, Tryz.results105, go_sem, x0, x1, x2, x3, x4]) rfl ⟨⟨_, rfl, ⟨0, 0, [], none, 0, 0, 0, rfl⟩, fun x hg => ?_⟩, ?_, KA.trans kF (by simp)⟩
  · obtain ⟨r', hg⟩ := giv_ok hg
    cases hg
  · exact (show ReAt w3 br n (.bad 41 n) from r3).keep kF (by simp; omega)
/-- Not one of the words so far. -/
def PrNo (j : Nat) (us : List Tok) : Prop := (1 ≤ j → isSign [103, 101, 116] us = false) ∧ (2 ≤ j → isSign [104, 97, 115] us = false) ∧ (3 ≤ j → isSign [108, 101, 110] us = false)
theorem words_prim {E : Rd Ex} {t : Tok} {r : List Tok} (h1 : t.kind ≠ 1) (h2 : t.kind ≠ 2) (h3 : t.kind ≠ 3) : primaryS E (t :: r) = wordsS E (t :: r) := by
  rw [primaryS_cons]; simp [h1, h2, h3]
/-- A word with a thing in brackets. -/
def wrdR (E : Rd Ex) (op p : Nat) : Rd Ex := sqR (innerS E) (fun x => retR (.mk op 0 [] [x] p))
theorem aft_wrd {n : Nat} {E : Rd Ex} {op p : Nat} {S : Rz} : aft n (wrdR E op p) S = aft n (innerS E) S :=
  aft_sq (F := id) (fun _ S => aft_ret _ _ _) (fun _ _ => rfl)
set_option maxHeartbeats 32000000 in
theorem rPrim_word (d : Nat) (E : Rd Ex) (hd33 : d ≤ 33) (hE : ExC Any 83 ((d : Int) + 1) E) (w : World) (br n : Nat) (t : Tok) (r : List Tok) (hr : ReAt w br n (.ok (t :: r))) (h1 : t.kind ≠ 1) (h2 : t.kind ≠ 2) (h3 : t.kind ≠ 3) : Calls Tryz.prog 105 #[.pointer (some ⟨br, 0, none⟩), .int .i64 d] w (ExPost w br n (.ok (t :: r)) (primaryS E)) := by
  have HIN := hid (rInner_of Shut.any d hd33 E hE)
  have HW := hid (words_prim (E := E) (r := r) h1 h2 h3)
  have hki1 : ((t.kind : Int) == 1) = false := by simp; omega
  have hki2 : ((t.kind : Int) == 2) = false := by simp; omega
  have hki3 : ((t.kind : Int) == 3) = false := by simp; omega
  clear hE h1 h2 h3
  have hlt := hr.lt
  obtain ⟨rto, hraw⟩ := (hr.ext ((Ext.refl w).alloc (.cells ex0.toArray 100))).raw
  unfold ex0 at hraw
  obtain ⟨tb, toff, rlen, rcap, rk, q1, q2, q3, q4, q5, qb, v0, v1, v2, v3, hmk, _⟩ := hraw.cons
  have hd : decide ((rlen : Int) ≤ (rk : Int)) = false := by simp; omega
  have hk' : ((rk : Int) + 1) ≤ 4096 := by omega
  have htb : tb < w.heap.size := by omega
  obtain ⟨u0, u1, u2, u3, u4, uf⟩ := qb.fiveR
  clear q4
  go_enter Tryz.func105, Tryz.ntmps105
  go_wp2_with fail
  refine (rPlace_raw _ br n 0 rto (t :: r) hraw).mono ?_
  rintro e' w1 ⟨rfl, mm, rfl⟩
  rw [show placeOf n (t :: r) = t.place from rfl]
  go_wp2_with fail
  go_quiet (fail)
  go_wp2_with fail
  go_region
  all_goals
    have RA := (hr.ext ((Ext.refl w).alloc (.cells #[.int .i64 0, .int .i64 0, .string ⟨#[]⟩, .slice none 0 0, .int .i64 0] 100))).drewN (mm + nq + 1) |>.ext ((Ext.refl _).alloc (.cells #[.int .i64 t.kind, .string ⟨t.text.toArray⟩, .int .i64 t.num, .int .i64 t.place] 63))
    have bA := ((Blk.new w 100 ex0).drewN (mm + nq + 1)).alloc (.cells #[.int .i64 t.kind, .string ⟨t.text.toArray⟩, .int .i64 t.num, .int .i64 t.place] 63)
    have KA := (((Keep.refl [br] w).alloc (.cells #[.int .i64 0, .int .i64 0, .string ⟨#[]⟩, .slice none 0 0, .int .i64 0] 100)).trans' (Keep.drewN' _ _ (mm + nq + 1))).alloc (.cells #[.int .i64 t.kind, .string ⟨t.text.toArray⟩, .int .i64 t.num, .int .i64 t.place] 63)
    have lA := bA.lt
    clear hmk u0 u1 u2 u3 u4 uf v0 v1 v2 v3 qb
    cases hs : isSign [116, 114, 117, 101] (t :: r) with
    | true =>
      have HS := hid hs
      have HSP := hid (show primaryS E (t :: r) = .ok (.mk 2 1 [] [] t.place) r by rw [HW.out, wordsS, if_pos hs]; rfl)
      clear hs
      go_wp2_with fail
      refine (rTake_any _ br n _ RA [116, 114, 117, 101]).mono ?_
      rintro e' w3 ⟨rfl, rT, kT⟩
      rw [show isS [116, 114, 117, 101] (.ok (t :: r)) = true from HS.out]
      have bA3 := bA.keep kT (by simp; omega)
      have K3 := KA.trans' kT
      have R3 : ReAt w3 br n (.ok r) := by
        have := rT
        rw [tkS, if_pos HS.out] at this
        exact this
      unfold ex0 at bA3
      obtain ⟨e0, e1, e2, e3, e4, ef⟩ := bA3.fiveR
      have bF := bA3.put5 (.int .i64 2) (.int .i64 1) (.string ⟨#[]⟩) (.slice none 0 0) (.int .i64 t.place)
      have kF := Keep.put5 w3 w.heap.size (.int .i64 2) (.int .i64 1) (.string ⟨#[]⟩) (.slice none 0 0) (.int .i64 t.place)
      obtain ⟨x0, x1, x2, x3, x4, _⟩ := bF.fiveR
      go_wp2_with fail
      refine bodyPost_ret (v := .agg #[.int .i64 2, .int .i64 1, .string ⟨#[]⟩, .slice none 0 0, .int .i64 t.place]) (by simp [results, Tryz.results105, go_sem, x0, x1, x2, x3, x4]) rfl ⟨⟨_, rfl, ⟨2, 1, [], none, 0, 0, t.place, rfl⟩, fun x hg => ?_⟩, ?_, K3.trans kF (by simp)⟩
      · obtain ⟨r', hg⟩ := giv_ok hg
        rw [HSP.out] at hg
        cases hg
        exact exLeaf _ _ _ _ _ _
      · simp only [aft]
        rw [HSP.out]
        exact R3.keep kF (by simp; omega)
    | false =>
      have HS := hid hs
      have HS1 := hid hs
      clear hs
      go_wp2_with fail
      refine (rTake_any _ br n _ RA [116, 114, 117, 101]).mono ?_
      rintro e' w2 ⟨rfl, rT, kT⟩
      rw [show isS [116, 114, 117, 101] (.ok (t :: r)) = false from HS.out]
      rw [tkS_no (show isS [116, 114, 117, 101] (.ok (t :: r)) = false from HS.out)] at rT
      have RB := rT
      have bB := bA.keep kT (by simp; omega)
      have KB := KA.trans' kT
      have lB := bB.lt
      clear rT kT HS RA bA KA lA
      cases hs : isSign [102, 97, 108, 115, 101] (t :: r) with
      | true =>
        have HS := hid hs
        have HSP := hid (show primaryS E (t :: r) = .ok (.mk 2 0 [] [] t.place) r by rw [HW.out, wordsS, HS1.out, hs]; rfl)
        clear hs
        go_wp2_with fail
        refine (rTake_any w2 br n _ RB [102, 97, 108, 115, 101]).mono ?_
        rintro e' w3 ⟨rfl, rT, kT⟩
        rw [show isS [102, 97, 108, 115, 101] (.ok (t :: r)) = true from HS.out]
        have bA3 := bB.keep kT (by simp; omega)
        have K3 := KB.trans' kT
        have R3 : ReAt w3 br n (.ok r) := by
          have := rT
          rw [tkS, if_pos HS.out] at this
          exact this
        unfold ex0 at bA3
        obtain ⟨e0, e1, e2, e3, e4, ef⟩ := bA3.fiveR
        have bF := bA3.put5 (.int .i64 2) (.int .i64 0) (.string ⟨#[]⟩) (.slice none 0 0) (.int .i64 t.place)
        have kF := Keep.put5 w3 w.heap.size (.int .i64 2) (.int .i64 0) (.string ⟨#[]⟩) (.slice none 0 0) (.int .i64 t.place)
        obtain ⟨x0, x1, x2, x3, x4, _⟩ := bF.fiveR
        go_wp2_with fail
        refine bodyPost_ret (v := .agg #[.int .i64 2, .int .i64 0, .string ⟨#[]⟩, .slice none 0 0, .int .i64 t.place]) (by simp [results, Tryz.results105, go_sem, x0, x1, x2, x3, x4]) rfl ⟨⟨_, rfl, ⟨2, 0, [], none, 0, 0, t.place, rfl⟩, fun x hg => ?_⟩, ?_, K3.trans kF (by simp)⟩
        · obtain ⟨r', hg⟩ := giv_ok hg
          rw [HSP.out] at hg
          cases hg
          exact exLeaf _ _ _ _ _ _
        · simp only [aft]
          rw [HSP.out]
          exact R3.keep kF (by simp; omega)
      | false =>
        have HS := hid hs
        have HS2 := hid hs
        clear hs
        go_wp2_with fail
        refine (rTake_any w2 br n _ RB [102, 97, 108, 115, 101]).mono ?_
        rintro e' w4 ⟨rfl, rT, kT⟩
        rw [show isS [102, 97, 108, 115, 101] (.ok (t :: r)) = false from HS.out]
        rw [tkS_no (show isS [102, 97, 108, 115, 101] (.ok (t :: r)) = false from HS.out)] at rT
        have RC := rT
        have bC := bB.keep kT (by simp; omega)
        have KC := KB.trans' kT
        have lC := bC.lt
        clear rT kT HS RB bB KB lB
        cases hs : isSign [40] (t :: r) with
        | true =>
          have HS := hid hs
          have HSP := hid (show primaryS E (t :: r) = innerS E (t :: r) by rw [HW.out, wordsS, HS1.out, HS2.out, hs]; rfl)
          clear hs
          go_wp2_with fail
          refine (rIs_any w4 br n _ RC [40]).mono ?_
          rintro e' w5 ⟨rfl, mq, rfl⟩
          rw [show isS [40] (.ok (t :: r)) = true from HS.out]
          go_wp2_with fail
          refine (HIN.out _ br n _ trivial (RC.drewN mq)).mono ?_
          rintro e' w3 ⟨⟨vs, rfl, ⟨op, num, text, ka, kn, kc, at_, rfl⟩, hx⟩, r3, k3⟩
          have bA := bC.drewN mq
          have KA := KC.trans' (Keep.drewN' _ _ mq)
          have lA := bA.lt
          have HX := hid hx
          clear hx
          have bR := bA.keep k3 (by simp; omega)
          unfold ex0 at bR
          obtain ⟨e0, e1, e2, e3, e4, ef⟩ := bR.fiveR
          have bF := bR.put5 (.int .i64 op) (.int .i64 num) (.string ⟨text.toArray⟩) (.slice ka kn kc) (.int .i64 at_)
          have kF := Keep.put5 w3 w.heap.size (.int .i64 op) (.int .i64 num) (.string ⟨text.toArray⟩) (.slice ka kn kc) (.int .i64 at_)
          obtain ⟨x0, x1, x2, x3, x4, _⟩ := bF.fiveR
          go_wp2_with fail
          refine bodyPost_ret (v := .agg #[.int .i64 op, .int .i64 num, .string ⟨text.toArray⟩, .slice ka kn kc, .int .i64 at_]) (by simp [results, Tryz.results105, go_sem, x0, x1, x2, x3, x4]) rfl ⟨⟨_, rfl, ⟨op, num, text, ka, kn, kc, at_, rfl⟩, fun x hg => ?_⟩, ?_, (KA.trans' k3).trans kF (by simp)⟩
          · obtain ⟨r', hg⟩ := giv_ok hg
            rw [HSP.out] at hg
            exact (HX.out x ⟨_, r', rfl, hg⟩).keep kF (by simp; omega) _ (fun b hb => Nat.le_trans KA.size hb)
          · simp only [aft]
            rw [HSP.out]
            exact (show ReAt w3 br n (toS n (innerS E (t :: r))) from r3).keep kF (by simp; omega)
        | false =>
          have HS := hid hs
          have HS3 := hid hs
          clear hs
          go_wp2_with fail
          refine (rIs_any w4 br n _ RC [40]).mono ?_
          rintro e' w5 ⟨rfl, mq, rfl⟩
          rw [show isS [40] (.ok (t :: r)) = false from HS.out]
          have RD := (RC.drewN mq).ext ((Ext.refl _).alloc (.cells #[.string ⟨#[103, 101, 116]⟩, .string ⟨#[104, 97, 115]⟩, .string ⟨#[108, 101, 110]⟩] 9))
          have bD := (bC.drewN mq).alloc (.cells #[.string ⟨#[103, 101, 116]⟩, .string ⟨#[104, 97, 115]⟩, .string ⟨#[108, 101, 110]⟩] 9)
          have bN := Blk.new (w4.drewN mq) 9 [.string ⟨#[103, 101, 116]⟩, .string ⟨#[104, 97, 115]⟩, .string ⟨#[108, 101, 110]⟩]
          have KD := (KC.trans' (Keep.drewN' _ _ mq)).alloc (.cells #[.string ⟨#[103, 101, 116]⟩, .string ⟨#[104, 97, 115]⟩, .string ⟨#[108, 101, 110]⟩] 9)
          have bN' : Blk ((w4.drewN mq).alloc (.cells #[.string ⟨#[103, 101, 116]⟩, .string ⟨#[104, 97, 115]⟩, .string ⟨#[108, 101, 110]⟩] 9)) w4.heap.size 9 [.string ⟨#[103, 101, 116]⟩, .string ⟨#[104, 97, 115]⟩, .string ⟨#[108, 101, 110]⟩] := bN
          clear bN
          go_wp2_with fail
          go_loopw [8] (fun i wr => ∃ j : Nat, j ≤ 3 ∧ i = .int .i64 j ∧ ReAt wr br n (.ok (t :: r)) ∧ Blk wr w.heap.size 100 ex0 ∧ Blk wr w4.heap.size 9 [.string ⟨#[103, 101, 116]⟩, .string ⟨#[104, 97, 115]⟩, .string ⟨#[108, 101, 110]⟩] ∧ Keep [br] w wr ∧ PrNo j (t :: r)) (fun i _ => 3 - (intOf i).toNat)
          case atStart => exact ⟨0, by omega, rfl, RD, bD, bN', KD, fun h => by omega, fun h => by omega, fun h => by omega⟩
          case round =>
            obtain ⟨j, hj, rfl, rr, b0, bn, kr, hno⟩ := hrel
            have hn0 := bn.cell 0
            have hn1 := bn.cell 1
            have hn2 := bn.cell 2
            have ln := bn.lt
            have l0 := b0.lt
            simp only [List.getElem?_cons_zero, List.getElem?_cons_succ] at hn0 hn1 hn2
            clear RD bD bN' KD
            rcases (by omega : j = 3 ∨ j = 0 ∨ j = 1 ∨ j = 2) with rfl | rfl | rfl | rfl
            · go_wp2_with fail
              refine (rFail_any wr br n _ rr 41 (by decide)).mono ?_
              rintro e' w3 ⟨rfl, r3, k3⟩
              have bR := b0.keep k3 (by simp; omega)
              unfold ex0 at bR
              obtain ⟨e0, e1, e2, e3, e4, ef⟩ := bR.fiveR
              have bF := bR.put5 (.int .i64 0) (.int .i64 0) (.string ⟨#[]⟩) (.slice none 0 0) (.int .i64 0)
              have kF := Keep.put5 w3 w.heap.size (.int .i64 0) (.int .i64 0) (.string ⟨#[]⟩) (.slice none 0 0) (.int .i64 0)
              obtain ⟨x0, x1, x2, x3, x4, _⟩ := bF.fiveR
              have HSP := hid (show primaryS E (t :: r) = .err 41 (t :: r) by rw [HW.out, wordsS, HS1.out, HS2.out, HS3.out, hno.1 (by omega), hno.2.1 (by omega)]; simp [must, hno.2.2 (by omega)])
              go_wp2_with fail
              refine bodyPost_ret (v := .agg #[.int .i64 0, .int .i64 0, .string ⟨#[]⟩, .slice none 0 0, .int .i64 0]) (by simp [results, Tryz.results105, go_sem, x0, x1, x2, x3, x4]) rfl ⟨⟨_, rfl, ⟨0, 0, [], none, 0, 0, 0, rfl⟩, fun x hg => ?_⟩, ?_, (kr.trans' k3).trans kF (by simp)⟩
              · obtain ⟨r', hg⟩ := giv_ok hg
                rw [HSP.out] at hg
                cases hg
              · simp only [aft]
                rw [HSP.out]
                exact (show ReAt w3 br n (.bad 41 t.place) from r3).keep kF (by simp; omega)
            · cases hs : isSign [103, 101, 116] (t :: r) with
              | false =>
                have HS := hid hs
                clear hs
                go_wp2_with fail
                refine (rTake_any wr br n _ rr [103, 101, 116]).mono ?_
                rintro e' w6 ⟨rfl, rT, kT⟩
                rw [show isS [103, 101, 116] (.ok (t :: r)) = false from HS.out]
                rw [tkS_no (show isS [103, 101, 116] (.ok (t :: r)) = false from HS.out)] at rT
                have b06 := b0.keep kT (by simp; omega)
                have bn6 := bn.keep kT (by simp; omega)
                have kr6 := kr.trans' kT
                go_wp2_with fail
                go_roundw
                case rel => exact ⟨1, by omega, rfl, rT, b06, bn6, kr6, fun _ => HS.out, fun h => by omega, fun h => by omega⟩
                case measure => simp [intOf]
              | true =>
                have HS := hid hs
                have HSP := hid (show primaryS E (t :: r) = wrdR E 8 t.place r by rw [HW.out, wordsS, HS1.out, HS2.out, HS3.out, hs]; rfl)
                clear hs
                go_wp2_with fail
                refine (rTake_any wr br n _ rr [103, 101, 116]).mono ?_
                rintro e' w6 ⟨rfl, rT, kT⟩
                rw [show isS [103, 101, 116] (.ok (t :: r)) = true from HS.out]
                have R6 : ReAt w6 br n (.ok r) := by
                  have := rT
                  rw [tkS, if_pos HS.out] at this
                  exact this
                have b06 := b0.keep kT (by simp; omega)
                have kr6 := kr.trans' kT
                have l06 := b06.lt
                clear rT
                go_wp2_with fail
                refine (HIN.out w6 br n _ trivial R6).mono ?_
                rintro e' w3 ⟨⟨vs, rfl, ⟨op, num, text, ka, kn, kc, at_, rfl⟩, hx⟩, r3, k3⟩
                have HX := hid hx
                clear hx
                have bR := b06.keep k3 (by simp; omega)
                have K3 := kr6.trans' k3
                have lR := bR.lt
                unfold ex0 at bR
                obtain ⟨g0, g1, g2, g3, g4, gf⟩ := bR.fiveR
                have b5 := Blk.new w3 100 [.int .i64 op, .int .i64 num, .string ⟨text.toArray⟩, .slice ka kn kc, .int .i64 at_]
                obtain ⟨y0, y1, y2, y3, y4, yf⟩ := b5.fiveR
                have bF := (((bR.put5 (.int .i64 8) (.int .i64 0) (.string ⟨#[]⟩) (.slice (some ⟨w3.heap.size + 1, 0, none⟩) 1 1) (.int .i64 t.place)).alloc (.cells #[.int .i64 op, .int .i64 num, .string ⟨text.toArray⟩, .slice ka kn kc, .int .i64 at_] 100)).alloc (.cells #[.int .i64 op, .int .i64 num, .string ⟨text.toArray⟩, .slice ka kn kc, .int .i64 at_] 100))
                have kF := (((Keep.put5 w3 w.heap.size (.int .i64 8) (.int .i64 0) (.string ⟨#[]⟩) (.slice (some ⟨w3.heap.size + 1, 0, none⟩) 1 1) (.int .i64 t.place)).alloc (.cells #[.int .i64 op, .int .i64 num, .string ⟨text.toArray⟩, .slice ka kn kc, .int .i64 at_] 100)).alloc (.cells #[.int .i64 op, .int .i64 num, .string ⟨text.toArray⟩, .slice ka kn kc, .int .i64 at_] 100))
                have bK := (Blk.new ((((((w3.setCell ⟨w.heap.size, 0, none⟩ (.int .i64 8)).setCell ⟨w.heap.size, 1, none⟩ (.int .i64 0)).setCell ⟨w.heap.size, 2, none⟩ (.string ⟨#[]⟩)).setCell ⟨w.heap.size, 3, none⟩ (.slice (some ⟨w3.heap.size + 1, 0, none⟩) 1 1)).setCell ⟨w.heap.size, 4, none⟩ (.int .i64 t.place)).alloc (.cells #[.int .i64 op, .int .i64 num, .string ⟨text.toArray⟩, .slice ka kn kc, .int .i64 at_] 100)) 100 [.int .i64 op, .int .i64 num, .string ⟨text.toArray⟩, .slice ka kn kc, .int .i64 at_])
                rw [World.size_alloc, show (((((w3.setCell ⟨w.heap.size, 0, none⟩ (.int .i64 8)).setCell ⟨w.heap.size, 1, none⟩ (.int .i64 0)).setCell ⟨w.heap.size, 2, none⟩ (.string ⟨#[]⟩)).setCell ⟨w.heap.size, 3, none⟩ (.slice (some ⟨w3.heap.size + 1, 0, none⟩) 1 1)).setCell ⟨w.heap.size, 4, none⟩ (.int .i64 t.place)).heap.size = w3.heap.size by simp [World.setCell]] at bK
                obtain ⟨x0, x1, x2, x3, x4, _⟩ := bF.fiveR
                have rF := r3.keep kF (by simp; omega)
                go_wp2_with fail
                refine bodyPost_ret (v := .agg #[.int .i64 8, .int .i64 0, .string ⟨#[]⟩, .slice (some ⟨w3.heap.size + 1, 0, none⟩) 1 1, .int .i64 t.place]) (by simp [results, Tryz.results105, go_sem, x0, x1, x2, x3, x4]) rfl ⟨⟨_, rfl, ⟨8, 0, [], _, 1, 1, t.place, rfl⟩, fun x hg => ?_⟩, ?_, K3.trans kF (by simp)⟩
                · obtain ⟨r', hg⟩ := giv_ok hg
                  rw [HSP.out] at hg
                  obtain ⟨y, h1, h2⟩ := giv_sq n (show Giv (sqR (innerS E) _) (.ok r) x from ⟨r, r', rfl, hg⟩)
                  obtain rfl := giv_ret h2
                  have hy := (HX.out y h1).keep kF (by simp; omega) (w.heap.size ≤ ·) (fun b hb => by have hb' : w6.heap.size ≤ b := hb; omega)
                  simp only [ExIs]
                  exact ⟨_, rfl, ex_row1 bK (by show w.heap.size ≤ w3.heap.size + 1; omega) hy⟩
                · simp only [aft]
                  rw [HSP.out]
                  have : toS n (wrdR E 8 t.place r) = aft n (innerS E) (.ok r) := aft_wrd (S := .ok r)
                  rw [this]
                  exact rF
            · cases hs : isSign [104, 97, 115] (t :: r) with
              | false =>
                have HS := hid hs
                clear hs
                go_wp2_with fail
                refine (rTake_any wr br n _ rr [104, 97, 115]).mono ?_
                rintro e' w6 ⟨rfl, rT, kT⟩
                rw [show isS [104, 97, 115] (.ok (t :: r)) = false from HS.out]
                rw [tkS_no (show isS [104, 97, 115] (.ok (t :: r)) = false from HS.out)] at rT
                have b06 := b0.keep kT (by simp; omega)
                have bn6 := bn.keep kT (by simp; omega)
                have kr6 := kr.trans' kT
                go_wp2_with fail
                go_roundw
                case rel => exact ⟨2, by omega, rfl, rT, b06, bn6, kr6, fun _ => hno.1 (by omega), fun _ => HS.out, fun h => by omega⟩
                case measure => simp [intOf]
              | true =>
                have HS := hid hs
                have HSP := hid (show primaryS E (t :: r) = wrdR E 9 t.place r by rw [HW.out, wordsS, HS1.out, HS2.out, HS3.out, hno.1 (by omega), hs]; rfl)
                clear hs
                go_wp2_with fail
                refine (rTake_any wr br n _ rr [104, 97, 115]).mono ?_
                rintro e' w6 ⟨rfl, rT, kT⟩
                rw [show isS [104, 97, 115] (.ok (t :: r)) = true from HS.out]
                have R6 : ReAt w6 br n (.ok r) := by
                  have := rT
                  rw [tkS, if_pos HS.out] at this
                  exact this
                have b06 := b0.keep kT (by simp; omega)
                have kr6 := kr.trans' kT
                have l06 := b06.lt
                clear rT
                go_wp2_with fail
                refine (HIN.out w6 br n _ trivial R6).mono ?_
                rintro e' w3 ⟨⟨vs, rfl, ⟨op, num, text, ka, kn, kc, at_, rfl⟩, hx⟩, r3, k3⟩
                have HX := hid hx
                clear hx
                have bR := b06.keep k3 (by simp; omega)
                have K3 := kr6.trans' k3
                have lR := bR.lt
                unfold ex0 at bR
                obtain ⟨g0, g1, g2, g3, g4, gf⟩ := bR.fiveR
                have b5 := Blk.new w3 100 [.int .i64 op, .int .i64 num, .string ⟨text.toArray⟩, .slice ka kn kc, .int .i64 at_]
                obtain ⟨y0, y1, y2, y3, y4, yf⟩ := b5.fiveR
                have bF := (((bR.put5 (.int .i64 9) (.int .i64 0) (.string ⟨#[]⟩) (.slice (some ⟨w3.heap.size + 1, 0, none⟩) 1 1) (.int .i64 t.place)).alloc (.cells #[.int .i64 op, .int .i64 num, .string ⟨text.toArray⟩, .slice ka kn kc, .int .i64 at_] 100)).alloc (.cells #[.int .i64 op, .int .i64 num, .string ⟨text.toArray⟩, .slice ka kn kc, .int .i64 at_] 100))
                have kF := (((Keep.put5 w3 w.heap.size (.int .i64 9) (.int .i64 0) (.string ⟨#[]⟩) (.slice (some ⟨w3.heap.size + 1, 0, none⟩) 1 1) (.int .i64 t.place)).alloc (.cells #[.int .i64 op, .int .i64 num, .string ⟨text.toArray⟩, .slice ka kn kc, .int .i64 at_] 100)).alloc (.cells #[.int .i64 op, .int .i64 num, .string ⟨text.toArray⟩, .slice ka kn kc, .int .i64 at_] 100))
                have bK := (Blk.new ((((((w3.setCell ⟨w.heap.size, 0, none⟩ (.int .i64 9)).setCell ⟨w.heap.size, 1, none⟩ (.int .i64 0)).setCell ⟨w.heap.size, 2, none⟩ (.string ⟨#[]⟩)).setCell ⟨w.heap.size, 3, none⟩ (.slice (some ⟨w3.heap.size + 1, 0, none⟩) 1 1)).setCell ⟨w.heap.size, 4, none⟩ (.int .i64 t.place)).alloc (.cells #[.int .i64 op, .int .i64 num, .string ⟨text.toArray⟩, .slice ka kn kc, .int .i64 at_] 100)) 100 [.int .i64 op, .int .i64 num, .string ⟨text.toArray⟩, .slice ka kn kc, .int .i64 at_])
                rw [World.size_alloc, show (((((w3.setCell ⟨w.heap.size, 0, none⟩ (.int .i64 9)).setCell ⟨w.heap.size, 1, none⟩ (.int .i64 0)).setCell ⟨w.heap.size, 2, none⟩ (.string ⟨#[]⟩)).setCell ⟨w.heap.size, 3, none⟩ (.slice (some ⟨w3.heap.size + 1, 0, none⟩) 1 1)).setCell ⟨w.heap.size, 4, none⟩ (.int .i64 t.place)).heap.size = w3.heap.size by simp [World.setCell]] at bK
                obtain ⟨x0, x1, x2, x3, x4, _⟩ := bF.fiveR
                have rF := r3.keep kF (by simp; omega)
                go_wp2_with fail
                refine bodyPost_ret (v := .agg #[.int .i64 9, .int .i64 0, .string ⟨#[]⟩, .slice (some ⟨w3.heap.size + 1, 0, none⟩) 1 1, .int .i64 t.place]) (by simp [results, Tryz.results105, go_sem, x0, x1, x2, x3, x4]) rfl ⟨⟨_, rfl, ⟨9, 0, [], _, 1, 1, t.place, rfl⟩, fun x hg => ?_⟩, ?_, K3.trans kF (by simp)⟩
                · obtain ⟨r', hg⟩ := giv_ok hg
                  rw [HSP.out] at hg
                  obtain ⟨y, h1, h2⟩ := giv_sq n (show Giv (sqR (innerS E) _) (.ok r) x from ⟨r, r', rfl, hg⟩)
                  obtain rfl := giv_ret h2
                  have hy := (HX.out y h1).keep kF (by simp; omega) (w.heap.size ≤ ·) (fun b hb => by have hb' : w6.heap.size ≤ b := hb; omega)
                  simp only [ExIs]
                  exact ⟨_, rfl, ex_row1 bK (by show w.heap.size ≤ w3.heap.size + 1; omega) hy⟩
                · simp only [aft]
                  rw [HSP.out]
                  have : toS n (wrdR E 9 t.place r) = aft n (innerS E) (.ok r) := aft_wrd (S := .ok r)
                  rw [this]
                  exact rF
            · cases hs : isSign [108, 101, 110] (t :: r) with
              | false =>
                have HS := hid hs
                clear hs
                go_wp2_with fail
                refine (rTake_any wr br n _ rr [108, 101, 110]).mono ?_
                rintro e' w6 ⟨rfl, rT, kT⟩
                rw [show isS [108, 101, 110] (.ok (t :: r)) = false from HS.out]
                rw [tkS_no (show isS [108, 101, 110] (.ok (t :: r)) = false from HS.out)] at rT
                have b06 := b0.keep kT (by simp; omega)
                have bn6 := bn.keep kT (by simp; omega)
                have kr6 := kr.trans' kT
                go_wp2_with fail
                go_roundw
                case rel => exact ⟨3, by omega, rfl, rT, b06, bn6, kr6, fun _ => hno.1 (by omega), fun _ => hno.2.1 (by omega), fun _ => HS.out⟩
                case measure => simp [intOf]
              | true =>
                have HS := hid hs
                have HSP := hid (show primaryS E (t :: r) = wrdR E 10 t.place r by rw [HW.out, wordsS, HS1.out, HS2.out, HS3.out, hno.1 (by omega), hno.2.1 (by omega)]; simp only [must, hs]; rfl)
                clear hs
                go_wp2_with fail
                refine (rTake_any wr br n _ rr [108, 101, 110]).mono ?_
                rintro e' w6 ⟨rfl, rT, kT⟩
                rw [show isS [108, 101, 110] (.ok (t :: r)) = true from HS.out]
                have R6 : ReAt w6 br n (.ok r) := by
                  have := rT
                  rw [tkS, if_pos HS.out] at this
                  exact this
                have b06 := b0.keep kT (by simp; omega)
                have kr6 := kr.trans' kT
                have l06 := b06.lt
                clear rT
                go_wp2_with fail
                refine (HIN.out w6 br n _ trivial R6).mono ?_
                rintro e' w3 ⟨⟨vs, rfl, ⟨op, num, text, ka, kn, kc, at_, rfl⟩, hx⟩, r3, k3⟩
                have HX := hid hx
                clear hx
                have bR := b06.keep k3 (by simp; omega)
                have K3 := kr6.trans' k3
                have lR := bR.lt
                unfold ex0 at bR
                obtain ⟨g0, g1, g2, g3, g4, gf⟩ := bR.fiveR
                have b5 := Blk.new w3 100 [.int .i64 op, .int .i64 num, .string ⟨text.toArray⟩, .slice ka kn kc, .int .i64 at_]
                obtain ⟨y0, y1, y2, y3, y4, yf⟩ := b5.fiveR
                have bF := (((bR.put5 (.int .i64 10) (.int .i64 0) (.string ⟨#[]⟩) (.slice (some ⟨w3.heap.size + 1, 0, none⟩) 1 1) (.int .i64 t.place)).alloc (.cells #[.int .i64 op, .int .i64 num, .string ⟨text.toArray⟩, .slice ka kn kc, .int .i64 at_] 100)).alloc (.cells #[.int .i64 op, .int .i64 num, .string ⟨text.toArray⟩, .slice ka kn kc, .int .i64 at_] 100))
                have kF := (((Keep.put5 w3 w.heap.size (.int .i64 10) (.int .i64 0) (.string ⟨#[]⟩) (.slice (some ⟨w3.heap.size + 1, 0, none⟩) 1 1) (.int .i64 t.place)).alloc (.cells #[.int .i64 op, .int .i64 num, .string ⟨text.toArray⟩, .slice ka kn kc, .int .i64 at_] 100)).alloc (.cells #[.int .i64 op, .int .i64 num, .string ⟨text.toArray⟩, .slice ka kn kc, .int .i64 at_] 100))
                have bK := (Blk.new ((((((w3.setCell ⟨w.heap.size, 0, none⟩ (.int .i64 10)).setCell ⟨w.heap.size, 1, none⟩ (.int .i64 0)).setCell ⟨w.heap.size, 2, none⟩ (.string ⟨#[]⟩)).setCell ⟨w.heap.size, 3, none⟩ (.slice (some ⟨w3.heap.size + 1, 0, none⟩) 1 1)).setCell ⟨w.heap.size, 4, none⟩ (.int .i64 t.place)).alloc (.cells #[.int .i64 op, .int .i64 num, .string ⟨text.toArray⟩, .slice ka kn kc, .int .i64 at_] 100)) 100 [.int .i64 op, .int .i64 num, .string ⟨text.toArray⟩, .slice ka kn kc, .int .i64 at_])
                rw [World.size_alloc, show (((((w3.setCell ⟨w.heap.size, 0, none⟩ (.int .i64 10)).setCell ⟨w.heap.size, 1, none⟩ (.int .i64 0)).setCell ⟨w.heap.size, 2, none⟩ (.string ⟨#[]⟩)).setCell ⟨w.heap.size, 3, none⟩ (.slice (some ⟨w3.heap.size + 1, 0, none⟩) 1 1)).setCell ⟨w.heap.size, 4, none⟩ (.int .i64 t.place)).heap.size = w3.heap.size by simp [World.setCell]] at bK
                obtain ⟨x0, x1, x2, x3, x4, _⟩ := bF.fiveR
                have rF := r3.keep kF (by simp; omega)
                go_wp2_with fail
                refine bodyPost_ret (v := .agg #[.int .i64 10, .int .i64 0, .string ⟨#[]⟩, .slice (some ⟨w3.heap.size + 1, 0, none⟩) 1 1, .int .i64 t.place]) (by simp [results, Tryz.results105, go_sem, x0, x1, x2, x3, x4]) rfl ⟨⟨_, rfl, ⟨10, 0, [], _, 1, 1, t.place, rfl⟩, fun x hg => ?_⟩, ?_, K3.trans kF (by simp)⟩
                · obtain ⟨r', hg⟩ := giv_ok hg
                  rw [HSP.out] at hg
                  obtain ⟨y, h1, h2⟩ := giv_sq n (show Giv (sqR (innerS E) _) (.ok r) x from ⟨r, r', rfl, hg⟩)
                  obtain rfl := giv_ret h2
                  have hy := (HX.out y h1).keep kF (by simp; omega) (w.heap.size ≤ ·) (fun b hb => by have hb' : w6.heap.size ≤ b := hb; omega)
                  simp only [ExIs]
                  exact ⟨_, rfl, ex_row1 bK (by show w.heap.size ≤ w3.heap.size + 1; omega) hy⟩
                · simp only [aft]
                  rw [HSP.out]
                  have : toS n (wrdR E 10 t.place r) = aft n (innerS E) (.ok r) := aft_wrd (S := .ok r)
                  rw [this]
                  exact rF
/-- PRIMARY, in states of a kind. -/
theorem rPrim_of {A : Rz → Prop} (d : Nat) (E : Rd Ex) (hd33 : d ≤ 33) (hE : (∃ ts, A (.ok ts)) → ExC Any 83 ((d : Int) + 1) E) (hI : Inv Ex.size WFx E) : ExC A 105 d (primaryS E) := by
  intro w br n S hS hr
  cases S with
  | bad x p => exact rPrim_bad w br n d E x p hr
  | ok ts =>
    have hE' := hE ⟨ts, hS⟩
    cases ts with
    | nil => exact rPrim_nil w br n d E hr
    | cons t r =>
      by_cases h2 : t.kind = 2
      · exact rPrim_num w br n d E t r hr h2
      · by_cases h3 : t.kind = 3
        · exact rPrim_text w br n d E t r hr h3
        · by_cases h1 : t.kind = 1
          · exact rPrim_name d E hd33 hE' hI w br n t r hr h1
          · exact rPrim_word d E hd33 hE' w br n t r hr h1 h2 h3
end Go.Proofs.YtaehlakefgnfmaaGreatDoor
