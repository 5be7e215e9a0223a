/-
  DERIVED. THE WALK of stmt (printed by gen_stmt.py).
-/
import Derived.Test.YtaehlakefgnfmaaGreatDoorStm
namespace Go.Proofs.YtaehlakefgnfmaaGreatDoor
set_option linter.unusedSimpArgs false
set_option linter.unusedVariables false
set_option maxRecDepth 100000
open Go.RowKit

theorem wf_of_res {α : Type} {f : Rd α} {sz : α → Nat} {P : α → Prop} (hi : Inv sz P f) {ts r : List Tok} {a : α} (hw : Wf ts) (h : f ts = .ok a r) : Wf r := by
  have := hi ts hw
  rw [h] at this
  exact this.2.2
theorem st_sign_ne {s : List UInt8} {ts : List Tok} (h : isSign s ts = true) : ts ≠ [] := by
  rintro rfl
  simp [isSign] at h
theorem ne_of_res {f : Rd Ex} (hi : Inv Ex.size WFx f) {ts r : List Tok} {a : Ex} (hw : Wf ts) (h : f ts = .ok a r) : ts ≠ [] := by
  rintro rfl
  have := hi [] hw
  rw [h] at this
  have h1 : a.size + r.length ≤ 0 := this.1
  have := a.size_pos
  omega

set_option maxHeartbeats 8000000 in
theorem stmt_let (d : Nat) (hd : d ≤ 100) (p : Rd Ex) (b : Rd (List St)) (hC : ExprC 80 (d + 1) p) (hi : Inv Ex.size WFx p) (hB : BlockC (d + 1) b) (hib : Inv (fun l => sumOf St.size l + 1) (AllP WFs) b) (w : World) (br n : Nat) (ts : List Tok) (hr : RdAt w br n ts) (hw : Wf ts)  (y : isSign [108, 101, 116] ts = true) :
    Calls Tryz.prog 59 #[.pointer (some ⟨br, 0, none⟩), .int .i64 d] w (Ans w br n (encS w.heap.size) (stmtS p b ts)) := by
  have HR := hid (show stmtS p b ts = _ by unfold stmtS; rw [if_pos y])
  have HPL := hid (place_eq (n := n) (st_sign_ne y))
  have Y := hid y
  have HC := hid hC
  have HI := hid hi
  have HB := hid hB
  have HIB := hid hib
  clear hC hi hB hib  y
  have S00 := stAt_begin (d := d) hr (placeOf n ts)
  have lr := hr.lt
  have r3 := ((hr.ext ((Ext.refl _).alloc (.cells #[.pointer (some ⟨br, 0, none⟩)] 44))).ext ((Ext.refl _).alloc (.cells #[.int .i64 d] 3))).ext ((Ext.refl _).alloc (.cells #[.int .i64 0, .string ⟨#[]⟩, .slice none 0 0, .slice none 0 0, .slice none 0 0, .int .i64 0] 78))
  have hmf : ∀ (fn : Fn) (first cap : Array Value) (w : World), (Instr.makeFunc fn first cap).run Tryz.prog w = .ok (.func fn first cap) w := fun _ _ _ _ => rfl
  generalize stmtS p b ts = R at HR ⊢
  have hS := hid S00
  clear S00
  go_enter Tryz.func59, Tryz.ntmps59
  go_wp2_with fail
  (with_reducible refine (place_any _ br n ts r3).mono ?_)
  rintro e1 w' ⟨rfl, rfl⟩
  go_wp2_with fail
  (with_reducible refine (take_yes _ br n ts hS.out.rd _ Y.out).mono ?_)
  rintro e1 w1 ⟨rfl, r1, k1⟩
  have S1 := hS.out.move r1 k1
  clear r1 k1
  obtain ⟨c2, c3, ⟨x0, x1, x2, x3, x4, x5, xf⟩, ⟨z0, z1, z2, z3, z4, z5, zf⟩⟩ := S1.cells
  go_wp2_with fail
  cases h2 : isName (List.tail ts) with
  | false =>
    have H2 := hid h2
    have HRe := hid (show R = .err 41 (List.tail ts) from HR.out.trans (name_f h2))
    clear h2
    (with_reducible refine (name_no _ br n (List.tail ts) S1.rd H2.out).mono ?_)
    rintro e1 w2 ⟨rfl, k2⟩
    go_wp2_with fail
    refine ⟨rfl, ?_⟩
    rw [HRe.out]
    exact ⟨rfl, S1.keep.trans' k2⟩
  | true =>
    have H2 := hid h2
    have HR2 := hid (HR.out.trans (name_t h2))
    clear h2
    (with_reducible refine (name_yes _ br n (List.tail ts) S1.rd H2.out).mono ?_)
    rintro e1 w2 ⟨rfl, r2, k2⟩
    have S2 := S1.move r2 k2
    clear c2 c3 x0 x1 x2 x3 x4 x5 xf z0 z1 z2 z3 z4 z5 zf
    clear r2 k2
    obtain ⟨c2, c3, ⟨x0, x1, x2, x3, x4, x5, xf⟩, ⟨z0, z1, z2, z3, z4, z5, zf⟩⟩ := S2.cells
    go_wp2_with fail
    have T2 := (S2.setOp 1 (.int .i64 1) rfl).setText (headText (List.tail ts))
    cases h3 : isSign [61] (List.tail (List.tail ts)) with
    | false =>
      have H3 := hid h3
      have HRe := hid (show R = .err 41 (List.tail (List.tail ts)) from HR2.out.trans (must_f h3))
      clear h3
      (with_reducible refine (mustN _ br n (List.tail (List.tail ts)) T2.rd _ H3.out _ (by simp [World.setCell])).mono ?_)
      rintro e1 w3 ⟨rfl, k3⟩
      go_wp2_with fail
      refine ⟨rfl, ?_⟩
      rw [HRe.out]
      exact ⟨rfl, T2.keep.trans' k3⟩
    | true =>
      have H3 := hid h3
      have HR3 := hid (HR2.out.trans (must_t h3))
      clear h3
      (with_reducible refine (mustY _ br n (List.tail (List.tail ts)) T2.rd _ H3.out _ (by simp [World.setCell])).mono ?_)
      rintro e1 w3 ⟨rfl, r3, k3⟩
      have S3 := T2.move r3 k3
      clear c2 c3 x0 x1 x2 x3 x4 x5 xf z0 z1 z2 z3 z4 z5 zf
      clear r3 k3
      obtain ⟨c2, c3, ⟨x0, x1, x2, x3, x4, x5, xf⟩, ⟨z0, z1, z2, z3, z4, z5, zf⟩⟩ := S3.cells
      go_wp2_with fail
      refine (st_kid hd p HC.out S3 hw.tail.tail.tail (by simp)).mono ?_
      cases h4 : p (List.tail (List.tail (List.tail ts))) with
      | err ce4 rr4 =>
        have HRe := hid (show R = .err ce4 rr4 from HR3.out.trans (bind_f h4))
        clear h4
        rintro e1 w4 ⟨rfl, k4⟩
        go_wp2_with fail
        refine ⟨rfl, ?_⟩
        rw [HRe.out]
        exact ⟨rfl, k4⟩
      | ok y4 rr4 =>
        have HR4 := hid (HR3.out.trans (bind_t h4))
        have HW4 := hid (wf_of_res HI.out hw.tail.tail.tail h4)
        have hne4 := ne_of_res HI.out hw.tail.tail.tail h4
        clear h4
        rintro e1 w4 ⟨rfl, se4, S4⟩
        obtain ⟨sa4, sk4, sc4, rfl⟩ := S4.form
        clear c2 c3 x0 x1 x2 x3 x4 x5 xf z0 z1 z2 z3 z4 z5 zf
        obtain ⟨c2, c3, ⟨x0, x1, x2, x3, x4, x5, xf⟩, ⟨z0, z1, z2, z3, z4, z5, zf⟩⟩ := S4.cells
        go_wp2_with fail
        cases h5 : isSign [59] rr4 with
        | false =>
          have H5 := hid h5
          have HRe := hid (show R = .err 41 rr4 from HR4.out.trans (must_f h5))
          clear h5
          (with_reducible refine (mustN _ br n rr4 S4.rd _ H5.out _ (by simp [World.setCell])).mono ?_)
          rintro e1 w5 ⟨rfl, k5⟩
          go_wp2_with fail
          refine ⟨rfl, ?_⟩
          rw [HRe.out]
          exact ⟨rfl, S4.keep.trans' k5⟩
        | true =>
          have H5 := hid h5
          have HR5 := hid (HR4.out.trans (must_t h5))
          clear h5
          (with_reducible refine (mustY _ br n rr4 S4.rd _ H5.out _ (by simp [World.setCell])).mono ?_)
          rintro e1 w5 ⟨rfl, r5, k5⟩
          have S5 := S4.move r5 k5
          clear c2 c3 x0 x1 x2 x3 x4 x5 xf z0 z1 z2 z3 z4 z5 zf
          clear r5 k5
          obtain ⟨c2, c3, ⟨x0, x1, x2, x3, x4, x5, xf⟩, ⟨z0, z1, z2, z3, z4, z5, zf⟩⟩ := S5.cells
          go_wp2_with fail
          obtain ⟨wF, hwF, BF, rF, kF, hX⟩ := S5.done.ans (.int .i64 1) rfl
          rw [← hwF]
          obtain ⟨q0, q1, q2, q3, q4, q5, _⟩ := BF.six
          refine bodyPost_ret (by simp [results, Tryz.results59, go_sem, q0, q1, q2, q3, q4, q5]; rfl) rfl ?_
          rw [show R = .ok (.mk 1 (headText (List.tail ts)) [y4] [] [] (placeOf n ts)) (List.tail rr4) by rw [HPL.out]; exact HR5.out]
          exact ⟨_, rfl, hX, rF, kF⟩

set_option maxHeartbeats 8000000 in
theorem stmt_if (d : Nat) (hd : d ≤ 100) (p : Rd Ex) (b : Rd (List St)) (hC : ExprC 80 (d + 1) p) (hi : Inv Ex.size WFx p) (hB : BlockC (d + 1) b) (hib : Inv (fun l => sumOf St.size l + 1) (AllP WFs) b) (w : World) (br n : Nat) (ts : List Tok) (hr : RdAt w br n ts) (hw : Wf ts) (n0 : isSign [108, 101, 116] ts = false) (y : isSign [105, 102] ts = true) :
    Calls Tryz.prog 59 #[.pointer (some ⟨br, 0, none⟩), .int .i64 d] w (Ans w br n (encS w.heap.size) (stmtS p b ts)) := by
  have HR := hid (show stmtS p b ts = _ by unfold stmtS; rw [if_neg (by rw [n0]; decide), if_pos y])
  have HPL := hid (place_eq (n := n) (st_sign_ne y))
  have N0 := hid n0
  have Y := hid y
  have HC := hid hC
  have HI := hid hi
  have HB := hid hB
  have HIB := hid hib
  clear hC hi hB hib n0 y
  have S00 := stAt_begin (d := d) hr (placeOf n ts)
  have lr := hr.lt
  have r3 := ((hr.ext ((Ext.refl _).alloc (.cells #[.pointer (some ⟨br, 0, none⟩)] 44))).ext ((Ext.refl _).alloc (.cells #[.int .i64 d] 3))).ext ((Ext.refl _).alloc (.cells #[.int .i64 0, .string ⟨#[]⟩, .slice none 0 0, .slice none 0 0, .slice none 0 0, .int .i64 0] 78))
  have hmf : ∀ (fn : Fn) (first cap : Array Value) (w : World), (Instr.makeFunc fn first cap).run Tryz.prog w = .ok (.func fn first cap) w := fun _ _ _ _ => rfl
  generalize stmtS p b ts = R at HR ⊢
  have hS := hid S00
  clear S00
  go_enter Tryz.func59, Tryz.ntmps59
  go_wp2_with fail
  (with_reducible refine (place_any _ br n ts r3).mono ?_)
  rintro e1 w' ⟨rfl, rfl⟩
  go_wp2_with fail
  (with_reducible refine (take_no _ br n ts hS.out.rd _ N0.out).mono ?_)
  rintro e1 w1 ⟨rfl, r1, k1⟩
  have S1 := hS.out.move r1 k1
  clear r1 k1
  obtain ⟨c2, c3, ⟨x0, x1, x2, x3, x4, x5, xf⟩, ⟨z0, z1, z2, z3, z4, z5, zf⟩⟩ := S1.cells
  go_wp2_with fail
  (with_reducible refine (take_yes _ br n ts S1.rd _ Y.out).mono ?_)
  rintro e1 w2 ⟨rfl, r2, k2⟩
  have S2 := S1.move r2 k2
  clear c2 c3 x0 x1 x2 x3 x4 x5 xf z0 z1 z2 z3 z4 z5 zf
  clear r2 k2
  obtain ⟨c2, c3, ⟨x0, x1, x2, x3, x4, x5, xf⟩, ⟨z0, z1, z2, z3, z4, z5, zf⟩⟩ := S2.cells
  go_wp2_with fail
  have T3 := S2.setOp 3 (.int .i64 3) rfl
  refine (st_kid hd p HC.out T3 hw.tail (by simp)).mono ?_
  cases h4 : p (List.tail ts) with
  | err ce4 rr4 =>
    have HRe := hid (show R = .err ce4 rr4 from HR.out.trans (bind_f h4))
    clear h4
    rintro e1 w4 ⟨rfl, k4⟩
    go_wp2_with fail
    refine ⟨rfl, ?_⟩
    rw [HRe.out]
    exact ⟨rfl, k4⟩
  | ok y4 rr4 =>
    have HR4 := hid (HR.out.trans (bind_t h4))
    have HW4 := hid (wf_of_res HI.out hw.tail h4)
    have hne4 := ne_of_res HI.out hw.tail h4
    clear h4
    rintro e1 w4 ⟨rfl, se4, S4⟩
    obtain ⟨sa4, sk4, sc4, rfl⟩ := S4.form
    clear c2 c3 x0 x1 x2 x3 x4 x5 xf z0 z1 z2 z3 z4 z5 zf
    obtain ⟨c2, c3, ⟨x0, x1, x2, x3, x4, x5, xf⟩, ⟨z0, z1, z2, z3, z4, z5, zf⟩⟩ := S4.cells
    go_wp2_with fail
    refine (HB.out _ br n rr4 S4.rd HW4.out).mono ?_
    cases h5 : b rr4 with
    | err ce5 rr5 =>
      have HRe := hid (show R = .err ce5 rr5 from HR4.out.trans (bind_f h5))
      clear h5
      rintro e1 w5 ⟨rfl, k5⟩
      go_wp2_with fail
      refine ⟨rfl, ?_⟩
      rw [HRe.out]
      exact ⟨rfl, S4.keep.trans' k5⟩
    | ok y5 rr5 =>
      have HR5 := hid (HR4.out.trans (bind_t h5))
      have HW5 := hid (wf_of_res HIB.out HW4.out h5)
      clear h5
      rintro e1 w5 ⟨v5, rfl, hv5, r5, k5⟩
      obtain ⟨va5, vc5, vk5, rfl, hvr5⟩ := hv5
      have hvx5 : encB _ w5 y5 _ := ⟨va5, vc5, vk5, rfl, hvr5⟩
      clear hvr5
      have hsz5 := S4.size
      have S5 := S4.done.move r5 k5
      clear c2 c3 x0 x1 x2 x3 x4 x5 xf z0 z1 z2 z3 z4 z5 zf
      clear r5 k5
      obtain ⟨c2, c3, ⟨x0, x1, x2, x3, x4, x5, xf⟩, ⟨z0, z1, z2, z3, z4, z5, zf⟩⟩ := S5.cells
      go_wp2_with fail
      have T5 := S5.setBody hvx5 hsz5
      cases h6 : isSign [101, 108, 115, 101] rr5 with
      | false =>
        have H6 := hid h6
        have HR6a := hid (show R = .ok (.mk 3 [] [y4] y5 [] (headPlace ts)) rr5 by rw [HR5.out, if_neg (by rw [h6]; decide)])
        clear h6
        (with_reducible refine (take_no _ br n rr5 T5.rd _ H6.out).mono ?_)
        rintro e1 w6 ⟨rfl, r6, k6⟩
        have S6 := T5.move r6 k6
        clear c2 c3 x0 x1 x2 x3 x4 x5 xf z0 z1 z2 z3 z4 z5 zf
        obtain ⟨c2, c3, ⟨x0, x1, x2, x3, x4, x5, xf⟩, ⟨z0, z1, z2, z3, z4, z5, zf⟩⟩ := S6.cells
        go_wp2_with fail
        obtain ⟨wF, hwF, BF, rF, kF, hX⟩ := S6.ans (.int .i64 3) rfl
        rw [← hwF]
        obtain ⟨q0, q1, q2, q3, q4, q5, _⟩ := BF.six
        refine bodyPost_ret (by simp [results, Tryz.results59, go_sem, q0, q1, q2, q3, q4, q5]; rfl) rfl ?_
        rw [show R = .ok (.mk 3 [] [y4] y5 [] (placeOf n ts)) rr5 by rw [HPL.out]; exact HR6a.out]
        exact ⟨_, rfl, hX, rF, kF⟩
      | true =>
        have H6 := hid h6
        have HR6 := hid (show R = (b (List.tail rr5)).bind fun el r => .ok (.mk 3 [] [y4] y5 el (headPlace ts)) r by rw [HR5.out, if_pos h6])
        clear h6
        (with_reducible refine (take_yes _ br n rr5 T5.rd _ H6.out).mono ?_)
        rintro e1 w6 ⟨rfl, r6, k6⟩
        have S6 := T5.move r6 k6
        clear c2 c3 x0 x1 x2 x3 x4 x5 xf z0 z1 z2 z3 z4 z5 zf
        obtain ⟨c2, c3, ⟨x0, x1, x2, x3, x4, x5, xf⟩, ⟨z0, z1, z2, z3, z4, z5, zf⟩⟩ := S6.cells
        go_wp2_with fail
        refine (HB.out _ br n (List.tail rr5) S6.rd HW5.out.tail).mono ?_
        cases h7 : b (List.tail rr5) with
        | err ce7 rr7 =>
          have HRe := hid (show R = .err ce7 rr7 from HR6.out.trans (bind_f h7))
          clear h7
          rintro e1 w7 ⟨rfl, k7⟩
          go_wp2_with fail
          refine ⟨rfl, ?_⟩
          rw [HRe.out]
          exact ⟨rfl, S6.keep.trans' k7⟩
        | ok y7 rr7 =>
          have HR7 := hid (HR6.out.trans (bind_t h7))
          have HW7 := hid (wf_of_res HIB.out HW5.out.tail h7)
          clear h7
          rintro e1 w7 ⟨v7, rfl, hv7, r7, k7⟩
          obtain ⟨va7, vc7, vk7, rfl, hvr7⟩ := hv7
          have hvx7 : encB _ w7 y7 _ := ⟨va7, vc7, vk7, rfl, hvr7⟩
          clear hvr7
          have hsz7 := S6.size
          have S7 := S6.move r7 k7
          clear c2 c3 x0 x1 x2 x3 x4 x5 xf z0 z1 z2 z3 z4 z5 zf
          clear r7 k7
          obtain ⟨c2, c3, ⟨x0, x1, x2, x3, x4, x5, xf⟩, ⟨z0, z1, z2, z3, z4, z5, zf⟩⟩ := S7.cells
          go_wp2_with fail
          have T7 := S7.setElse hvx7 hsz7
          obtain ⟨wF, hwF, BF, rF, kF, hX⟩ := T7.ans (.int .i64 3) rfl
          rw [← hwF]
          obtain ⟨q0, q1, q2, q3, q4, q5, _⟩ := BF.six
          refine bodyPost_ret (by simp [results, Tryz.results59, go_sem, q0, q1, q2, q3, q4, q5]; rfl) rfl ?_
          rw [show R = .ok (.mk 3 [] [y4] y5 y7 (placeOf n ts)) rr7 by rw [HPL.out]; exact HR7.out]
          exact ⟨_, rfl, hX, rF, kF⟩

set_option maxHeartbeats 8000000 in
theorem stmt_for (d : Nat) (hd : d ≤ 100) (p : Rd Ex) (b : Rd (List St)) (hC : ExprC 80 (d + 1) p) (hi : Inv Ex.size WFx p) (hB : BlockC (d + 1) b) (hib : Inv (fun l => sumOf St.size l + 1) (AllP WFs) b) (w : World) (br n : Nat) (ts : List Tok) (hr : RdAt w br n ts) (hw : Wf ts) (n0 : isSign [108, 101, 116] ts = false) (n1 : isSign [105, 102] ts = false) (y : isSign [102, 111, 114] ts = true) :
    Calls Tryz.prog 59 #[.pointer (some ⟨br, 0, none⟩), .int .i64 d] w (Ans w br n (encS w.heap.size) (stmtS p b ts)) := by
  have HR := hid (show stmtS p b ts = _ by unfold stmtS; rw [if_neg (by rw [n0]; decide), if_neg (by rw [n1]; decide), if_pos y])
  have HPL := hid (place_eq (n := n) (st_sign_ne y))
  have N0 := hid n0
  have N1 := hid n1
  have Y := hid y
  have HC := hid hC
  have HI := hid hi
  have HB := hid hB
  have HIB := hid hib
  clear hC hi hB hib n0 n1 y
  have S00 := stAt_begin (d := d) hr (placeOf n ts)
  have lr := hr.lt
  have r3 := ((hr.ext ((Ext.refl _).alloc (.cells #[.pointer (some ⟨br, 0, none⟩)] 44))).ext ((Ext.refl _).alloc (.cells #[.int .i64 d] 3))).ext ((Ext.refl _).alloc (.cells #[.int .i64 0, .string ⟨#[]⟩, .slice none 0 0, .slice none 0 0, .slice none 0 0, .int .i64 0] 78))
  have hmf : ∀ (fn : Fn) (first cap : Array Value) (w : World), (Instr.makeFunc fn first cap).run Tryz.prog w = .ok (.func fn first cap) w := fun _ _ _ _ => rfl
  generalize stmtS p b ts = R at HR ⊢
  have hS := hid S00
  clear S00
  go_enter Tryz.func59, Tryz.ntmps59
  go_wp2_with fail
  (with_reducible refine (place_any _ br n ts r3).mono ?_)
  rintro e1 w' ⟨rfl, rfl⟩
  go_wp2_with fail
  (with_reducible refine (take_no _ br n ts hS.out.rd _ N0.out).mono ?_)
  rintro e1 w1 ⟨rfl, r1, k1⟩
  have S1 := hS.out.move r1 k1
  clear r1 k1
  obtain ⟨c2, c3, ⟨x0, x1, x2, x3, x4, x5, xf⟩, ⟨z0, z1, z2, z3, z4, z5, zf⟩⟩ := S1.cells
  go_wp2_with fail
  (with_reducible refine (take_no _ br n ts S1.rd _ N1.out).mono ?_)
  rintro e1 w2 ⟨rfl, r2, k2⟩
  have S2 := S1.move r2 k2
  clear c2 c3 x0 x1 x2 x3 x4 x5 xf z0 z1 z2 z3 z4 z5 zf
  clear r2 k2
  obtain ⟨c2, c3, ⟨x0, x1, x2, x3, x4, x5, xf⟩, ⟨z0, z1, z2, z3, z4, z5, zf⟩⟩ := S2.cells
  go_wp2_with fail
  (with_reducible refine (take_yes _ br n ts S2.rd _ Y.out).mono ?_)
  rintro e1 w3 ⟨rfl, r3, k3⟩
  have S3 := S2.move r3 k3
  clear c2 c3 x0 x1 x2 x3 x4 x5 xf z0 z1 z2 z3 z4 z5 zf
  clear r3 k3
  obtain ⟨c2, c3, ⟨x0, x1, x2, x3, x4, x5, xf⟩, ⟨z0, z1, z2, z3, z4, z5, zf⟩⟩ := S3.cells
  go_wp2_with fail
  cases h4 : isName (List.tail ts) with
  | false =>
    have H4 := hid h4
    have HRe := hid (show R = .err 41 (List.tail ts) from HR.out.trans (name_f h4))
    clear h4
    (with_reducible refine (name_no _ br n (List.tail ts) S3.rd H4.out).mono ?_)
    rintro e1 w4 ⟨rfl, k4⟩
    go_wp2_with fail
    refine ⟨rfl, ?_⟩
    rw [HRe.out]
    exact ⟨rfl, S3.keep.trans' k4⟩
  | true =>
    have H4 := hid h4
    have HR4 := hid (HR.out.trans (name_t h4))
    clear h4
    (with_reducible refine (name_yes _ br n (List.tail ts) S3.rd H4.out).mono ?_)
    rintro e1 w4 ⟨rfl, r4, k4⟩
    have S4 := S3.move r4 k4
    clear c2 c3 x0 x1 x2 x3 x4 x5 xf z0 z1 z2 z3 z4 z5 zf
    clear r4 k4
    obtain ⟨c2, c3, ⟨x0, x1, x2, x3, x4, x5, xf⟩, ⟨z0, z1, z2, z3, z4, z5, zf⟩⟩ := S4.cells
    go_wp2_with fail
    have T4 := (S4.setOp 4 (.int .i64 4) rfl).setText (headText (List.tail ts))
    cases h5 : isSign [61] (List.tail (List.tail ts)) with
    | false =>
      have H5 := hid h5
      have HRe := hid (show R = .err 41 (List.tail (List.tail ts)) from HR4.out.trans (must_f h5))
      clear h5
      (with_reducible refine (mustN _ br n (List.tail (List.tail ts)) T4.rd _ H5.out _ (by simp [World.setCell])).mono ?_)
      rintro e1 w5 ⟨rfl, k5⟩
      go_wp2_with fail
      refine ⟨rfl, ?_⟩
      rw [HRe.out]
      exact ⟨rfl, T4.keep.trans' k5⟩
    | true =>
      have H5 := hid h5
      have HR5 := hid (HR4.out.trans (must_t h5))
      clear h5
      (with_reducible refine (mustY _ br n (List.tail (List.tail ts)) T4.rd _ H5.out _ (by simp [World.setCell])).mono ?_)
      rintro e1 w5 ⟨rfl, r5, k5⟩
      have S5 := T4.move r5 k5
      clear c2 c3 x0 x1 x2 x3 x4 x5 xf z0 z1 z2 z3 z4 z5 zf
      clear r5 k5
      obtain ⟨c2, c3, ⟨x0, x1, x2, x3, x4, x5, xf⟩, ⟨z0, z1, z2, z3, z4, z5, zf⟩⟩ := S5.cells
      go_wp2_with fail
      refine (st_kid hd p HC.out S5 hw.tail.tail.tail (by simp)).mono ?_
      cases h6 : p (List.tail (List.tail (List.tail ts))) with
      | err ce6 rr6 =>
        have HRe := hid (show R = .err ce6 rr6 from HR5.out.trans (bind_f h6))
        clear h6
        rintro e1 w6 ⟨rfl, k6⟩
        go_wp2_with fail
        refine ⟨rfl, ?_⟩
        rw [HRe.out]
        exact ⟨rfl, k6⟩
      | ok y6 rr6 =>
        have HR6 := hid (HR5.out.trans (bind_t h6))
        have HW6 := hid (wf_of_res HI.out hw.tail.tail.tail h6)
        have hne6 := ne_of_res HI.out hw.tail.tail.tail h6
        clear h6
        rintro e1 w6 ⟨rfl, se6, S6⟩
        obtain ⟨sa6, sk6, sc6, rfl⟩ := S6.form
        clear c2 c3 x0 x1 x2 x3 x4 x5 xf z0 z1 z2 z3 z4 z5 zf
        obtain ⟨c2, c3, ⟨x0, x1, x2, x3, x4, x5, xf⟩, ⟨z0, z1, z2, z3, z4, z5, zf⟩⟩ := S6.cells
        go_wp2_with fail
        cases h7 : isSign [116, 111] rr6 with
        | false =>
          have H7 := hid h7
          have HRe := hid (show R = .err 41 rr6 from HR6.out.trans (must_f h7))
          clear h7
          (with_reducible refine (mustN _ br n rr6 S6.rd _ H7.out _ (by simp [World.setCell])).mono ?_)
          rintro e1 w7 ⟨rfl, k7⟩
          go_wp2_with fail
          refine ⟨rfl, ?_⟩
          rw [HRe.out]
          exact ⟨rfl, S6.keep.trans' k7⟩
        | true =>
          have H7 := hid h7
          have HR7 := hid (HR6.out.trans (must_t h7))
          clear h7
          (with_reducible refine (mustY _ br n rr6 S6.rd _ H7.out _ (by simp [World.setCell])).mono ?_)
          rintro e1 w7 ⟨rfl, r7, k7⟩
          have S7 := S6.move r7 k7
          clear c2 c3 x0 x1 x2 x3 x4 x5 xf z0 z1 z2 z3 z4 z5 zf
          clear r7 k7
          obtain ⟨c2, c3, ⟨x0, x1, x2, x3, x4, x5, xf⟩, ⟨z0, z1, z2, z3, z4, z5, zf⟩⟩ := S7.cells
          go_wp2_with fail
          refine (st_kid hd p HC.out S7 HW6.out.tail (by simp)).mono ?_
          cases h8 : p (List.tail rr6) with
          | err ce8 rr8 =>
            have HRe := hid (show R = .err ce8 rr8 from HR7.out.trans (bind_f h8))
            clear h8
            rintro e1 w8 ⟨rfl, k8⟩
            go_wp2_with fail
            refine ⟨rfl, ?_⟩
            rw [HRe.out]
            exact ⟨rfl, k8⟩
          | ok y8 rr8 =>
            have HR8 := hid (HR7.out.trans (bind_t h8))
            have HW8 := hid (wf_of_res HI.out HW6.out.tail h8)
            have hne8 := ne_of_res HI.out HW6.out.tail h8
            clear h8
            rintro e1 w8 ⟨rfl, se8, S8⟩
            obtain ⟨sa8, sk8, sc8, rfl⟩ := S8.form
            clear c2 c3 x0 x1 x2 x3 x4 x5 xf z0 z1 z2 z3 z4 z5 zf
            obtain ⟨c2, c3, ⟨x0, x1, x2, x3, x4, x5, xf⟩, ⟨z0, z1, z2, z3, z4, z5, zf⟩⟩ := S8.cells
            go_wp2_with fail
            refine (HB.out _ br n rr8 S8.rd HW8.out).mono ?_
            cases h9 : b rr8 with
            | err ce9 rr9 =>
              have HRe := hid (show R = .err ce9 rr9 from HR8.out.trans (bind_f h9))
              clear h9
              rintro e1 w9 ⟨rfl, k9⟩
              go_wp2_with fail
              refine ⟨rfl, ?_⟩
              rw [HRe.out]
              exact ⟨rfl, S8.keep.trans' k9⟩
            | ok y9 rr9 =>
              have HR9 := hid (HR8.out.trans (bind_t h9))
              have HW9 := hid (wf_of_res HIB.out HW8.out h9)
              clear h9
              rintro e1 w9 ⟨v9, rfl, hv9, r9, k9⟩
              obtain ⟨va9, vc9, vk9, rfl, hvr9⟩ := hv9
              have hvx9 : encB _ w9 y9 _ := ⟨va9, vc9, vk9, rfl, hvr9⟩
              clear hvr9
              have hsz9 := S8.size
              have S9 := S8.done.move r9 k9
              clear c2 c3 x0 x1 x2 x3 x4 x5 xf z0 z1 z2 z3 z4 z5 zf
              clear r9 k9
              obtain ⟨c2, c3, ⟨x0, x1, x2, x3, x4, x5, xf⟩, ⟨z0, z1, z2, z3, z4, z5, zf⟩⟩ := S9.cells
              go_wp2_with fail
              have T9 := S9.setBody hvx9 hsz9
              obtain ⟨wF, hwF, BF, rF, kF, hX⟩ := T9.ans (.int .i64 4) rfl
              rw [← hwF]
              obtain ⟨q0, q1, q2, q3, q4, q5, _⟩ := BF.six
              refine bodyPost_ret (by simp [results, Tryz.results59, go_sem, q0, q1, q2, q3, q4, q5]; rfl) rfl ?_
              rw [show R = .ok (.mk 4 (headText (List.tail ts)) [y6, y8] y9 [] (placeOf n ts)) rr9 by rw [HPL.out]; exact HR9.out]
              exact ⟨_, rfl, hX, rF, kF⟩

set_option maxHeartbeats 8000000 in
theorem stmt_put (d : Nat) (hd : d ≤ 100) (p : Rd Ex) (b : Rd (List St)) (hC : ExprC 80 (d + 1) p) (hi : Inv Ex.size WFx p) (hB : BlockC (d + 1) b) (hib : Inv (fun l => sumOf St.size l + 1) (AllP WFs) b) (w : World) (br n : Nat) (ts : List Tok) (hr : RdAt w br n ts) (hw : Wf ts) (n0 : isSign [108, 101, 116] ts = false) (n1 : isSign [105, 102] ts = false) (n2 : isSign [102, 111, 114] ts = false) (n3 : isSign [114, 101, 116, 117, 114, 110] ts = false) (y : isSign [112, 117, 116] ts = true) :
    Calls Tryz.prog 59 #[.pointer (some ⟨br, 0, none⟩), .int .i64 d] w (Ans w br n (encS w.heap.size) (stmtS p b ts)) := by
  have HR := hid (show stmtS p b ts = _ by unfold stmtS; rw [if_neg (by rw [n0]; decide), if_neg (by rw [n1]; decide), if_neg (by rw [n2]; decide), if_neg (by rw [n3]; decide), if_pos y])
  have HPL := hid (place_eq (n := n) (st_sign_ne y))
  have N0 := hid n0
  have N1 := hid n1
  have N2 := hid n2
  have N3 := hid n3
  have Y := hid y
  have HC := hid hC
  have HI := hid hi
  have HB := hid hB
  have HIB := hid hib
  clear hC hi hB hib n0 n1 n2 n3 y
  have S00 := stAt_begin (d := d) hr (placeOf n ts)
  have lr := hr.lt
  have r3 := ((hr.ext ((Ext.refl _).alloc (.cells #[.pointer (some ⟨br, 0, none⟩)] 44))).ext ((Ext.refl _).alloc (.cells #[.int .i64 d] 3))).ext ((Ext.refl _).alloc (.cells #[.int .i64 0, .string ⟨#[]⟩, .slice none 0 0, .slice none 0 0, .slice none 0 0, .int .i64 0] 78))
  have hmf : ∀ (fn : Fn) (first cap : Array Value) (w : World), (Instr.makeFunc fn first cap).run Tryz.prog w = .ok (.func fn first cap) w := fun _ _ _ _ => rfl
  generalize stmtS p b ts = R at HR ⊢
  have hS := hid S00
  clear S00
  go_enter Tryz.func59, Tryz.ntmps59
  go_wp2_with fail
  (with_reducible refine (place_any _ br n ts r3).mono ?_)
  rintro e1 w' ⟨rfl, rfl⟩
  go_wp2_with fail
  (with_reducible refine (take_no _ br n ts hS.out.rd _ N0.out).mono ?_)
  rintro e1 w1 ⟨rfl, r1, k1⟩
  have S1 := hS.out.move r1 k1
  clear r1 k1
  obtain ⟨c2, c3, ⟨x0, x1, x2, x3, x4, x5, xf⟩, ⟨z0, z1, z2, z3, z4, z5, zf⟩⟩ := S1.cells
  go_wp2_with fail
  (with_reducible refine (take_no _ br n ts S1.rd _ N1.out).mono ?_)
  rintro e1 w2 ⟨rfl, r2, k2⟩
  have S2 := S1.move r2 k2
  clear c2 c3 x0 x1 x2 x3 x4 x5 xf z0 z1 z2 z3 z4 z5 zf
  clear r2 k2
  obtain ⟨c2, c3, ⟨x0, x1, x2, x3, x4, x5, xf⟩, ⟨z0, z1, z2, z3, z4, z5, zf⟩⟩ := S2.cells
  go_wp2_with fail
  (with_reducible refine (take_no _ br n ts S2.rd _ N2.out).mono ?_)
  rintro e1 w3 ⟨rfl, r3, k3⟩
  have S3 := S2.move r3 k3
  clear c2 c3 x0 x1 x2 x3 x4 x5 xf z0 z1 z2 z3 z4 z5 zf
  clear r3 k3
  obtain ⟨c2, c3, ⟨x0, x1, x2, x3, x4, x5, xf⟩, ⟨z0, z1, z2, z3, z4, z5, zf⟩⟩ := S3.cells
  go_wp2_with fail
  (with_reducible refine (take_no _ br n ts S3.rd _ N3.out).mono ?_)
  rintro e1 w4 ⟨rfl, r4, k4⟩
  have S4 := S3.move r4 k4
  clear c2 c3 x0 x1 x2 x3 x4 x5 xf z0 z1 z2 z3 z4 z5 zf
  clear r4 k4
  obtain ⟨c2, c3, ⟨x0, x1, x2, x3, x4, x5, xf⟩, ⟨z0, z1, z2, z3, z4, z5, zf⟩⟩ := S4.cells
  go_wp2_with fail
  (with_reducible refine (take_yes _ br n ts S4.rd _ Y.out).mono ?_)
  rintro e1 w5 ⟨rfl, r5, k5⟩
  have S5 := S4.move r5 k5
  clear c2 c3 x0 x1 x2 x3 x4 x5 xf z0 z1 z2 z3 z4 z5 zf
  clear r5 k5
  obtain ⟨c2, c3, ⟨x0, x1, x2, x3, x4, x5, xf⟩, ⟨z0, z1, z2, z3, z4, z5, zf⟩⟩ := S5.cells
  go_wp2_with fail
  have T6 := S5.setOp 6 (.int .i64 6) rfl
  cases h7 : isSign [40] (List.tail ts) with
  | false =>
    have H7 := hid h7
    have HRe := hid (show R = .err 41 (List.tail ts) from HR.out.trans (must_f h7))
    clear h7
    (with_reducible refine (mustN _ br n (List.tail ts) T6.rd _ H7.out _ (by simp [World.setCell])).mono ?_)
    rintro e1 w7 ⟨rfl, k7⟩
    go_wp2_with fail
    refine ⟨rfl, ?_⟩
    rw [HRe.out]
    exact ⟨rfl, T6.keep.trans' k7⟩
  | true =>
    have H7 := hid h7
    have HR7 := hid (HR.out.trans (must_t h7))
    clear h7
    (with_reducible refine (mustY _ br n (List.tail ts) T6.rd _ H7.out _ (by simp [World.setCell])).mono ?_)
    rintro e1 w7 ⟨rfl, r7, k7⟩
    have S7 := T6.move r7 k7
    clear c2 c3 x0 x1 x2 x3 x4 x5 xf z0 z1 z2 z3 z4 z5 zf
    clear r7 k7
    obtain ⟨c2, c3, ⟨x0, x1, x2, x3, x4, x5, xf⟩, ⟨z0, z1, z2, z3, z4, z5, zf⟩⟩ := S7.cells
    go_wp2_with fail
    refine (st_kid hd p HC.out S7 hw.tail.tail (by simp)).mono ?_
    cases h8 : p (List.tail (List.tail ts)) with
    | err ce8 rr8 =>
      have HRe := hid (show R = .err ce8 rr8 from HR7.out.trans (bind_f h8))
      clear h8
      rintro e1 w8 ⟨rfl, k8⟩
      go_wp2_with fail
      refine ⟨rfl, ?_⟩
      rw [HRe.out]
      exact ⟨rfl, k8⟩
    | ok y8 rr8 =>
      have HR8 := hid (HR7.out.trans (bind_t h8))
      have HW8 := hid (wf_of_res HI.out hw.tail.tail h8)
      have hne8 := ne_of_res HI.out hw.tail.tail h8
      clear h8
      rintro e1 w8 ⟨rfl, se8, S8⟩
      obtain ⟨sa8, sk8, sc8, rfl⟩ := S8.form
      clear c2 c3 x0 x1 x2 x3 x4 x5 xf z0 z1 z2 z3 z4 z5 zf
      obtain ⟨c2, c3, ⟨x0, x1, x2, x3, x4, x5, xf⟩, ⟨z0, z1, z2, z3, z4, z5, zf⟩⟩ := S8.cells
      go_wp2_with fail
      cases h9 : isSign [44] rr8 with
      | false =>
        have H9 := hid h9
        have HRe := hid (show R = .err 41 rr8 from HR8.out.trans (must_f h9))
        clear h9
        (with_reducible refine (mustN _ br n rr8 S8.rd _ H9.out _ (by simp [World.setCell])).mono ?_)
        rintro e1 w9 ⟨rfl, k9⟩
        go_wp2_with fail
        refine ⟨rfl, ?_⟩
        rw [HRe.out]
        exact ⟨rfl, S8.keep.trans' k9⟩
      | true =>
        have H9 := hid h9
        have HR9 := hid (HR8.out.trans (must_t h9))
        clear h9
        (with_reducible refine (mustY _ br n rr8 S8.rd _ H9.out _ (by simp [World.setCell])).mono ?_)
        rintro e1 w9 ⟨rfl, r9, k9⟩
        have S9 := S8.move r9 k9
        clear c2 c3 x0 x1 x2 x3 x4 x5 xf z0 z1 z2 z3 z4 z5 zf
        clear r9 k9
        obtain ⟨c2, c3, ⟨x0, x1, x2, x3, x4, x5, xf⟩, ⟨z0, z1, z2, z3, z4, z5, zf⟩⟩ := S9.cells
        go_wp2_with fail
        refine (st_kid hd p HC.out S9 HW8.out.tail (by simp)).mono ?_
        cases h10 : p (List.tail rr8) with
        | err ce10 rr10 =>
          have HRe := hid (show R = .err ce10 rr10 from HR9.out.trans (bind_f h10))
          clear h10
          rintro e1 w10 ⟨rfl, k10⟩
          go_wp2_with fail
          refine ⟨rfl, ?_⟩
          rw [HRe.out]
          exact ⟨rfl, k10⟩
        | ok y10 rr10 =>
          have HR10 := hid (HR9.out.trans (bind_t h10))
          have HW10 := hid (wf_of_res HI.out HW8.out.tail h10)
          have hne10 := ne_of_res HI.out HW8.out.tail h10
          clear h10
          rintro e1 w10 ⟨rfl, se10, S10⟩
          obtain ⟨sa10, sk10, sc10, rfl⟩ := S10.form
          clear c2 c3 x0 x1 x2 x3 x4 x5 xf z0 z1 z2 z3 z4 z5 zf
          obtain ⟨c2, c3, ⟨x0, x1, x2, x3, x4, x5, xf⟩, ⟨z0, z1, z2, z3, z4, z5, zf⟩⟩ := S10.cells
          go_wp2_with fail
          cases h11 : isSign [41] rr10 with
          | false =>
            have H11 := hid h11
            have HRe := hid (show R = .err 41 rr10 from HR10.out.trans (must_f h11))
            clear h11
            (with_reducible refine (mustN _ br n rr10 S10.rd _ H11.out _ (by simp [World.setCell])).mono ?_)
            rintro e1 w11 ⟨rfl, k11⟩
            go_wp2_with fail
            refine ⟨rfl, ?_⟩
            rw [HRe.out]
            exact ⟨rfl, S10.keep.trans' k11⟩
          | true =>
            have H11 := hid h11
            have HR11 := hid (HR10.out.trans (must_t h11))
            clear h11
            (with_reducible refine (mustY _ br n rr10 S10.rd _ H11.out _ (by simp [World.setCell])).mono ?_)
            rintro e1 w11 ⟨rfl, r11, k11⟩
            have S11 := S10.move r11 k11
            clear c2 c3 x0 x1 x2 x3 x4 x5 xf z0 z1 z2 z3 z4 z5 zf
            clear r11 k11
            obtain ⟨c2, c3, ⟨x0, x1, x2, x3, x4, x5, xf⟩, ⟨z0, z1, z2, z3, z4, z5, zf⟩⟩ := S11.cells
            go_wp2_with fail
            cases h12 : isSign [59] (List.tail rr10) with
            | false =>
              have H12 := hid h12
              have HRe := hid (show R = .err 41 (List.tail rr10) from HR11.out.trans (must_f h12))
              clear h12
              (with_reducible refine (mustN _ br n (List.tail rr10) S11.rd _ H12.out _ (by simp [World.setCell])).mono ?_)
              rintro e1 w12 ⟨rfl, k12⟩
              go_wp2_with fail
              refine ⟨rfl, ?_⟩
              rw [HRe.out]
              exact ⟨rfl, S11.keep.trans' k12⟩
            | true =>
              have H12 := hid h12
              have HR12 := hid (HR11.out.trans (must_t h12))
              clear h12
              (with_reducible refine (mustY _ br n (List.tail rr10) S11.rd _ H12.out _ (by simp [World.setCell])).mono ?_)
              rintro e1 w12 ⟨rfl, r12, k12⟩
              have S12 := S11.move r12 k12
              clear c2 c3 x0 x1 x2 x3 x4 x5 xf z0 z1 z2 z3 z4 z5 zf
              clear r12 k12
              obtain ⟨c2, c3, ⟨x0, x1, x2, x3, x4, x5, xf⟩, ⟨z0, z1, z2, z3, z4, z5, zf⟩⟩ := S12.cells
              go_wp2_with fail
              obtain ⟨wF, hwF, BF, rF, kF, hX⟩ := S12.done.ans (.int .i64 6) rfl
              rw [← hwF]
              obtain ⟨q0, q1, q2, q3, q4, q5, _⟩ := BF.six
              refine bodyPost_ret (by simp [results, Tryz.results59, go_sem, q0, q1, q2, q3, q4, q5]; rfl) rfl ?_
              rw [show R = .ok (.mk 6 [] [y8, y10] [] [] (placeOf n ts)) (List.tail (List.tail rr10)) by rw [HPL.out]; exact HR12.out]
              exact ⟨_, rfl, hX, rF, kF⟩

set_option maxHeartbeats 8000000 in
theorem stmt_del (d : Nat) (hd : d ≤ 100) (p : Rd Ex) (b : Rd (List St)) (hC : ExprC 80 (d + 1) p) (hi : Inv Ex.size WFx p) (hB : BlockC (d + 1) b) (hib : Inv (fun l => sumOf St.size l + 1) (AllP WFs) b) (w : World) (br n : Nat) (ts : List Tok) (hr : RdAt w br n ts) (hw : Wf ts) (n0 : isSign [108, 101, 116] ts = false) (n1 : isSign [105, 102] ts = false) (n2 : isSign [102, 111, 114] ts = false) (n3 : isSign [114, 101, 116, 117, 114, 110] ts = false) (n4 : isSign [112, 117, 116] ts = false) (y : isSign [100, 101, 108] ts = true) :
    Calls Tryz.prog 59 #[.pointer (some ⟨br, 0, none⟩), .int .i64 d] w (Ans w br n (encS w.heap.size) (stmtS p b ts)) := by
  have HR := hid (show stmtS p b ts = _ by unfold stmtS; rw [if_neg (by rw [n0]; decide), if_neg (by rw [n1]; decide), if_neg (by rw [n2]; decide), if_neg (by rw [n3]; decide), if_neg (by rw [n4]; decide), if_pos y])
  have HPL := hid (place_eq (n := n) (st_sign_ne y))
  have N0 := hid n0
  have N1 := hid n1
  have N2 := hid n2
  have N3 := hid n3
  have N4 := hid n4
  have Y := hid y
  have HC := hid hC
  have HI := hid hi
  have HB := hid hB
  have HIB := hid hib
  clear hC hi hB hib n0 n1 n2 n3 n4 y
  have S00 := stAt_begin (d := d) hr (placeOf n ts)
  have lr := hr.lt
  have r3 := ((hr.ext ((Ext.refl _).alloc (.cells #[.pointer (some ⟨br, 0, none⟩)] 44))).ext ((Ext.refl _).alloc (.cells #[.int .i64 d] 3))).ext ((Ext.refl _).alloc (.cells #[.int .i64 0, .string ⟨#[]⟩, .slice none 0 0, .slice none 0 0, .slice none 0 0, .int .i64 0] 78))
  have hmf : ∀ (fn : Fn) (first cap : Array Value) (w : World), (Instr.makeFunc fn first cap).run Tryz.prog w = .ok (.func fn first cap) w := fun _ _ _ _ => rfl
  generalize stmtS p b ts = R at HR ⊢
  have hS := hid S00
  clear S00
  go_enter Tryz.func59, Tryz.ntmps59
  go_wp2_with fail
  (with_reducible refine (place_any _ br n ts r3).mono ?_)
  rintro e1 w' ⟨rfl, rfl⟩
  go_wp2_with fail
  (with_reducible refine (take_no _ br n ts hS.out.rd _ N0.out).mono ?_)
  rintro e1 w1 ⟨rfl, r1, k1⟩
  have S1 := hS.out.move r1 k1
  clear r1 k1
  obtain ⟨c2, c3, ⟨x0, x1, x2, x3, x4, x5, xf⟩, ⟨z0, z1, z2, z3, z4, z5, zf⟩⟩ := S1.cells
  go_wp2_with fail
  (with_reducible refine (take_no _ br n ts S1.rd _ N1.out).mono ?_)
  rintro e1 w2 ⟨rfl, r2, k2⟩
  have S2 := S1.move r2 k2
  clear c2 c3 x0 x1 x2 x3 x4 x5 xf z0 z1 z2 z3 z4 z5 zf
  clear r2 k2
  obtain ⟨c2, c3, ⟨x0, x1, x2, x3, x4, x5, xf⟩, ⟨z0, z1, z2, z3, z4, z5, zf⟩⟩ := S2.cells
  go_wp2_with fail
  (with_reducible refine (take_no _ br n ts S2.rd _ N2.out).mono ?_)
  rintro e1 w3 ⟨rfl, r3, k3⟩
  have S3 := S2.move r3 k3
  clear c2 c3 x0 x1 x2 x3 x4 x5 xf z0 z1 z2 z3 z4 z5 zf
  clear r3 k3
  obtain ⟨c2, c3, ⟨x0, x1, x2, x3, x4, x5, xf⟩, ⟨z0, z1, z2, z3, z4, z5, zf⟩⟩ := S3.cells
  go_wp2_with fail
  (with_reducible refine (take_no _ br n ts S3.rd _ N3.out).mono ?_)
  rintro e1 w4 ⟨rfl, r4, k4⟩
  have S4 := S3.move r4 k4
  clear c2 c3 x0 x1 x2 x3 x4 x5 xf z0 z1 z2 z3 z4 z5 zf
  clear r4 k4
  obtain ⟨c2, c3, ⟨x0, x1, x2, x3, x4, x5, xf⟩, ⟨z0, z1, z2, z3, z4, z5, zf⟩⟩ := S4.cells
  go_wp2_with fail
  (with_reducible refine (take_no _ br n ts S4.rd _ N4.out).mono ?_)
  rintro e1 w5 ⟨rfl, r5, k5⟩
  have S5 := S4.move r5 k5
  clear c2 c3 x0 x1 x2 x3 x4 x5 xf z0 z1 z2 z3 z4 z5 zf
  clear r5 k5
  obtain ⟨c2, c3, ⟨x0, x1, x2, x3, x4, x5, xf⟩, ⟨z0, z1, z2, z3, z4, z5, zf⟩⟩ := S5.cells
  go_wp2_with fail
  (with_reducible refine (take_yes _ br n ts S5.rd _ Y.out).mono ?_)
  rintro e1 w6 ⟨rfl, r6, k6⟩
  have S6 := S5.move r6 k6
  clear c2 c3 x0 x1 x2 x3 x4 x5 xf z0 z1 z2 z3 z4 z5 zf
  clear r6 k6
  obtain ⟨c2, c3, ⟨x0, x1, x2, x3, x4, x5, xf⟩, ⟨z0, z1, z2, z3, z4, z5, zf⟩⟩ := S6.cells
  go_wp2_with fail
  have T7 := S6.setOp 7 (.int .i64 7) rfl
  cases h8 : isSign [40] (List.tail ts) with
  | false =>
    have H8 := hid h8
    have HRe := hid (show R = .err 41 (List.tail ts) from HR.out.trans (must_f h8))
    clear h8
    (with_reducible refine (mustN _ br n (List.tail ts) T7.rd _ H8.out _ (by simp [World.setCell])).mono ?_)
    rintro e1 w8 ⟨rfl, k8⟩
    go_wp2_with fail
    refine ⟨rfl, ?_⟩
    rw [HRe.out]
    exact ⟨rfl, T7.keep.trans' k8⟩
  | true =>
    have H8 := hid h8
    have HR8 := hid (HR.out.trans (must_t h8))
    clear h8
    (with_reducible refine (mustY _ br n (List.tail ts) T7.rd _ H8.out _ (by simp [World.setCell])).mono ?_)
    rintro e1 w8 ⟨rfl, r8, k8⟩
    have S8 := T7.move r8 k8
    clear c2 c3 x0 x1 x2 x3 x4 x5 xf z0 z1 z2 z3 z4 z5 zf
    clear r8 k8
    obtain ⟨c2, c3, ⟨x0, x1, x2, x3, x4, x5, xf⟩, ⟨z0, z1, z2, z3, z4, z5, zf⟩⟩ := S8.cells
    go_wp2_with fail
    refine (st_kid hd p HC.out S8 hw.tail.tail (by simp)).mono ?_
    cases h9 : p (List.tail (List.tail ts)) with
    | err ce9 rr9 =>
      have HRe := hid (show R = .err ce9 rr9 from HR8.out.trans (bind_f h9))
      clear h9
      rintro e1 w9 ⟨rfl, k9⟩
      go_wp2_with fail
      refine ⟨rfl, ?_⟩
      rw [HRe.out]
      exact ⟨rfl, k9⟩
    | ok y9 rr9 =>
      have HR9 := hid (HR8.out.trans (bind_t h9))
      have HW9 := hid (wf_of_res HI.out hw.tail.tail h9)
      have hne9 := ne_of_res HI.out hw.tail.tail h9
      clear h9
      rintro e1 w9 ⟨rfl, se9, S9⟩
      obtain ⟨sa9, sk9, sc9, rfl⟩ := S9.form
      clear c2 c3 x0 x1 x2 x3 x4 x5 xf z0 z1 z2 z3 z4 z5 zf
      obtain ⟨c2, c3, ⟨x0, x1, x2, x3, x4, x5, xf⟩, ⟨z0, z1, z2, z3, z4, z5, zf⟩⟩ := S9.cells
      go_wp2_with fail
      cases h10 : isSign [41] rr9 with
      | false =>
        have H10 := hid h10
        have HRe := hid (show R = .err 41 rr9 from HR9.out.trans (must_f h10))
        clear h10
        (with_reducible refine (mustN _ br n rr9 S9.rd _ H10.out _ (by simp [World.setCell])).mono ?_)
        rintro e1 w10 ⟨rfl, k10⟩
        go_wp2_with fail
        refine ⟨rfl, ?_⟩
        rw [HRe.out]
        exact ⟨rfl, S9.keep.trans' k10⟩
      | true =>
        have H10 := hid h10
        have HR10 := hid (HR9.out.trans (must_t h10))
        clear h10
        (with_reducible refine (mustY _ br n rr9 S9.rd _ H10.out _ (by simp [World.setCell])).mono ?_)
        rintro e1 w10 ⟨rfl, r10, k10⟩
        have S10 := S9.move r10 k10
        clear c2 c3 x0 x1 x2 x3 x4 x5 xf z0 z1 z2 z3 z4 z5 zf
        clear r10 k10
        obtain ⟨c2, c3, ⟨x0, x1, x2, x3, x4, x5, xf⟩, ⟨z0, z1, z2, z3, z4, z5, zf⟩⟩ := S10.cells
        go_wp2_with fail
        cases h11 : isSign [59] (List.tail rr9) with
        | false =>
          have H11 := hid h11
          have HRe := hid (show R = .err 41 (List.tail rr9) from HR10.out.trans (must_f h11))
          clear h11
          (with_reducible refine (mustN _ br n (List.tail rr9) S10.rd _ H11.out _ (by simp [World.setCell])).mono ?_)
          rintro e1 w11 ⟨rfl, k11⟩
          go_wp2_with fail
          refine ⟨rfl, ?_⟩
          rw [HRe.out]
          exact ⟨rfl, S10.keep.trans' k11⟩
        | true =>
          have H11 := hid h11
          have HR11 := hid (HR10.out.trans (must_t h11))
          clear h11
          (with_reducible refine (mustY _ br n (List.tail rr9) S10.rd _ H11.out _ (by simp [World.setCell])).mono ?_)
          rintro e1 w11 ⟨rfl, r11, k11⟩
          have S11 := S10.move r11 k11
          clear c2 c3 x0 x1 x2 x3 x4 x5 xf z0 z1 z2 z3 z4 z5 zf
          clear r11 k11
          obtain ⟨c2, c3, ⟨x0, x1, x2, x3, x4, x5, xf⟩, ⟨z0, z1, z2, z3, z4, z5, zf⟩⟩ := S11.cells
          go_wp2_with fail
          obtain ⟨wF, hwF, BF, rF, kF, hX⟩ := S11.done.ans (.int .i64 7) rfl
          rw [← hwF]
          obtain ⟨q0, q1, q2, q3, q4, q5, _⟩ := BF.six
          refine bodyPost_ret (by simp [results, Tryz.results59, go_sem, q0, q1, q2, q3, q4, q5]; rfl) rfl ?_
          rw [show R = .ok (.mk 7 [] [y9] [] [] (placeOf n ts)) (List.tail (List.tail rr9)) by rw [HPL.out]; exact HR11.out]
          exact ⟨_, rfl, hX, rF, kF⟩

set_option maxHeartbeats 8000000 in
theorem stmt_return (d : Nat) (hd : d ≤ 100) (p : Rd Ex) (b : Rd (List St)) (hC : ExprC 80 (d + 1) p) (hi : Inv Ex.size WFx p) (hB : BlockC (d + 1) b) (hib : Inv (fun l => sumOf St.size l + 1) (AllP WFs) b) (w : World) (br n : Nat) (ts : List Tok) (hr : RdAt w br n ts) (hw : Wf ts) (n0 : isSign [108, 101, 116] ts = false) (n1 : isSign [105, 102] ts = false) (n2 : isSign [102, 111, 114] ts = false) (y : isSign [114, 101, 116, 117, 114, 110] ts = true) :
    Calls Tryz.prog 59 #[.pointer (some ⟨br, 0, none⟩), .int .i64 d] w (Ans w br n (encS w.heap.size) (stmtS p b ts)) := by
  have HR := hid (show stmtS p b ts = _ by unfold stmtS; rw [if_neg (by rw [n0]; decide), if_neg (by rw [n1]; decide), if_neg (by rw [n2]; decide), if_pos y])
  have HPL := hid (place_eq (n := n) (st_sign_ne y))
  have N0 := hid n0
  have N1 := hid n1
  have N2 := hid n2
  have Y := hid y
  have HC := hid hC
  have HI := hid hi
  have HB := hid hB
  have HIB := hid hib
  clear hC hi hB hib n0 n1 n2 y
  have S00 := stAt_begin (d := d) hr (placeOf n ts)
  have lr := hr.lt
  have r3 := ((hr.ext ((Ext.refl _).alloc (.cells #[.pointer (some ⟨br, 0, none⟩)] 44))).ext ((Ext.refl _).alloc (.cells #[.int .i64 d] 3))).ext ((Ext.refl _).alloc (.cells #[.int .i64 0, .string ⟨#[]⟩, .slice none 0 0, .slice none 0 0, .slice none 0 0, .int .i64 0] 78))
  have hmf : ∀ (fn : Fn) (first cap : Array Value) (w : World), (Instr.makeFunc fn first cap).run Tryz.prog w = .ok (.func fn first cap) w := fun _ _ _ _ => rfl
  generalize stmtS p b ts = R at HR ⊢
  have hS := hid S00
  clear S00
  go_enter Tryz.func59, Tryz.ntmps59
  go_wp2_with fail
  (with_reducible refine (place_any _ br n ts r3).mono ?_)
  rintro e1 w' ⟨rfl, rfl⟩
  go_wp2_with fail
  (with_reducible refine (take_no _ br n ts hS.out.rd _ N0.out).mono ?_)
  rintro e1 w1 ⟨rfl, r1, k1⟩
  have S1 := hS.out.move r1 k1
  clear r1 k1
  obtain ⟨c2, c3, ⟨x0, x1, x2, x3, x4, x5, xf⟩, ⟨z0, z1, z2, z3, z4, z5, zf⟩⟩ := S1.cells
  go_wp2_with fail
  (with_reducible refine (take_no _ br n ts S1.rd _ N1.out).mono ?_)
  rintro e1 w2 ⟨rfl, r2, k2⟩
  have S2 := S1.move r2 k2
  clear c2 c3 x0 x1 x2 x3 x4 x5 xf z0 z1 z2 z3 z4 z5 zf
  clear r2 k2
  obtain ⟨c2, c3, ⟨x0, x1, x2, x3, x4, x5, xf⟩, ⟨z0, z1, z2, z3, z4, z5, zf⟩⟩ := S2.cells
  go_wp2_with fail
  (with_reducible refine (take_no _ br n ts S2.rd _ N2.out).mono ?_)
  rintro e1 w3 ⟨rfl, r3, k3⟩
  have S3 := S2.move r3 k3
  clear c2 c3 x0 x1 x2 x3 x4 x5 xf z0 z1 z2 z3 z4 z5 zf
  clear r3 k3
  obtain ⟨c2, c3, ⟨x0, x1, x2, x3, x4, x5, xf⟩, ⟨z0, z1, z2, z3, z4, z5, zf⟩⟩ := S3.cells
  go_wp2_with fail
  (with_reducible refine (take_yes _ br n ts S3.rd _ Y.out).mono ?_)
  rintro e1 w4 ⟨rfl, r4, k4⟩
  have S4 := S3.move r4 k4
  clear c2 c3 x0 x1 x2 x3 x4 x5 xf z0 z1 z2 z3 z4 z5 zf
  clear r4 k4
  obtain ⟨c2, c3, ⟨x0, x1, x2, x3, x4, x5, xf⟩, ⟨z0, z1, z2, z3, z4, z5, zf⟩⟩ := S4.cells
  go_wp2_with fail
  have T5 := S4.setOp 5 (.int .i64 5) rfl
  cases h6 : isSign [59] (List.tail ts) with
  | true =>
    have H6 := hid h6
    have HR6a := hid (show R = .ok (.mk 5 [] [] [] [] (headPlace ts)) (List.tail (List.tail ts)) by rw [HR.out, if_pos h6])
    clear h6
    (with_reducible refine (at0_any _ br n (List.tail ts) T5.rd _).mono ?_)
    rintro e1 w' ⟨rfl, rfl⟩
    rw [show isSign (ByteArray.mk #[59]).data.toList (List.tail ts) = true from H6.out]
    go_wp2_with fail
    (with_reducible refine (mustY _ br n (List.tail ts) T5.rd _ H6.out _ (by simp [World.setCell])).mono ?_)
    rintro e1 w6 ⟨rfl, r6, k6⟩
    have S6 := T5.move r6 k6
    clear c2 c3 x0 x1 x2 x3 x4 x5 xf z0 z1 z2 z3 z4 z5 zf
    obtain ⟨c2, c3, ⟨x0, x1, x2, x3, x4, x5, xf⟩, ⟨z0, z1, z2, z3, z4, z5, zf⟩⟩ := S6.cells
    go_wp2_with fail
    obtain ⟨wF, hwF, BF, rF, kF, hX⟩ := S6.done.ans (.int .i64 5) rfl
    rw [← hwF]
    obtain ⟨q0, q1, q2, q3, q4, q5, _⟩ := BF.six
    refine bodyPost_ret (by simp [results, Tryz.results59, go_sem, q0, q1, q2, q3, q4, q5]; rfl) rfl ?_
    rw [show R = .ok (.mk 5 [] [] [] [] (placeOf n ts)) (List.tail (List.tail ts)) by rw [HPL.out]; exact HR6a.out]
    exact ⟨_, rfl, hX, rF, kF⟩
  | false =>
    have H6 := hid h6
    have HR6 := hid (show R = (p (List.tail ts)).bind fun x r => must [59] r fun r => .ok (.mk 5 [] [x] [] [] (headPlace ts)) r by rw [HR.out, if_neg (by rw [h6]; decide)])
    clear h6
    (with_reducible refine (at0_any _ br n (List.tail ts) T5.rd _).mono ?_)
    rintro e1 w' ⟨rfl, rfl⟩
    rw [show isSign (ByteArray.mk #[59]).data.toList (List.tail ts) = false from H6.out]
    go_wp2_with fail
    refine (st_kid hd p HC.out T5 hw.tail (by simp)).mono ?_
    cases h7 : p (List.tail ts) with
    | err ce7 rr7 =>
      have HRe := hid (show R = .err ce7 rr7 from HR6.out.trans (bind_f h7))
      clear h7
      rintro e1 w7 ⟨rfl, k7⟩
      go_wp2_with fail
      refine ⟨rfl, ?_⟩
      rw [HRe.out]
      exact ⟨rfl, k7⟩
    | ok y7 rr7 =>
      have HR7 := hid (HR6.out.trans (bind_t h7))
      have HW7 := hid (wf_of_res HI.out hw.tail h7)
      have hne7 := ne_of_res HI.out hw.tail h7
      clear h7
      rintro e1 w7 ⟨rfl, se7, S7⟩
      obtain ⟨sa7, sk7, sc7, rfl⟩ := S7.form
      clear c2 c3 x0 x1 x2 x3 x4 x5 xf z0 z1 z2 z3 z4 z5 zf
      obtain ⟨c2, c3, ⟨x0, x1, x2, x3, x4, x5, xf⟩, ⟨z0, z1, z2, z3, z4, z5, zf⟩⟩ := S7.cells
      go_wp2_with fail
      cases h8 : isSign [59] rr7 with
      | false =>
        have H8 := hid h8
        have HRe := hid (show R = .err 41 rr7 from HR7.out.trans (must_f h8))
        clear h8
        (with_reducible refine (mustN _ br n rr7 S7.rd _ H8.out _ (by simp [World.setCell])).mono ?_)
        rintro e1 w8 ⟨rfl, k8⟩
        go_wp2_with fail
        refine ⟨rfl, ?_⟩
        rw [HRe.out]
        exact ⟨rfl, S7.keep.trans' k8⟩
      | true =>
        have H8 := hid h8
        have HR8 := hid (HR7.out.trans (must_t h8))
        clear h8
        (with_reducible refine (mustY _ br n rr7 S7.rd _ H8.out _ (by simp [World.setCell])).mono ?_)
        rintro e1 w8 ⟨rfl, r8, k8⟩
        have S8 := S7.move r8 k8
        clear c2 c3 x0 x1 x2 x3 x4 x5 xf z0 z1 z2 z3 z4 z5 zf
        clear r8 k8
        obtain ⟨c2, c3, ⟨x0, x1, x2, x3, x4, x5, xf⟩, ⟨z0, z1, z2, z3, z4, z5, zf⟩⟩ := S8.cells
        go_wp2_with fail
        obtain ⟨wF, hwF, BF, rF, kF, hX⟩ := S8.done.ans (.int .i64 5) rfl
        rw [← hwF]
        obtain ⟨q0, q1, q2, q3, q4, q5, _⟩ := BF.six
        refine bodyPost_ret (by simp [results, Tryz.results59, go_sem, q0, q1, q2, q3, q4, q5]; rfl) rfl ?_
        rw [show R = .ok (.mk 5 [] [y7] [] [] (placeOf n ts)) (List.tail rr7) by rw [HPL.out]; exact HR8.out]
        exact ⟨_, rfl, hX, rF, kF⟩

set_option maxHeartbeats 8000000 in
theorem stmt_do_nil (d : Nat) (hd : d ≤ 100) (p : Rd Ex) (b : Rd (List St)) (hC : ExprC 80 (d + 1) p) (hi : Inv Ex.size WFx p) (hB : BlockC (d + 1) b) (hib : Inv (fun l => sumOf St.size l + 1) (AllP WFs) b) (w : World) (br n : Nat) (ts : List Tok) (hr : RdAt w br n ts) (hw : Wf ts) (n0 : isSign [108, 101, 116] ts = false) (n1 : isSign [105, 102] ts = false) (n2 : isSign [102, 111, 114] ts = false) (n3 : isSign [114, 101, 116, 117, 114, 110] ts = false) (n4 : isSign [112, 117, 116] ts = false) (n5 : isSign [100, 101, 108] ts = false) (hnil : ts = []) (hset : (isName ts && isSign [61] ts.tail) = false) :
    Calls Tryz.prog 59 #[.pointer (some ⟨br, 0, none⟩), .int .i64 d] w (Ans w br n (encS w.heap.size) (stmtS p b ts)) := by
  have HR := hid (show stmtS p b ts = _ by unfold stmtS; rw [if_neg (by rw [n0]; decide), if_neg (by rw [n1]; decide), if_neg (by rw [n2]; decide), if_neg (by rw [n3]; decide), if_neg (by rw [n4]; decide), if_neg (by rw [n5]; decide), if_neg (by rw [hset]; decide)])
  have N0 := hid n0
  have N1 := hid n1
  have N2 := hid n2
  have N3 := hid n3
  have N4 := hid n4
  have N5 := hid n5
  have HC := hid hC
  have HI := hid hi
  have HB := hid hB
  have HIB := hid hib
  have HNIL := hid hnil
  clear hnil
  clear hC hi hB hib hset n0 n1 n2 n3 n4 n5
  have S00 := stAt_begin (d := d) hr (placeOf n ts)
  have lr := hr.lt
  have r3 := ((hr.ext ((Ext.refl _).alloc (.cells #[.pointer (some ⟨br, 0, none⟩)] 44))).ext ((Ext.refl _).alloc (.cells #[.int .i64 d] 3))).ext ((Ext.refl _).alloc (.cells #[.int .i64 0, .string ⟨#[]⟩, .slice none 0 0, .slice none 0 0, .slice none 0 0, .int .i64 0] 78))
  have hmf : ∀ (fn : Fn) (first cap : Array Value) (w : World), (Instr.makeFunc fn first cap).run Tryz.prog w = .ok (.func fn first cap) w := fun _ _ _ _ => rfl
  generalize stmtS p b ts = R at HR ⊢
  have hS := hid S00
  clear S00
  go_enter Tryz.func59, Tryz.ntmps59
  go_wp2_with fail
  (with_reducible refine (place_any _ br n ts r3).mono ?_)
  rintro e1 w' ⟨rfl, rfl⟩
  go_wp2_with fail
  (with_reducible refine (take_no _ br n ts hS.out.rd _ N0.out).mono ?_)
  rintro e1 w1 ⟨rfl, r1, k1⟩
  have S1 := hS.out.move r1 k1
  clear r1 k1
  obtain ⟨c2, c3, ⟨x0, x1, x2, x3, x4, x5, xf⟩, ⟨z0, z1, z2, z3, z4, z5, zf⟩⟩ := S1.cells
  go_wp2_with fail
  (with_reducible refine (take_no _ br n ts S1.rd _ N1.out).mono ?_)
  rintro e1 w2 ⟨rfl, r2, k2⟩
  have S2 := S1.move r2 k2
  clear c2 c3 x0 x1 x2 x3 x4 x5 xf z0 z1 z2 z3 z4 z5 zf
  clear r2 k2
  obtain ⟨c2, c3, ⟨x0, x1, x2, x3, x4, x5, xf⟩, ⟨z0, z1, z2, z3, z4, z5, zf⟩⟩ := S2.cells
  go_wp2_with fail
  (with_reducible refine (take_no _ br n ts S2.rd _ N2.out).mono ?_)
  rintro e1 w3 ⟨rfl, r3, k3⟩
  have S3 := S2.move r3 k3
  clear c2 c3 x0 x1 x2 x3 x4 x5 xf z0 z1 z2 z3 z4 z5 zf
  clear r3 k3
  obtain ⟨c2, c3, ⟨x0, x1, x2, x3, x4, x5, xf⟩, ⟨z0, z1, z2, z3, z4, z5, zf⟩⟩ := S3.cells
  go_wp2_with fail
  (with_reducible refine (take_no _ br n ts S3.rd _ N3.out).mono ?_)
  rintro e1 w4 ⟨rfl, r4, k4⟩
  have S4 := S3.move r4 k4
  clear c2 c3 x0 x1 x2 x3 x4 x5 xf z0 z1 z2 z3 z4 z5 zf
  clear r4 k4
  obtain ⟨c2, c3, ⟨x0, x1, x2, x3, x4, x5, xf⟩, ⟨z0, z1, z2, z3, z4, z5, zf⟩⟩ := S4.cells
  go_wp2_with fail
  (with_reducible refine (take_no _ br n ts S4.rd _ N4.out).mono ?_)
  rintro e1 w5 ⟨rfl, r5, k5⟩
  have S5 := S4.move r5 k5
  clear c2 c3 x0 x1 x2 x3 x4 x5 xf z0 z1 z2 z3 z4 z5 zf
  clear r5 k5
  obtain ⟨c2, c3, ⟨x0, x1, x2, x3, x4, x5, xf⟩, ⟨z0, z1, z2, z3, z4, z5, zf⟩⟩ := S5.cells
  go_wp2_with fail
  (with_reducible refine (take_no _ br n ts S5.rd _ N5.out).mono ?_)
  rintro e1 w6 ⟨rfl, r6, k6⟩
  have S6 := S5.move r6 k6
  clear c2 c3 x0 x1 x2 x3 x4 x5 xf z0 z1 z2 z3 z4 z5 zf
  clear r6 k6
  obtain ⟨c2, c3, ⟨x0, x1, x2, x3, x4, x5, xf⟩, ⟨z0, z1, z2, z3, z4, z5, zf⟩⟩ := S6.cells
  obtain ⟨ra, rc, g0, g1, gf⟩ := (show RdAt _ br n [] from HNIL.out ▸ S6.rd).nil
  go_wp2_with fail
  have T7 := S6.setOp 8 (.int .i64 8) rfl
  refine (st_kid hd p HC.out T7 hw (by simp)).mono ?_
  cases h8 : p ts with
  | err ce8 rr8 =>
    have HRe := hid (show R = .err ce8 rr8 from HR.out.trans (bind_f h8))
    clear h8
    rintro e1 w8 ⟨rfl, k8⟩
    go_wp2_with fail
    refine ⟨rfl, ?_⟩
    rw [HRe.out]
    exact ⟨rfl, k8⟩
  | ok y8 rr8 =>
    have HR8 := hid (HR.out.trans (bind_t h8))
    have HW8 := hid (wf_of_res HI.out hw h8)
    have hne8 := ne_of_res HI.out hw h8
    clear h8
    rintro e1 w8 ⟨rfl, se8, S8⟩
    obtain ⟨sa8, sk8, sc8, rfl⟩ := S8.form
    clear c2 c3 x0 x1 x2 x3 x4 x5 xf z0 z1 z2 z3 z4 z5 zf
    obtain ⟨c2, c3, ⟨x0, x1, x2, x3, x4, x5, xf⟩, ⟨z0, z1, z2, z3, z4, z5, zf⟩⟩ := S8.cells
    go_wp2_with fail
    have HPL := hid (place_eq (n := n) hne8)
    cases h9 : isSign [59] rr8 with
    | false =>
      have H9 := hid h9
      have HRe := hid (show R = .err 41 rr8 from HR8.out.trans (must_f h9))
      clear h9
      (with_reducible refine (mustN _ br n rr8 S8.rd _ H9.out _ (by simp [World.setCell])).mono ?_)
      rintro e1 w9 ⟨rfl, k9⟩
      go_wp2_with fail
      refine ⟨rfl, ?_⟩
      rw [HRe.out]
      exact ⟨rfl, S8.keep.trans' k9⟩
    | true =>
      have H9 := hid h9
      have HR9 := hid (HR8.out.trans (must_t h9))
      clear h9
      (with_reducible refine (mustY _ br n rr8 S8.rd _ H9.out _ (by simp [World.setCell])).mono ?_)
      rintro e1 w9 ⟨rfl, r9, k9⟩
      have S9 := S8.move r9 k9
      clear c2 c3 x0 x1 x2 x3 x4 x5 xf z0 z1 z2 z3 z4 z5 zf
      clear r9 k9
      obtain ⟨c2, c3, ⟨x0, x1, x2, x3, x4, x5, xf⟩, ⟨z0, z1, z2, z3, z4, z5, zf⟩⟩ := S9.cells
      go_wp2_with fail
      obtain ⟨wF, hwF, BF, rF, kF, hX⟩ := S9.done.ans (.int .i64 8) rfl
      rw [← hwF]
      obtain ⟨q0, q1, q2, q3, q4, q5, _⟩ := BF.six
      refine bodyPost_ret (by simp [results, Tryz.results59, go_sem, q0, q1, q2, q3, q4, q5]; rfl) rfl ?_
      rw [show R = .ok (.mk 8 [] [y8] [] [] (placeOf n ts)) (List.tail rr8) by rw [HPL.out]; exact HR9.out]
      exact ⟨_, rfl, hX, rF, kF⟩

set_option maxHeartbeats 8000000 in
theorem stmt_do_kind (d : Nat) (hd : d ≤ 100) (p : Rd Ex) (b : Rd (List St)) (hC : ExprC 80 (d + 1) p) (hi : Inv Ex.size WFx p) (hB : BlockC (d + 1) b) (hib : Inv (fun l => sumOf St.size l + 1) (AllP WFs) b) (w : World) (br n : Nat) (ts : List Tok) (hr : RdAt w br n ts) (hw : Wf ts) (n0 : isSign [108, 101, 116] ts = false) (n1 : isSign [105, 102] ts = false) (n2 : isSign [102, 111, 114] ts = false) (n3 : isSign [114, 101, 116, 117, 114, 110] ts = false) (n4 : isSign [112, 117, 116] ts = false) (n5 : isSign [100, 101, 108] ts = false) (t : Tok) (r : List Tok) (hts : ts = t :: r) (hk : t.kind ≠ 1) (hset : (isName ts && isSign [61] ts.tail) = false) :
    Calls Tryz.prog 59 #[.pointer (some ⟨br, 0, none⟩), .int .i64 d] w (Ans w br n (encS w.heap.size) (stmtS p b ts)) := by
  have HR := hid (show stmtS p b ts = _ by unfold stmtS; rw [if_neg (by rw [n0]; decide), if_neg (by rw [n1]; decide), if_neg (by rw [n2]; decide), if_neg (by rw [n3]; decide), if_neg (by rw [n4]; decide), if_neg (by rw [n5]; decide), if_neg (by rw [hset]; decide)])
  have N0 := hid n0
  have N1 := hid n1
  have N2 := hid n2
  have N3 := hid n3
  have N4 := hid n4
  have N5 := hid n5
  have HC := hid hC
  have HI := hid hi
  have HB := hid hB
  have HIB := hid hib
  have HTS := hid hts
  have HK := hid hk
  clear hts hk 
  clear hC hi hB hib hset n0 n1 n2 n3 n4 n5
  have S00 := stAt_begin (d := d) hr (placeOf n ts)
  have lr := hr.lt
  have r3 := ((hr.ext ((Ext.refl _).alloc (.cells #[.pointer (some ⟨br, 0, none⟩)] 44))).ext ((Ext.refl _).alloc (.cells #[.int .i64 d] 3))).ext ((Ext.refl _).alloc (.cells #[.int .i64 0, .string ⟨#[]⟩, .slice none 0 0, .slice none 0 0, .slice none 0 0, .int .i64 0] 78))
  have hmf : ∀ (fn : Fn) (first cap : Array Value) (w : World), (Instr.makeFunc fn first cap).run Tryz.prog w = .ok (.func fn first cap) w := fun _ _ _ _ => rfl
  generalize stmtS p b ts = R at HR ⊢
  have hS := hid S00
  clear S00
  go_enter Tryz.func59, Tryz.ntmps59
  go_wp2_with fail
  (with_reducible refine (place_any _ br n ts r3).mono ?_)
  rintro e1 w' ⟨rfl, rfl⟩
  go_wp2_with fail
  (with_reducible refine (take_no _ br n ts hS.out.rd _ N0.out).mono ?_)
  rintro e1 w1 ⟨rfl, r1, k1⟩
  have S1 := hS.out.move r1 k1
  clear r1 k1
  obtain ⟨c2, c3, ⟨x0, x1, x2, x3, x4, x5, xf⟩, ⟨z0, z1, z2, z3, z4, z5, zf⟩⟩ := S1.cells
  go_wp2_with fail
  (with_reducible refine (take_no _ br n ts S1.rd _ N1.out).mono ?_)
  rintro e1 w2 ⟨rfl, r2, k2⟩
  have S2 := S1.move r2 k2
  clear c2 c3 x0 x1 x2 x3 x4 x5 xf z0 z1 z2 z3 z4 z5 zf
  clear r2 k2
  obtain ⟨c2, c3, ⟨x0, x1, x2, x3, x4, x5, xf⟩, ⟨z0, z1, z2, z3, z4, z5, zf⟩⟩ := S2.cells
  go_wp2_with fail
  (with_reducible refine (take_no _ br n ts S2.rd _ N2.out).mono ?_)
  rintro e1 w3 ⟨rfl, r3, k3⟩
  have S3 := S2.move r3 k3
  clear c2 c3 x0 x1 x2 x3 x4 x5 xf z0 z1 z2 z3 z4 z5 zf
  clear r3 k3
  obtain ⟨c2, c3, ⟨x0, x1, x2, x3, x4, x5, xf⟩, ⟨z0, z1, z2, z3, z4, z5, zf⟩⟩ := S3.cells
  go_wp2_with fail
  (with_reducible refine (take_no _ br n ts S3.rd _ N3.out).mono ?_)
  rintro e1 w4 ⟨rfl, r4, k4⟩
  have S4 := S3.move r4 k4
  clear c2 c3 x0 x1 x2 x3 x4 x5 xf z0 z1 z2 z3 z4 z5 zf
  clear r4 k4
  obtain ⟨c2, c3, ⟨x0, x1, x2, x3, x4, x5, xf⟩, ⟨z0, z1, z2, z3, z4, z5, zf⟩⟩ := S4.cells
  go_wp2_with fail
  (with_reducible refine (take_no _ br n ts S4.rd _ N4.out).mono ?_)
  rintro e1 w5 ⟨rfl, r5, k5⟩
  have S5 := S4.move r5 k5
  clear c2 c3 x0 x1 x2 x3 x4 x5 xf z0 z1 z2 z3 z4 z5 zf
  clear r5 k5
  obtain ⟨c2, c3, ⟨x0, x1, x2, x3, x4, x5, xf⟩, ⟨z0, z1, z2, z3, z4, z5, zf⟩⟩ := S5.cells
  go_wp2_with fail
  (with_reducible refine (take_no _ br n ts S5.rd _ N5.out).mono ?_)
  rintro e1 w6 ⟨rfl, r6, k6⟩
  have S6 := S5.move r6 k6
  clear c2 c3 x0 x1 x2 x3 x4 x5 xf z0 z1 z2 z3 z4 z5 zf
  clear r6 k6
  obtain ⟨c2, c3, ⟨x0, x1, x2, x3, x4, x5, xf⟩, ⟨z0, z1, z2, z3, z4, z5, zf⟩⟩ := S6.cells
  obtain ⟨tb, toff, tcap, tne, g0, g1, gf, d0, d1, d2, d3, hcap, hmax, _, _⟩ := (show RdAt _ br n (t :: r) from HTS.out ▸ S6.rd).cons
  have hl0 : ((r.length : Int) + 1 > 0) := by omega
  have hl1 : ¬ ((r.length : Int) + 1 ≤ 0) := by omega
  have hk1 : ((t.kind : Int) == 1) = false := by have := HK.out; simp; omega
  go_wp2_with fail
  have T7 := S6.setOp 8 (.int .i64 8) rfl
  refine (st_kid hd p HC.out T7 hw (by simp)).mono ?_
  cases h8 : p ts with
  | err ce8 rr8 =>
    have HRe := hid (show R = .err ce8 rr8 from HR.out.trans (bind_f h8))
    clear h8
    rintro e1 w8 ⟨rfl, k8⟩
    go_wp2_with fail
    refine ⟨rfl, ?_⟩
    rw [HRe.out]
    exact ⟨rfl, k8⟩
  | ok y8 rr8 =>
    have HR8 := hid (HR.out.trans (bind_t h8))
    have HW8 := hid (wf_of_res HI.out hw h8)
    have hne8 := ne_of_res HI.out hw h8
    clear h8
    rintro e1 w8 ⟨rfl, se8, S8⟩
    obtain ⟨sa8, sk8, sc8, rfl⟩ := S8.form
    clear c2 c3 x0 x1 x2 x3 x4 x5 xf z0 z1 z2 z3 z4 z5 zf
    obtain ⟨c2, c3, ⟨x0, x1, x2, x3, x4, x5, xf⟩, ⟨z0, z1, z2, z3, z4, z5, zf⟩⟩ := S8.cells
    go_wp2_with fail
    have HPL := hid (place_eq (n := n) hne8)
    cases h9 : isSign [59] rr8 with
    | false =>
      have H9 := hid h9
      have HRe := hid (show R = .err 41 rr8 from HR8.out.trans (must_f h9))
      clear h9
      (with_reducible refine (mustN _ br n rr8 S8.rd _ H9.out _ (by simp [World.setCell])).mono ?_)
      rintro e1 w9 ⟨rfl, k9⟩
      go_wp2_with fail
      refine ⟨rfl, ?_⟩
      rw [HRe.out]
      exact ⟨rfl, S8.keep.trans' k9⟩
    | true =>
      have H9 := hid h9
      have HR9 := hid (HR8.out.trans (must_t h9))
      clear h9
      (with_reducible refine (mustY _ br n rr8 S8.rd _ H9.out _ (by simp [World.setCell])).mono ?_)
      rintro e1 w9 ⟨rfl, r9, k9⟩
      have S9 := S8.move r9 k9
      clear c2 c3 x0 x1 x2 x3 x4 x5 xf z0 z1 z2 z3 z4 z5 zf
      clear r9 k9
      obtain ⟨c2, c3, ⟨x0, x1, x2, x3, x4, x5, xf⟩, ⟨z0, z1, z2, z3, z4, z5, zf⟩⟩ := S9.cells
      go_wp2_with fail
      obtain ⟨wF, hwF, BF, rF, kF, hX⟩ := S9.done.ans (.int .i64 8) rfl
      rw [← hwF]
      obtain ⟨q0, q1, q2, q3, q4, q5, _⟩ := BF.six
      refine bodyPost_ret (by simp [results, Tryz.results59, go_sem, q0, q1, q2, q3, q4, q5]; rfl) rfl ?_
      rw [show R = .ok (.mk 8 [] [y8] [] [] (placeOf n ts)) (List.tail rr8) by rw [HPL.out]; exact HR9.out]
      exact ⟨_, rfl, hX, rF, kF⟩

set_option maxHeartbeats 8000000 in
theorem stmt_do_name (d : Nat) (hd : d ≤ 100) (p : Rd Ex) (b : Rd (List St)) (hC : ExprC 80 (d + 1) p) (hi : Inv Ex.size WFx p) (hB : BlockC (d + 1) b) (hib : Inv (fun l => sumOf St.size l + 1) (AllP WFs) b) (w : World) (br n : Nat) (ts : List Tok) (hr : RdAt w br n ts) (hw : Wf ts) (n0 : isSign [108, 101, 116] ts = false) (n1 : isSign [105, 102] ts = false) (n2 : isSign [102, 111, 114] ts = false) (n3 : isSign [114, 101, 116, 117, 114, 110] ts = false) (n4 : isSign [112, 117, 116] ts = false) (n5 : isSign [100, 101, 108] ts = false) (t : Tok) (r : List Tok) (hts : ts = t :: r) (hk : t.kind = 1) (hno : isSign [61] ts.tail = false) (hset : (isName ts && isSign [61] ts.tail) = false) :
    Calls Tryz.prog 59 #[.pointer (some ⟨br, 0, none⟩), .int .i64 d] w (Ans w br n (encS w.heap.size) (stmtS p b ts)) := by
  have HR := hid (show stmtS p b ts = _ by unfold stmtS; rw [if_neg (by rw [n0]; decide), if_neg (by rw [n1]; decide), if_neg (by rw [n2]; decide), if_neg (by rw [n3]; decide), if_neg (by rw [n4]; decide), if_neg (by rw [n5]; decide), if_neg (by rw [hset]; decide)])
  have N0 := hid n0
  have N1 := hid n1
  have N2 := hid n2
  have N3 := hid n3
  have N4 := hid n4
  have N5 := hid n5
  have HC := hid hC
  have HI := hid hi
  have HB := hid hB
  have HIB := hid hib
  have HTS := hid hts
  have HK := hid hk
  have HNO := hid hno
  clear hts hk hno
  clear hC hi hB hib hset n0 n1 n2 n3 n4 n5
  have S00 := stAt_begin (d := d) hr (placeOf n ts)
  have lr := hr.lt
  have r3 := ((hr.ext ((Ext.refl _).alloc (.cells #[.pointer (some ⟨br, 0, none⟩)] 44))).ext ((Ext.refl _).alloc (.cells #[.int .i64 d] 3))).ext ((Ext.refl _).alloc (.cells #[.int .i64 0, .string ⟨#[]⟩, .slice none 0 0, .slice none 0 0, .slice none 0 0, .int .i64 0] 78))
  have hmf : ∀ (fn : Fn) (first cap : Array Value) (w : World), (Instr.makeFunc fn first cap).run Tryz.prog w = .ok (.func fn first cap) w := fun _ _ _ _ => rfl
  generalize stmtS p b ts = R at HR ⊢
  have hS := hid S00
  clear S00
  go_enter Tryz.func59, Tryz.ntmps59
  go_wp2_with fail
  (with_reducible refine (place_any _ br n ts r3).mono ?_)
  rintro e1 w' ⟨rfl, rfl⟩
  go_wp2_with fail
  (with_reducible refine (take_no _ br n ts hS.out.rd _ N0.out).mono ?_)
  rintro e1 w1 ⟨rfl, r1, k1⟩
  have S1 := hS.out.move r1 k1
  clear r1 k1
  obtain ⟨c2, c3, ⟨x0, x1, x2, x3, x4, x5, xf⟩, ⟨z0, z1, z2, z3, z4, z5, zf⟩⟩ := S1.cells
  go_wp2_with fail
  (with_reducible refine (take_no _ br n ts S1.rd _ N1.out).mono ?_)
  rintro e1 w2 ⟨rfl, r2, k2⟩
  have S2 := S1.move r2 k2
  clear c2 c3 x0 x1 x2 x3 x4 x5 xf z0 z1 z2 z3 z4 z5 zf
  clear r2 k2
  obtain ⟨c2, c3, ⟨x0, x1, x2, x3, x4, x5, xf⟩, ⟨z0, z1, z2, z3, z4, z5, zf⟩⟩ := S2.cells
  go_wp2_with fail
  (with_reducible refine (take_no _ br n ts S2.rd _ N2.out).mono ?_)
  rintro e1 w3 ⟨rfl, r3, k3⟩
  have S3 := S2.move r3 k3
  clear c2 c3 x0 x1 x2 x3 x4 x5 xf z0 z1 z2 z3 z4 z5 zf
  clear r3 k3
  obtain ⟨c2, c3, ⟨x0, x1, x2, x3, x4, x5, xf⟩, ⟨z0, z1, z2, z3, z4, z5, zf⟩⟩ := S3.cells
  go_wp2_with fail
  (with_reducible refine (take_no _ br n ts S3.rd _ N3.out).mono ?_)
  rintro e1 w4 ⟨rfl, r4, k4⟩
  have S4 := S3.move r4 k4
  clear c2 c3 x0 x1 x2 x3 x4 x5 xf z0 z1 z2 z3 z4 z5 zf
  clear r4 k4
  obtain ⟨c2, c3, ⟨x0, x1, x2, x3, x4, x5, xf⟩, ⟨z0, z1, z2, z3, z4, z5, zf⟩⟩ := S4.cells
  go_wp2_with fail
  (with_reducible refine (take_no _ br n ts S4.rd _ N4.out).mono ?_)
  rintro e1 w5 ⟨rfl, r5, k5⟩
  have S5 := S4.move r5 k5
  clear c2 c3 x0 x1 x2 x3 x4 x5 xf z0 z1 z2 z3 z4 z5 zf
  clear r5 k5
  obtain ⟨c2, c3, ⟨x0, x1, x2, x3, x4, x5, xf⟩, ⟨z0, z1, z2, z3, z4, z5, zf⟩⟩ := S5.cells
  go_wp2_with fail
  (with_reducible refine (take_no _ br n ts S5.rd _ N5.out).mono ?_)
  rintro e1 w6 ⟨rfl, r6, k6⟩
  have S6 := S5.move r6 k6
  clear c2 c3 x0 x1 x2 x3 x4 x5 xf z0 z1 z2 z3 z4 z5 zf
  clear r6 k6
  obtain ⟨c2, c3, ⟨x0, x1, x2, x3, x4, x5, xf⟩, ⟨z0, z1, z2, z3, z4, z5, zf⟩⟩ := S6.cells
  obtain ⟨tb, toff, tcap, tne, g0, g1, gf, d0, d1, d2, d3, hcap, hmax, _, _⟩ := (show RdAt _ br n (t :: r) from HTS.out ▸ S6.rd).cons
  have hl0 : ((r.length : Int) + 1 > 0) := by omega
  have hl1 : ¬ ((r.length : Int) + 1 ≤ 0) := by omega
  have hk1 : ((t.kind : Int) == 1) = true := by rw [HK.out]; rfl
  go_wp2_with fail
  (with_reducible refine (at1_any _ br n ts S6.rd _).mono ?_)
  rintro e1 w' ⟨rfl, rfl⟩
  rw [show isSign (ByteArray.mk #[61]).data.toList ts.tail = false from HNO.out]
  go_wp2_with fail
  have T7 := S6.setOp 8 (.int .i64 8) rfl
  refine (st_kid hd p HC.out T7 hw (by simp)).mono ?_
  cases h8 : p ts with
  | err ce8 rr8 =>
    have HRe := hid (show R = .err ce8 rr8 from HR.out.trans (bind_f h8))
    clear h8
    rintro e1 w8 ⟨rfl, k8⟩
    go_wp2_with fail
    refine ⟨rfl, ?_⟩
    rw [HRe.out]
    exact ⟨rfl, k8⟩
  | ok y8 rr8 =>
    have HR8 := hid (HR.out.trans (bind_t h8))
    have HW8 := hid (wf_of_res HI.out hw h8)
    have hne8 := ne_of_res HI.out hw h8
    clear h8
    rintro e1 w8 ⟨rfl, se8, S8⟩
    obtain ⟨sa8, sk8, sc8, rfl⟩ := S8.form
    clear c2 c3 x0 x1 x2 x3 x4 x5 xf z0 z1 z2 z3 z4 z5 zf
    obtain ⟨c2, c3, ⟨x0, x1, x2, x3, x4, x5, xf⟩, ⟨z0, z1, z2, z3, z4, z5, zf⟩⟩ := S8.cells
    go_wp2_with fail
    have HPL := hid (place_eq (n := n) hne8)
    cases h9 : isSign [59] rr8 with
    | false =>
      have H9 := hid h9
      have HRe := hid (show R = .err 41 rr8 from HR8.out.trans (must_f h9))
      clear h9
      (with_reducible refine (mustN _ br n rr8 S8.rd _ H9.out _ (by simp [World.setCell])).mono ?_)
      rintro e1 w9 ⟨rfl, k9⟩
      go_wp2_with fail
      refine ⟨rfl, ?_⟩
      rw [HRe.out]
      exact ⟨rfl, S8.keep.trans' k9⟩
    | true =>
      have H9 := hid h9
      have HR9 := hid (HR8.out.trans (must_t h9))
      clear h9
      (with_reducible refine (mustY _ br n rr8 S8.rd _ H9.out _ (by simp [World.setCell])).mono ?_)
      rintro e1 w9 ⟨rfl, r9, k9⟩
      have S9 := S8.move r9 k9
      clear c2 c3 x0 x1 x2 x3 x4 x5 xf z0 z1 z2 z3 z4 z5 zf
      clear r9 k9
      obtain ⟨c2, c3, ⟨x0, x1, x2, x3, x4, x5, xf⟩, ⟨z0, z1, z2, z3, z4, z5, zf⟩⟩ := S9.cells
      go_wp2_with fail
      obtain ⟨wF, hwF, BF, rF, kF, hX⟩ := S9.done.ans (.int .i64 8) rfl
      rw [← hwF]
      obtain ⟨q0, q1, q2, q3, q4, q5, _⟩ := BF.six
      refine bodyPost_ret (by simp [results, Tryz.results59, go_sem, q0, q1, q2, q3, q4, q5]; rfl) rfl ?_
      rw [show R = .ok (.mk 8 [] [y8] [] [] (placeOf n ts)) (List.tail rr8) by rw [HPL.out]; exact HR9.out]
      exact ⟨_, rfl, hX, rF, kF⟩

set_option maxHeartbeats 8000000 in
theorem stmt_set (d : Nat) (hd : d ≤ 100) (p : Rd Ex) (b : Rd (List St)) (hC : ExprC 80 (d + 1) p) (hi : Inv Ex.size WFx p) (hB : BlockC (d + 1) b) (hib : Inv (fun l => sumOf St.size l + 1) (AllP WFs) b) (w : World) (br n : Nat) (ts : List Tok) (hr : RdAt w br n ts) (hw : Wf ts) (n0 : isSign [108, 101, 116] ts = false) (n1 : isSign [105, 102] ts = false) (n2 : isSign [102, 111, 114] ts = false) (n3 : isSign [114, 101, 116, 117, 114, 110] ts = false) (n4 : isSign [112, 117, 116] ts = false) (n5 : isSign [100, 101, 108] ts = false) (t : Tok) (r : List Tok) (hts : ts = t :: r) (hk : t.kind = 1) (hno : isSign [61] ts.tail = true) (hset : (isName ts && isSign [61] ts.tail) = true) :
    Calls Tryz.prog 59 #[.pointer (some ⟨br, 0, none⟩), .int .i64 d] w (Ans w br n (encS w.heap.size) (stmtS p b ts)) := by
  have HR := hid (show stmtS p b ts = _ by unfold stmtS; rw [if_neg (by rw [n0]; decide), if_neg (by rw [n1]; decide), if_neg (by rw [n2]; decide), if_neg (by rw [n3]; decide), if_neg (by rw [n4]; decide), if_neg (by rw [n5]; decide), if_pos hset])
  have N0 := hid n0
  have N1 := hid n1
  have N2 := hid n2
  have N3 := hid n3
  have N4 := hid n4
  have N5 := hid n5
  have HC := hid hC
  have HI := hid hi
  have HB := hid hB
  have HIB := hid hib
  have HTS := hid hts
  have HK := hid hk
  have HNO := hid hno
  have HN := hid (show isName ts = true by rw [hts]; simp [isName, hk])
  have HPL := hid (place_eq (n := n) (show ts ≠ [] by rw [hts]; simp))
  clear hts hk hno
  clear hC hi hB hib hset n0 n1 n2 n3 n4 n5
  have S00 := stAt_begin (d := d) hr (placeOf n ts)
  have lr := hr.lt
  have r3 := ((hr.ext ((Ext.refl _).alloc (.cells #[.pointer (some ⟨br, 0, none⟩)] 44))).ext ((Ext.refl _).alloc (.cells #[.int .i64 d] 3))).ext ((Ext.refl _).alloc (.cells #[.int .i64 0, .string ⟨#[]⟩, .slice none 0 0, .slice none 0 0, .slice none 0 0, .int .i64 0] 78))
  have hmf : ∀ (fn : Fn) (first cap : Array Value) (w : World), (Instr.makeFunc fn first cap).run Tryz.prog w = .ok (.func fn first cap) w := fun _ _ _ _ => rfl
  generalize stmtS p b ts = R at HR ⊢
  have hS := hid S00
  clear S00
  go_enter Tryz.func59, Tryz.ntmps59
  go_wp2_with fail
  (with_reducible refine (place_any _ br n ts r3).mono ?_)
  rintro e1 w' ⟨rfl, rfl⟩
  go_wp2_with fail
  (with_reducible refine (take_no _ br n ts hS.out.rd _ N0.out).mono ?_)
  rintro e1 w1 ⟨rfl, r1, k1⟩
  have S1 := hS.out.move r1 k1
  clear r1 k1
  obtain ⟨c2, c3, ⟨x0, x1, x2, x3, x4, x5, xf⟩, ⟨z0, z1, z2, z3, z4, z5, zf⟩⟩ := S1.cells
  go_wp2_with fail
  (with_reducible refine (take_no _ br n ts S1.rd _ N1.out).mono ?_)
  rintro e1 w2 ⟨rfl, r2, k2⟩
  have S2 := S1.move r2 k2
  clear c2 c3 x0 x1 x2 x3 x4 x5 xf z0 z1 z2 z3 z4 z5 zf
  clear r2 k2
  obtain ⟨c2, c3, ⟨x0, x1, x2, x3, x4, x5, xf⟩, ⟨z0, z1, z2, z3, z4, z5, zf⟩⟩ := S2.cells
  go_wp2_with fail
  (with_reducible refine (take_no _ br n ts S2.rd _ N2.out).mono ?_)
  rintro e1 w3 ⟨rfl, r3, k3⟩
  have S3 := S2.move r3 k3
  clear c2 c3 x0 x1 x2 x3 x4 x5 xf z0 z1 z2 z3 z4 z5 zf
  clear r3 k3
  obtain ⟨c2, c3, ⟨x0, x1, x2, x3, x4, x5, xf⟩, ⟨z0, z1, z2, z3, z4, z5, zf⟩⟩ := S3.cells
  go_wp2_with fail
  (with_reducible refine (take_no _ br n ts S3.rd _ N3.out).mono ?_)
  rintro e1 w4 ⟨rfl, r4, k4⟩
  have S4 := S3.move r4 k4
  clear c2 c3 x0 x1 x2 x3 x4 x5 xf z0 z1 z2 z3 z4 z5 zf
  clear r4 k4
  obtain ⟨c2, c3, ⟨x0, x1, x2, x3, x4, x5, xf⟩, ⟨z0, z1, z2, z3, z4, z5, zf⟩⟩ := S4.cells
  go_wp2_with fail
  (with_reducible refine (take_no _ br n ts S4.rd _ N4.out).mono ?_)
  rintro e1 w5 ⟨rfl, r5, k5⟩
  have S5 := S4.move r5 k5
  clear c2 c3 x0 x1 x2 x3 x4 x5 xf z0 z1 z2 z3 z4 z5 zf
  clear r5 k5
  obtain ⟨c2, c3, ⟨x0, x1, x2, x3, x4, x5, xf⟩, ⟨z0, z1, z2, z3, z4, z5, zf⟩⟩ := S5.cells
  go_wp2_with fail
  (with_reducible refine (take_no _ br n ts S5.rd _ N5.out).mono ?_)
  rintro e1 w6 ⟨rfl, r6, k6⟩
  have S6 := S5.move r6 k6
  clear c2 c3 x0 x1 x2 x3 x4 x5 xf z0 z1 z2 z3 z4 z5 zf
  clear r6 k6
  obtain ⟨c2, c3, ⟨x0, x1, x2, x3, x4, x5, xf⟩, ⟨z0, z1, z2, z3, z4, z5, zf⟩⟩ := S6.cells
  obtain ⟨tb, toff, tcap, tne, g0, g1, gf, d0, d1, d2, d3, hcap, hmax, _, _⟩ := (show RdAt _ br n (t :: r) from HTS.out ▸ S6.rd).cons
  have hl0 : ((r.length : Int) + 1 > 0) := by omega
  have hl1 : ¬ ((r.length : Int) + 1 ≤ 0) := by omega
  have hk1 : ((t.kind : Int) == 1) = true := by rw [HK.out]; rfl
  go_wp2_with fail
  (with_reducible refine (at1_any _ br n ts S6.rd _).mono ?_)
  rintro e1 w' ⟨rfl, rfl⟩
  rw [show isSign (ByteArray.mk #[61]).data.toList ts.tail = true from HNO.out]
  go_wp2_with fail
  (with_reducible refine (name_yes _ br n ts S6.rd HN.out).mono ?_)
  rintro e1 w7 ⟨rfl, r7, k7⟩
  have S7 := S6.move r7 k7
  clear c2 c3 x0 x1 x2 x3 x4 x5 xf z0 z1 z2 z3 z4 z5 zf
  clear r7 k7
  obtain ⟨c2, c3, ⟨x0, x1, x2, x3, x4, x5, xf⟩, ⟨z0, z1, z2, z3, z4, z5, zf⟩⟩ := S7.cells
  go_wp2_with fail
  have T7 := (S7.setOp 2 (.int .i64 2) rfl).setText (headText ts)
  (with_reducible refine (mustY _ br n (List.tail ts) T7.rd _ HNO.out _ (by simp [World.setCell])).mono ?_)
  rintro e1 w8 ⟨rfl, r8, k8⟩
  have S8 := T7.move r8 k8
  clear c2 c3 x0 x1 x2 x3 x4 x5 xf z0 z1 z2 z3 z4 z5 zf
  clear r8 k8
  obtain ⟨c2, c3, ⟨x0, x1, x2, x3, x4, x5, xf⟩, ⟨z0, z1, z2, z3, z4, z5, zf⟩⟩ := S8.cells
  go_wp2_with fail
  refine (st_kid hd p HC.out S8 hw.tail.tail (by simp)).mono ?_
  cases h9 : p (List.tail (List.tail ts)) with
  | err ce9 rr9 =>
    have HRe := hid (show R = .err ce9 rr9 from HR.out.trans (bind_f h9))
    clear h9
    rintro e1 w9 ⟨rfl, k9⟩
    go_wp2_with fail
    refine ⟨rfl, ?_⟩
    rw [HRe.out]
    exact ⟨rfl, k9⟩
  | ok y9 rr9 =>
    have HR9 := hid (HR.out.trans (bind_t h9))
    have HW9 := hid (wf_of_res HI.out hw.tail.tail h9)
    have hne9 := ne_of_res HI.out hw.tail.tail h9
    clear h9
    rintro e1 w9 ⟨rfl, se9, S9⟩
    obtain ⟨sa9, sk9, sc9, rfl⟩ := S9.form
    clear c2 c3 x0 x1 x2 x3 x4 x5 xf z0 z1 z2 z3 z4 z5 zf
    obtain ⟨c2, c3, ⟨x0, x1, x2, x3, x4, x5, xf⟩, ⟨z0, z1, z2, z3, z4, z5, zf⟩⟩ := S9.cells
    go_wp2_with fail
    cases h10 : isSign [59] rr9 with
    | false =>
      have H10 := hid h10
      have HRe := hid (show R = .err 41 rr9 from HR9.out.trans (must_f h10))
      clear h10
      (with_reducible refine (mustN _ br n rr9 S9.rd _ H10.out _ (by simp [World.setCell])).mono ?_)
      rintro e1 w10 ⟨rfl, k10⟩
      go_wp2_with fail
      refine ⟨rfl, ?_⟩
      rw [HRe.out]
      exact ⟨rfl, S9.keep.trans' k10⟩
    | true =>
      have H10 := hid h10
      have HR10 := hid (HR9.out.trans (must_t h10))
      clear h10
      (with_reducible refine (mustY _ br n rr9 S9.rd _ H10.out _ (by simp [World.setCell])).mono ?_)
      rintro e1 w10 ⟨rfl, r10, k10⟩
      have S10 := S9.move r10 k10
      clear c2 c3 x0 x1 x2 x3 x4 x5 xf z0 z1 z2 z3 z4 z5 zf
      clear r10 k10
      obtain ⟨c2, c3, ⟨x0, x1, x2, x3, x4, x5, xf⟩, ⟨z0, z1, z2, z3, z4, z5, zf⟩⟩ := S10.cells
      go_wp2_with fail
      obtain ⟨wF, hwF, BF, rF, kF, hX⟩ := S10.done.ans (.int .i64 2) rfl
      rw [← hwF]
      obtain ⟨q0, q1, q2, q3, q4, q5, _⟩ := BF.six
      refine bodyPost_ret (by simp [results, Tryz.results59, go_sem, q0, q1, q2, q3, q4, q5]; rfl) rfl ?_
      rw [show R = .ok (.mk 2 (headText ts) [y9] [] [] (placeOf n ts)) (List.tail rr9) by rw [HPL.out]; exact HR10.out]
      exact ⟨_, rfl, hX, rF, kF⟩

/-- STMT. -/
theorem stmt_any (d : Nat) (hd : d ≤ 100) (p : Rd Ex) (b : Rd (List St)) (hC : ExprC 80 (d + 1) p) (hi : Inv Ex.size WFx p) (hB : BlockC (d + 1) b) (hib : Inv (fun l => sumOf St.size l + 1) (AllP WFs) b) (w : World) (br n : Nat) (ts : List Tok) (hr : RdAt w br n ts) (hw : Wf ts) : Calls Tryz.prog 59 #[.pointer (some ⟨br, 0, none⟩), .int .i64 d] w (Ans w br n (encS w.heap.size) (stmtS p b ts)) := by
  cases n0 : isSign [108, 101, 116] ts with
  | true => exact stmt_let d hd p b hC hi hB hib w br n ts hr hw n0
  | false =>
    cases n1 : isSign [105, 102] ts with
    | true => exact stmt_if d hd p b hC hi hB hib w br n ts hr hw n0 n1
    | false =>
      cases n2 : isSign [102, 111, 114] ts with
      | true => exact stmt_for d hd p b hC hi hB hib w br n ts hr hw n0 n1 n2
      | false =>
        cases n3 : isSign [114, 101, 116, 117, 114, 110] ts with
        | true => exact stmt_return d hd p b hC hi hB hib w br n ts hr hw n0 n1 n2 n3
        | false =>
          cases n4 : isSign [112, 117, 116] ts with
          | true => exact stmt_put d hd p b hC hi hB hib w br n ts hr hw n0 n1 n2 n3 n4
          | false =>
            cases n5 : isSign [100, 101, 108] ts with
            | true => exact stmt_del d hd p b hC hi hB hib w br n ts hr hw n0 n1 n2 n3 n4 n5
            | false =>
              cases hts : ts with
              | nil => subst hts; exact stmt_do_nil d hd p b hC hi hB hib w br n [] hr hw n0 n1 n2 n3 n4 n5 rfl rfl
              | cons t r =>
                rw [← hts]
                by_cases hk : t.kind = 1
                · have hn : isName ts = true := by rw [hts]; simp [isName, hk]
                  cases hno : isSign [61] ts.tail with
                  | true => exact stmt_set d hd p b hC hi hB hib w br n ts hr hw n0 n1 n2 n3 n4 n5 t r hts hk hno (by rw [hn, hno]; rfl)
                  | false => exact stmt_do_name d hd p b hC hi hB hib w br n ts hr hw n0 n1 n2 n3 n4 n5 t r hts hk hno (by rw [hn, hno]; rfl)
                · exact stmt_do_kind d hd p b hC hi hB hib w br n ts hr hw n0 n1 n2 n3 n4 n5 t r hts hk (by rw [show isName ts = false by rw [hts]; simp [isName, hk]]; rfl)
end Go.Proofs.YtaehlakefgnfmaaGreatDoor
