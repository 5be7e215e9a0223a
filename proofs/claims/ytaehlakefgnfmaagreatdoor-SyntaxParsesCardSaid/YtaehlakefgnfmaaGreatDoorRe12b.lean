/-
  DERIVED. THE WALKS of the document's reader's stmt, further kinds (printed by gen_re12.py).
-/
import Derived.Test.YtaehlakefgnfmaaGreatDoorRe11
namespace Go.Proofs.YtaehlakefgnfmaaGreatDoor
set_option linter.unusedSimpArgs false
set_option linter.unusedVariables false
set_option maxRecDepth 100000
open Go.RowKit

def rteR (E : Rd Ex) (B : Rd (List St)) (p : Nat) : Rd St := sqR E (fun x => sqR (signR [59]) (fun _ => retR (.mk 5 [] [x] [] [] p)))
theorem aft_rte {n : Nat} {E : Rd Ex} {B : Rd (List St)} {p : Nat} {S : Rz} : aft n (rteR E B p) S = aft n (signR [59]) (aft n (E) (S)) :=
  aft_sq (F := fun S => aft n (signR [59]) (S)) (fun _ S => aft_sq (F := fun S => S) (fun _ S => aft_ret _ _ _) (fun _ _ => rfl)) (fun _ _ => rfl)
theorem rte_sq {E : Rd Ex} {B : Rd (List St)} {us : List Tok} (h0 : isSign [108, 101, 116] us = false) (h1 : isSign [105, 102] us = false) (h2 : isSign [102, 111, 114] us = false) (h3 : isSign [114, 101, 116, 117, 114, 110] us = true) (hx : isSign [59] us.tail = false) : stmtS E B us = rteR E B (headPlace us) us.tail := by
  unfold stmtS
  rw [h0, h1, h2, if_neg (by decide), if_neg (by decide), if_neg (by decide), if_pos h3, if_neg (by rw [hx]; decide)]
  simp only [must_sq]
  rfl
set_option maxHeartbeats 32000000 in
theorem rStmt_rte (d : Nat) (hd : d ≤ 32) (E : Rd Ex) (hE : ExC Any 83 ((d : Int) + 1) E) (w : World) (br n : Nat) (us : List Tok) (hr : ReAt w br n (.ok us)) (B : Rd (List St)) (hB : BlC ((d : Int) + 1) B) (h0 : isSign [108, 101, 116] us = false) (h1 : isSign [105, 102] us = false) (h2 : isSign [102, 111, 114] us = false) (h3 : isSign [114, 101, 116, 117, 114, 110] us = true) (hx : isSign [59] us.tail = false) :
    Calls Tryz.prog 68 #[.pointer (some ⟨br, 0, none⟩), .int .i64 d] w (StPost w br n (.ok us) (stmtS E B)) := by
  obtain ⟨i0, hi0, hz0, hz1, hz2⟩ := info_parts Tryz.infoExpr
  have tt := fun (a b c d : Value) (w : World) => Tryz.tokText a b c d w
  have HN0 := hid h0
  have HN1 := hid h1
  have HN2 := hid h2
  have HN3 := hid h3
  have HIS := hid hx
  have HE := hid hE
  have HB := hid hB
  have HSQ := hid (rte_sq (E := E) (B := B) h0 h1 h2 h3 hx)
  have hwr0 : IntKind.i64.wrap ((d : Int) + 1) = (d : Int) + 1 := IntWalk.i64_in _ (by omega)
  clear h0 h1 h2 h3 hx hE hB
  have hlt := hr.lt
  go_enter Tryz.func68, Tryz.ntmps68
  go_wp2_with fail
  refine (rPlace_any _ br n _ (hr.ext ((Ext.refl _).alloc _))).mono ?_
  rintro e' wP ⟨⟨p, rfl, hp⟩, mm, rfl⟩
  have HP := hid (hp us rfl)
  clear hp
  have A0 : SmAt w (((w.alloc (.cells #[.int .i64 0, .string ⟨#[]⟩, .slice none 0 0, .slice none 0 0, .slice none 0 0, .int .i64 0] 78)).drewN mm).alloc (.cells #[.int .i64 0, .string ⟨#[]⟩, .slice none 0 0, .slice none 0 0, .slice none 0 0, .int .i64 p] 78)) br n (.ok us) [.int .i64 0, .string ⟨#[]⟩, .slice none 0 0, .slice none 0 0, .slice none 0 0, .int .i64 p] :=
    ⟨((hr.ext ((Ext.refl _).alloc _)).drewN mm).ext ((Ext.refl _).alloc _), ((Blk.new w 78 [.int .i64 0, .string ⟨#[]⟩, .slice none 0 0, .slice none 0 0, .slice none 0 0, .int .i64 0]).drewN mm).alloc _, by
      have := Blk.new ((w.alloc (.cells #[.int .i64 0, .string ⟨#[]⟩, .slice none 0 0, .slice none 0 0, .slice none 0 0, .int .i64 0] 78)).drewN mm) 78 [.int .i64 0, .string ⟨#[]⟩, .slice none 0 0, .slice none 0 0, .slice none 0 0, .int .i64 p]
      have e : ((w.alloc (.cells #[.int .i64 0, .string ⟨#[]⟩, .slice none 0 0, .slice none 0 0, .slice none 0 0, .int .i64 0] 78)).drewN mm).heap.size = w.heap.size + 1 := by show (w.alloc _).heap.size = _; rw [World.size_alloc]
      rw [e] at this
      exact this, (((Keep.refl _ _).alloc _).trans' (Keep.drewN' _ _ mm)).alloc _, hlt⟩
  go_wp2_with fail
  refine (rTake_any _ br n _ A0.rd [108, 101, 116]).mono ?_
  rintro e' wT0 ⟨rfl, rT, kT⟩
  rw [show isS [108, 101, 116] (.ok us) = false from HN0.out]
  rw [tkS_no (show isS [108, 101, 116] (.ok us) = false from HN0.out)] at rT
  have A1 := A0.call rT kT
  clear rT kT
  go_wp2_with fail
  refine (rTake_any _ br n _ A1.rd [105, 102]).mono ?_
  rintro e' wT1 ⟨rfl, rT, kT⟩
  rw [show isS [105, 102] (.ok us) = false from HN1.out]
  rw [tkS_no (show isS [105, 102] (.ok us) = false from HN1.out)] at rT
  have A2 := A1.call rT kT
  clear rT kT
  go_wp2_with fail
  refine (rTake_any _ br n _ A2.rd [102, 111, 114]).mono ?_
  rintro e' wT2 ⟨rfl, rT, kT⟩
  rw [show isS [102, 111, 114] (.ok us) = false from HN2.out]
  rw [tkS_no (show isS [102, 111, 114] (.ok us) = false from HN2.out)] at rT
  have A3 := A2.call rT kT
  clear rT kT
  go_wp2_with fail
  refine (rTake_any _ br n _ A3.rd [114, 101, 116, 117, 114, 110]).mono ?_
  rintro e' wT3 ⟨rfl, rT, kT⟩
  rw [show isS [114, 101, 116, 117, 114, 110] (.ok us) = true from HN3.out]
  have B0 : SmAt w wT3 br n (.ok us.tail) [.int .i64 0, .string ⟨#[]⟩, .slice none 0 0, .slice none 0 0, .slice none 0 0, .int .i64 p] := A3.call (by
    have := rT
    rw [tkS, if_pos (show isSign [114, 101, 116, 117, 114, 110] us = true from HN3.out)] at this
    exact this) kT
  clear rT kT A0
  have C1 := B0.set 0 (.int .i64 5)
  simp only [List.set_cons_zero, List.set_cons_succ] at C1
  obtain ⟨l0, l1, l2, l3, l4, l5, lf⟩ := B0.loc.sixR
  have lB := B0.loc.lt
  go_wp2_with fail
  refine (rIs_any _ br n _ C1.rd [59]).mono ?_
  rintro e' wI ⟨rfl, mI, rfl⟩
  rw [show isS [59] (.ok us.tail) = false from HIS.out]
  clear l0 l1 l2 l3 l4 l5 lf lB
  have C2 := C1.call (C1.rd.drewN mI) (Keep.drewN' _ _ mI)
  have own : World.ownsRow ((wT3.setCell ⟨w.heap.size + 1, 0, none⟩ (.int .i64 5)).drewN mI) (w.heap.size + 2) 100 5 (.slice none 0 0) 0 [] := World.ownsRow_nil _ _ _ _
  have lw1 := C2.loc.lt
  go_wp2_with fail
  have bX := C2.loc
  have rr := C2.rd
  have lX := C2.loc.lt
  have hwr : IntKind.i64.wrap ((d : Int) + 1) = (d : Int) + 1 := IntWalk.i64_in _ (by omega)
  have hSx : Blk ((wT3.setCell ⟨w.heap.size + 1, 0, none⟩ (.int .i64 5)).drewN mI).drew (w.heap.size + 1) 78 [.int .i64 5, .string ⟨#[]⟩, .slice none 0 0, .slice none 0 0, .slice none 0 0, .int .i64 p] := bX
  refine phase_begin (fun w' => Blk w' (w.heap.size + 1) 78 [.int .i64 5, .string ⟨#[]⟩, .slice none 0 0, .slice none 0 0, .slice none 0 0, .int .i64 p]) 9 (by kernel_rfl) ?_
  refine phase_take (i := 0) (v := .pointer (some ⟨w.heap.size + 1, 2, none⟩)) rfl (by kernel_rfl) (by omega) (by kernel_rfl) (by kernel_rfl) (by kernel_rfl) (fun _ _ _ h => h) ⟨by rfl, ?_⟩ hSx ?_
  · intro wS hSw
    have s0 := Blk.cell hSw 2
    have sl := Blk.lt hSw
    simp only [List.getElem?_cons_zero, List.getElem?_cons_succ] at s0
    go_simp
  try simp only [Act.put, List.getElem_toArray, List.getElem_cons_succ, List.getElem_cons_zero, List.setIfInBounds_toArray, List.set_cons_zero, List.set_cons_succ]
  refine phase_take (i := 1) (v := .slice none 0 0) rfl (by kernel_rfl) (by omega) (by kernel_rfl) (by kernel_rfl) (by kernel_rfl) (fun _ _ _ h => h) ⟨by rfl, ?_⟩ hSx ?_
  · intro wS hSw
    have s0 := Blk.cell hSw 2
    have sl := Blk.lt hSw
    simp only [List.getElem?_cons_zero, List.getElem?_cons_succ] at s0
    go_simp
  try simp only [Act.put, List.getElem_toArray, List.getElem_cons_succ, List.getElem_cons_zero, List.setIfInBounds_toArray, List.set_cons_zero, List.set_cons_succ]
  refine phase_take (i := 2) (v := .pointer (some ⟨br, 0, none⟩)) rfl (by kernel_rfl) (by omega) (by kernel_rfl) (by kernel_rfl) (by kernel_rfl) (fun _ _ _ h => h) ⟨by rfl, fun wS hSw => by go_simp⟩ hSx ?_
  try simp only [Act.put, List.getElem_toArray, List.getElem_cons_succ, List.getElem_cons_zero, List.setIfInBounds_toArray, List.set_cons_zero, List.set_cons_succ]
  refine phase_take (i := 3) (v := .int .i64 d) rfl (by kernel_rfl) (by omega) (by kernel_rfl) (by kernel_rfl) (by kernel_rfl) (fun _ _ _ h => h) ⟨by rfl, fun wS hSw => by go_simp⟩ hSx ?_
  try simp only [Act.put, List.getElem_toArray, List.getElem_cons_succ, List.getElem_cons_zero, List.setIfInBounds_toArray, List.set_cons_zero, List.set_cons_succ]
  refine phase_take (i := 4) (v := .int .i64 ((d : Int) + 1)) rfl (by kernel_rfl) (by omega) (by kernel_rfl) (by kernel_rfl) (by kernel_rfl) (fun _ _ _ h => h) ⟨by rfl, fun wS hSw => by go_simp⟩ hSx ?_
  try simp only [Act.put, List.getElem_toArray, List.getElem_cons_succ, List.getElem_cons_zero, List.setIfInBounds_toArray, List.set_cons_zero, List.set_cons_succ]
  refine phase_one (i := 5) (by kernel_rfl) (by omega) rfl (by rfl) (fun K hK => ?_)
  go_simp
  refine (HE.out _ br n (.ok us.tail) trivial (rr.ext (Ext.refl _).drew)).mono ?_
  rintro e' w3q1 ⟨⟨vsq1, rfl, ⟨opq1, numq1, textq1, kaq1, knq1, kcq1, at_q1, rfl⟩, hxq1⟩, r3q1, k3q1⟩
  have b3q1 := hSx.keep k3q1 (by simp; omega)
  have HXq1 := hid hxq1
  clear hxq1
  refine hK _ _ ⟨b3q1, ?_⟩
  clear hK K
  try simp only [Act.put, List.getElem_toArray, List.getElem_cons_succ, List.getElem_cons_zero, List.setIfInBounds_toArray, List.set_cons_zero, List.set_cons_succ]
  refine phase_one (i := 6) (by kernel_rfl) (by omega) rfl (by rfl) (fun K hK => ?_)
  go_simp
  refine hK _ _ ⟨b3q1.alloc _, ?_⟩
  clear hK K
  try simp only [Act.put, List.getElem_toArray, List.getElem_cons_succ, List.getElem_cons_zero, List.setIfInBounds_toArray, List.set_cons_zero, List.set_cons_succ]
  have own4q1 := (ownsRow_keep own ((Keep.refl [br] _).drew.trans' k3q1) (fun b hb _ hq => by simp only [List.mem_singleton] at hb; subst hb; have := (own.lt _ hq).1; omega)).alloc (.cells #[.int .i64 opq1, .int .i64 numq1, .string ⟨textq1.toArray⟩, .slice kaq1 knq1 kcq1, .int .i64 at_q1] 100)
  have sz3q1 := k3q1.size
  simp only [World.size_drew] at sz3q1
  refine phase_one (i := 7) (by kernel_rfl) (by omega) rfl (by rfl) (fun K hK => ?_)
  refine wp_append_lies _ (.tmp 102) (.tmp 107) 76 (by rfl) (w.heap.size + 2) 100 i0 (.agg #[.int .i64 0, .int .i64 0, .string ⟨#[]⟩, .slice none 0 0, .int .i64 0]) 5 64 Tryz.underlying76 hi0 hz0 hz1 hz2 rfl (by omega) (.slice none 0 0) 0 [] (by rfl) own4q1 ⟨w3q1.heap.size, 0, none⟩ 1 1
    [.int .i64 opq1, .int .i64 numq1, .string ⟨textq1.toArray⟩, .slice kaq1 knq1 kcq1, .int .i64 at_q1] (by rfl) (by rfl) (news_cells _ _ _ _ rfl) (by simp [Value.oneCell']) (by omega) (by simp only [maxLen]; omega) (by omega) (by simp; omega) (w3q1.heap.size + 1) (by simp) (fun gq1 capq1 w5q1 hown5q1 hgrq1 hatq1 hgltq1 => ?_)
  have lgq1 : w.heap.size + 2 ≤ gq1 := (hown5q1.lt gq1 rfl).1
  have lownq1 : ∀ q ∈ ownL (.slice none 0 0), w.heap.size + 2 ≤ q ∧ q < ((wT3.setCell ⟨w.heap.size + 1, 0, none⟩ (.int .i64 5)).drewN mI).heap.size := fun q hq => own.lt q (mem_ownL.1 hq)
  have kkq1 := Keep.grownBy hgrq1 (ownL (.slice none 0 0)) (fun k hk => mem_ownL.2 hk)
  have b5q1 := (b3q1.alloc (.cells #[.int .i64 opq1, .int .i64 numq1, .string ⟨textq1.toArray⟩, .slice kaq1 knq1 kcq1, .int .i64 at_q1] 100)).keep kkq1 (fun hq => by have := (lownq1 _ hq).1; omega)
  refine hK _ _ ⟨b5q1, ?_⟩
  clear hK K
  try simp only [Act.put, List.getElem_toArray, List.getElem_cons_succ, List.getElem_cons_zero, List.setIfInBounds_toArray, List.set_cons_zero, List.set_cons_succ]
  refine phase_take (i := 8) (v := .pointer (some ⟨w.heap.size + 1, 2, none⟩)) rfl (by kernel_rfl) (by omega) (by kernel_rfl) (by kernel_rfl) (by kernel_rfl) (fun _ _ _ h => h) ⟨by rfl, ?_⟩ (show Blk w5q1 (w.heap.size + 1) 78 [.int .i64 5, .string ⟨#[]⟩, .slice none 0 0, .slice none 0 0, .slice none 0 0, .int .i64 p] from b5q1) ?_
  · intro wS hSw
    have s0 := Blk.cell hSw 2
    have sl := Blk.lt hSw
    simp only [List.getElem?_cons_zero, List.getElem?_cons_succ] at s0
    go_simp
  try simp only [Act.put, List.getElem_toArray, List.getElem_cons_succ, List.getElem_cons_zero, List.setIfInBounds_toArray, List.set_cons_zero, List.set_cons_succ]
  have c5q1 := b5q1.cell 2
  have f5q1 := b5q1.frozen 2
  have l5q1 := b5q1.lt
  simp only [List.getElem?_cons_zero, List.getElem?_cons_succ] at c5q1
  refine phase_late (i := 9) (by kernel_rfl) (by omega) rfl (by rfl) (fun K hK => ?_)
  go_simp
  refine hK _ _ ?_
  clear hK K
  try simp only [Act.put, List.getElem_toArray, List.getElem_cons_succ, List.getElem_cons_zero, List.setIfInBounds_toArray, List.set_cons_zero, List.set_cons_succ]
  have bX6q1 := b5q1.set 2 (.slice (some ⟨gq1, 0, none⟩) 1 capq1)
  simp only [List.set_cons_zero, List.set_cons_succ] at bX6q1
  have kSq1 := Keep.set w5q1 ⟨w.heap.size + 1, 2, none⟩ (.slice (some ⟨gq1, 0, none⟩) 1 capq1)
  have r6q1 := ((r3q1.ext ((Ext.refl _).alloc (.cells #[.int .i64 opq1, .int .i64 numq1, .string ⟨textq1.toArray⟩, .slice kaq1 knq1 kcq1, .int .i64 at_q1] 100))).keep kkq1 (fun q hq => by have := (lownq1 q hq).1; omega)).keep kSq1 (fun q hq => by simp only [List.mem_singleton] at hq; omega)
  have kAq1 : Keep (br :: (w.heap.size + 1) :: ownL (.slice none 0 0)) ((wT3.setCell ⟨w.heap.size + 1, 0, none⟩ (.int .i64 5)).drewN mI) (w5q1.setCell ⟨w.heap.size + 1, 2, none⟩ (.slice (some ⟨gq1, 0, none⟩) 1 capq1)) :=
    ((((Keep.refl _ _).drew.trans k3q1 (by simp)).alloc _).trans kkq1 (fun q hq => .inl (by simp [hq]))).trans kSq1 (by simp)
  have own6q1 := ownsRow_keep hown5q1 kSq1 (fun b hb _ hq => by simp only [List.mem_singleton] at hb; subst hb; simp only [Value.ownBlock, Option.some.injEq] at hq; omega)
  refine wpAny_done (by kernel_rfl) ?_ _
  clear c5q1 f5q1 hSx b3q1 own4q1
  have SM1 := C2.push (v := .slice none 0 0) r6q1 bX6q1 kAq1 (fun q hq => (lownq1 q hq).1)
  have HF1 : Hid (∀ x, Giv E (.ok us.tail) x → ExIs _ (fun b => ((wT3.setCell ⟨w.heap.size + 1, 0, none⟩ (.int .i64 5)).drewN mI).heap.size ≤ b ∧ b < w3q1.heap.size) x [.int .i64 opq1, .int .i64 numq1, .string ⟨textq1.toArray⟩, .slice kaq1 knq1 kcq1, .int .i64 at_q1]) := fun x hg =>
    ExIs.carry (Carry.keep kSq1 (fun b hb _ hf => by simp only [List.mem_singleton] at hb; omega) (fun b _ hf => hf)) _ _ (ExIs.carry (Carry.keep kkq1 (fun b hb _ hf => by have := (lownq1 b hb).2; omega) (fun b _ hf => hf)) _ _ (ExIs.carry (Carry.keep (Keep.ofExt ((Ext.refl _).alloc (.cells #[.int .i64 opq1, .int .i64 numq1, .string ⟨textq1.toArray⟩, .slice kaq1 knq1 kcq1, .int .i64 at_q1] 100)) : Keep [] _ _) (G := fun b => ((wT3.setCell ⟨w.heap.size + 1, 0, none⟩ (.int .i64 5)).drewN mI).heap.size ≤ b ∧ b < w3q1.heap.size) (by simp) (fun b hlt hf => ⟨hf, hlt⟩)) _ _ (HXq1.out x hg)))
  have kQ1 := Keep.refl [br, w.heap.size, w.heap.size + 1] (w5q1.setCell ⟨w.heap.size + 1, 2, none⟩ (.slice (some ⟨gq1, 0, none⟩) 1 capq1))
  clear HXq1
  have kO1 := Keep.refl [br, w.heap.size, w.heap.size + 1] (w5q1.setCell ⟨w.heap.size + 1, 2, none⟩ (.slice (some ⟨gq1, 0, none⟩) 1 capq1))
  have kQ1 := Keep.refl [br, w.heap.size + 1, gq1, w.heap.size] (w5q1.setCell ⟨w.heap.size + 1, 2, none⟩ (.slice (some ⟨gq1, 0, none⟩) 1 capq1))
  go_wp2_with fail
  refine (rMust_any _ br n _ SM1.rd [59]).mono ?_
  rintro e' w3m ⟨rfl, rN3, kN3⟩
  have C4 := SM1.call rN3 kN3
  have kQ1 := kQ1.trans kN3 (by simp)
  have kO1 := kO1.trans kN3 (by simp)
  obtain ⟨l0, l1, l2, l3, l4, l5, lf⟩ := C4.loc.sixR
  obtain ⟨m0, m1, m2, m3, m4, m5, mf⟩ := C4.res.sixR
  have lr7 := C4.res.lt
  have lr8 := C4.loc.lt
  have bF := C4.res.put6 (.int .i64 5) (.string ⟨#[]⟩) (.slice (some ⟨gq1, 0, none⟩) 1 capq1) (.slice none 0 0) (.slice none 0 0) (.int .i64 p)
  have kF := Keep.put6 w3m w.heap.size (.int .i64 5) (.string ⟨#[]⟩) (.slice (some ⟨gq1, 0, none⟩) 1 capq1) (.slice none 0 0) (.slice none 0 0) (.int .i64 p)
  obtain ⟨x0, x1, x2, x3, x4, x5, _⟩ := bF.sixR
  have kQ1 := kQ1.trans kF (by simp)
  have kO1 := kO1.trans kF (by simp)
  go_wp2_with fail
  refine bodyPost_ret (v := .agg #[.int .i64 5, .string ⟨#[]⟩, .slice (some ⟨gq1, 0, none⟩) 1 capq1, .slice none 0 0, .slice none 0 0, .int .i64 p]) (by simp [results, Tryz.results68, go_sem, x0, x1, x2, x3, x4, x5]) rfl ⟨⟨_, rfl, ⟨5, [], _, 1, _, none, 0, 0, none, 0, 0, p, rfl⟩, fun x hg => ?_⟩, ?_, C4.keep.trans kF (by simp)⟩
  · obtain ⟨r, hg⟩ := giv_ok hg
    rw [HSQ.out] at hg
    have hg := show Giv (rteR E B (headPlace us)) (.ok us.tail) x from ⟨_, r, rfl, hg⟩
    obtain ⟨y1, g1, hg⟩ := giv_sq n hg
    obtain ⟨_, _, hg⟩ := giv_sq n hg
    obtain rfl := giv_ret hg
    have ownF := ownsRow_keep own6q1 kO1 (fun b hb _ hq => by have := (own6q1.lt b hq).1; simp only [List.mem_cons, List.not_mem_nil, or_false] at hb; omega)
    have hy1 := ExIs.carry (Carry.keep kQ1 (G := (w.heap.size ≤ ·)) (fun b hb hlt hf => by have hf1 : (((wT3.setCell ⟨w.heap.size + 1, 0, none⟩ (.int .i64 5)).drewN mI)).heap.size ≤ b := hf.1; have hf2 := hf.2; simp only [List.mem_cons, List.not_mem_nil, or_false] at hb; (first | omega | (rcases hatq1 with h | h <;> first | omega | (simp [Value.ownBlock] at h)))) (fun b _ hf => by have hf1 : (((wT3.setCell ⟨w.heap.size + 1, 0, none⟩ (.int .i64 5)).drewN mI)).heap.size ≤ b := hf.1; show w.heap.size ≤ b; omega)) _ _ (HF1.out y1 g1)
    simp only [StIs]
    exact ⟨_, _, _, by rw [HP.out, placeOf_sign HN3.out]; rfl, own_row1 ownF (fun b hb => by show w.heap.size ≤ b; omega) hy1, st_row_none _ _ _ (by simp [StsIs]), st_row_none _ _ _ (by simp [StsIs])⟩
  · simp only [aft]
    rw [HSQ.out]
    show ReAt _ br n (aft n (rteR E B (headPlace us)) (.ok us.tail))
    rw [aft_rte]
    exact C4.rd.keep kF (by simp; omega)
def rtnR (E : Rd Ex) (B : Rd (List St)) (p : Nat) : Rd St := sqR (signR [59]) (fun _ => retR (.mk 5 [] [] [] [] p))
theorem aft_rtn {n : Nat} {E : Rd Ex} {B : Rd (List St)} {p : Nat} {S : Rz} : aft n (rtnR E B p) S = aft n (signR [59]) (S) :=
  aft_sq (F := fun S => S) (fun _ S => aft_ret _ _ _) (fun _ _ => rfl)
theorem rtn_sq {E : Rd Ex} {B : Rd (List St)} {us : List Tok} (h0 : isSign [108, 101, 116] us = false) (h1 : isSign [105, 102] us = false) (h2 : isSign [102, 111, 114] us = false) (h3 : isSign [114, 101, 116, 117, 114, 110] us = true) (hx : isSign [59] us.tail = true) : stmtS E B us = rtnR E B (headPlace us) us.tail := by
  unfold stmtS
  rw [h0, h1, h2, if_neg (by decide), if_neg (by decide), if_neg (by decide), if_pos h3, if_pos hx]
  unfold rtnR sqR signR must
  rw [if_pos hx]; rfl
set_option maxHeartbeats 32000000 in
theorem rStmt_rtn (d : Nat) (hd : d ≤ 32) (E : Rd Ex) (hE : ExC Any 83 ((d : Int) + 1) E) (w : World) (br n : Nat) (us : List Tok) (hr : ReAt w br n (.ok us)) (B : Rd (List St)) (hB : BlC ((d : Int) + 1) B) (h0 : isSign [108, 101, 116] us = false) (h1 : isSign [105, 102] us = false) (h2 : isSign [102, 111, 114] us = false) (h3 : isSign [114, 101, 116, 117, 114, 110] us = true) (hx : isSign [59] us.tail = true) :
    Calls Tryz.prog 68 #[.pointer (some ⟨br, 0, none⟩), .int .i64 d] w (StPost w br n (.ok us) (stmtS E B)) := by
  obtain ⟨i0, hi0, hz0, hz1, hz2⟩ := info_parts Tryz.infoExpr
  have tt := fun (a b c d : Value) (w : World) => Tryz.tokText a b c d w
  have HN0 := hid h0
  have HN1 := hid h1
  have HN2 := hid h2
  have HN3 := hid h3
  have HIS := hid hx
  have HE := hid hE
  have HB := hid hB
  have HSQ := hid (rtn_sq (E := E) (B := B) h0 h1 h2 h3 hx)
  have hwr0 : IntKind.i64.wrap ((d : Int) + 1) = (d : Int) + 1 := IntWalk.i64_in _ (by omega)
  clear h0 h1 h2 h3 hx hE hB
  have hlt := hr.lt
  go_enter Tryz.func68, Tryz.ntmps68
  go_wp2_with fail
  refine (rPlace_any _ br n _ (hr.ext ((Ext.refl _).alloc _))).mono ?_
  rintro e' wP ⟨⟨p, rfl, hp⟩, mm, rfl⟩
  have HP := hid (hp us rfl)
  clear hp
  have A0 : SmAt w (((w.alloc (.cells #[.int .i64 0, .string ⟨#[]⟩, .slice none 0 0, .slice none 0 0, .slice none 0 0, .int .i64 0] 78)).drewN mm).alloc (.cells #[.int .i64 0, .string ⟨#[]⟩, .slice none 0 0, .slice none 0 0, .slice none 0 0, .int .i64 p] 78)) br n (.ok us) [.int .i64 0, .string ⟨#[]⟩, .slice none 0 0, .slice none 0 0, .slice none 0 0, .int .i64 p] :=
    ⟨((hr.ext ((Ext.refl _).alloc _)).drewN mm).ext ((Ext.refl _).alloc _), ((Blk.new w 78 [.int .i64 0, .string ⟨#[]⟩, .slice none 0 0, .slice none 0 0, .slice none 0 0, .int .i64 0]).drewN mm).alloc _, by
      have := Blk.new ((w.alloc (.cells #[.int .i64 0, .string ⟨#[]⟩, .slice none 0 0, .slice none 0 0, .slice none 0 0, .int .i64 0] 78)).drewN mm) 78 [.int .i64 0, .string ⟨#[]⟩, .slice none 0 0, .slice none 0 0, .slice none 0 0, .int .i64 p]
      have e : ((w.alloc (.cells #[.int .i64 0, .string ⟨#[]⟩, .slice none 0 0, .slice none 0 0, .slice none 0 0, .int .i64 0] 78)).drewN mm).heap.size = w.heap.size + 1 := by show (w.alloc _).heap.size = _; rw [World.size_alloc]
      rw [e] at this
      exact this, (((Keep.refl _ _).alloc _).trans' (Keep.drewN' _ _ mm)).alloc _, hlt⟩
  go_wp2_with fail
  refine (rTake_any _ br n _ A0.rd [108, 101, 116]).mono ?_
  rintro e' wT0 ⟨rfl, rT, kT⟩
  rw [show isS [108, 101, 116] (.ok us) = false from HN0.out]
  rw [tkS_no (show isS [108, 101, 116] (.ok us) = false from HN0.out)] at rT
  have A1 := A0.call rT kT
  clear rT kT
  go_wp2_with fail
  refine (rTake_any _ br n _ A1.rd [105, 102]).mono ?_
  rintro e' wT1 ⟨rfl, rT, kT⟩
  rw [show isS [105, 102] (.ok us) = false from HN1.out]
  rw [tkS_no (show isS [105, 102] (.ok us) = false from HN1.out)] at rT
  have A2 := A1.call rT kT
  clear rT kT
  go_wp2_with fail
  refine (rTake_any _ br n _ A2.rd [102, 111, 114]).mono ?_
  rintro e' wT2 ⟨rfl, rT, kT⟩
  rw [show isS [102, 111, 114] (.ok us) = false from HN2.out]
  rw [tkS_no (show isS [102, 111, 114] (.ok us) = false from HN2.out)] at rT
  have A3 := A2.call rT kT
  clear rT kT
  go_wp2_with fail
  refine (rTake_any _ br n _ A3.rd [114, 101, 116, 117, 114, 110]).mono ?_
  rintro e' wT3 ⟨rfl, rT, kT⟩
  rw [show isS [114, 101, 116, 117, 114, 110] (.ok us) = true from HN3.out]
  have B0 : SmAt w wT3 br n (.ok us.tail) [.int .i64 0, .string ⟨#[]⟩, .slice none 0 0, .slice none 0 0, .slice none 0 0, .int .i64 p] := A3.call (by
    have := rT
    rw [tkS, if_pos (show isSign [114, 101, 116, 117, 114, 110] us = true from HN3.out)] at this
    exact this) kT
  clear rT kT A0
  have C1 := B0.set 0 (.int .i64 5)
  simp only [List.set_cons_zero, List.set_cons_succ] at C1
  obtain ⟨l0, l1, l2, l3, l4, l5, lf⟩ := B0.loc.sixR
  have lB := B0.loc.lt
  go_wp2_with fail
  refine (rIs_any _ br n _ C1.rd [59]).mono ?_
  rintro e' wI ⟨rfl, mI, rfl⟩
  rw [show isS [59] (.ok us.tail) = true from HIS.out]
  clear l0 l1 l2 l3 l4 l5 lf lB
  have C2 := C1.call (C1.rd.drewN mI) (Keep.drewN' _ _ mI)
  go_wp2_with fail
  refine (rMust_any _ br n _ C2.rd [59]).mono ?_
  rintro e' w3m ⟨rfl, rN3, kN3⟩
  have C4 := C2.call rN3 kN3
  obtain ⟨l0, l1, l2, l3, l4, l5, lf⟩ := C4.loc.sixR
  obtain ⟨m0, m1, m2, m3, m4, m5, mf⟩ := C4.res.sixR
  have lr7 := C4.res.lt
  have lr8 := C4.loc.lt
  have bF := C4.res.put6 (.int .i64 5) (.string ⟨#[]⟩) (.slice none 0 0) (.slice none 0 0) (.slice none 0 0) (.int .i64 p)
  have kF := Keep.put6 w3m w.heap.size (.int .i64 5) (.string ⟨#[]⟩) (.slice none 0 0) (.slice none 0 0) (.slice none 0 0) (.int .i64 p)
  obtain ⟨x0, x1, x2, x3, x4, x5, _⟩ := bF.sixR
  go_wp2_with fail
  refine bodyPost_ret (v := .agg #[.int .i64 5, .string ⟨#[]⟩, .slice none 0 0, .slice none 0 0, .slice none 0 0, .int .i64 p]) (by simp [results, Tryz.results68, go_sem, x0, x1, x2, x3, x4, x5]) rfl ⟨⟨_, rfl, ⟨5, [], none, 0, 0, none, 0, 0, none, 0, 0, p, rfl⟩, fun x hg => ?_⟩, ?_, C4.keep.trans kF (by simp)⟩
  · obtain ⟨r, hg⟩ := giv_ok hg
    rw [HSQ.out] at hg
    have hg := show Giv (rtnR E B (headPlace us)) (.ok us.tail) x from ⟨_, r, rfl, hg⟩
    obtain ⟨_, _, hg⟩ := giv_sq n hg
    obtain rfl := giv_ret hg
    simp only [StIs]
    exact ⟨_, _, _, by rw [HP.out, placeOf_sign HN3.out]; rfl, st_row_none _ _ _ (by simp [ExsIs]), st_row_none _ _ _ (by simp [StsIs]), st_row_none _ _ _ (by simp [StsIs])⟩
  · simp only [aft]
    rw [HSQ.out]
    show ReAt _ br n (aft n (rtnR E B (headPlace us)) (.ok us.tail))
    rw [aft_rtn]
    exact C4.rd.keep kF (by simp; omega)
def elsR (B : Rd (List St)) (x : Ex) (bd : List St) (p : Nat) : Rd St := fun r => if isSign [101, 108, 115, 101] r then (B r.tail).bind fun el r => .ok (.mk 3 [] [x] bd el p) r else .ok (.mk 3 [] [x] bd [] p) r
def elsS (n : Nat) (B : Rd (List St)) (S : Rz) : Rz := if isS [101, 108, 115, 101] S then aft n B (tkS [101, 108, 115, 101] S) else S
theorem aft_els {n : Nat} {B : Rd (List St)} {x : Ex} {bd : List St} {p : Nat} {S : Rz} : aft n (elsR B x bd p) S = elsS n B S := by
  cases S with
  | bad y q => rfl
  | ok r =>
    by_cases h : isSign [101, 108, 115, 101] r = true
    · simp only [aft, elsR, elsS, isS, tkS, h, if_true]
      exact toS_bind
    · rw [Bool.not_eq_true] at h
      simp only [aft, elsR, elsS, isS, tkS, h]
      rfl
theorem giv_els {n : Nat} {B : Rd (List St)} {x : Ex} {bd : List St} {p : Nat} {S : Rz} {st : St} (h : Giv (elsR B x bd p) S st) : (isS [101, 108, 115, 101] S = true → ∃ el, Giv B (tkS [101, 108, 115, 101] S) el ∧ st = .mk 3 [] [x] bd el p) ∧ (isS [101, 108, 115, 101] S = false → st = .mk 3 [] [x] bd [] p) := by
  obtain ⟨ts, r, rfl, h⟩ := h
  refine ⟨fun hs => ?_, fun hs => ?_⟩
  · have hs' : isSign [101, 108, 115, 101] ts = true := hs
    simp only [elsR, hs', if_true] at h
    cases hb : B ts.tail with
    | err c q => rw [hb] at h; cases h
    | ok el q =>
      rw [hb] at h
      cases h
      exact ⟨el, ⟨ts.tail, _, by simp only [tkS, hs', if_true], hb⟩, rfl⟩
  · have hs' : isSign [101, 108, 115, 101] ts = false := hs
    simp only [elsR, hs'] at h
    cases h; rfl
def ifR (E : Rd Ex) (B : Rd (List St)) (p : Nat) : Rd St := sqR E (fun x => sqR B (fun bd => elsR B x bd p))
theorem aft_if {n : Nat} {E : Rd Ex} {B : Rd (List St)} {p : Nat} {S : Rz} : aft n (ifR E B p) S = elsS n B (aft n B (aft n E S)) :=
  aft_sq (F := fun S => elsS n B (aft n B S)) (fun _ S => aft_sq (F := fun S => elsS n B S) (fun _ S => aft_els) (fun _ _ => rfl)) (fun _ _ => rfl)
theorem if_sq {E : Rd Ex} {B : Rd (List St)} {us : List Tok} (h0 : isSign [108, 101, 116] us = false) (h1 : isSign [105, 102] us = true) : stmtS E B us = ifR E B (headPlace us) us.tail := by
  unfold stmtS
  rw [h0, if_neg (by decide), if_pos h1]
  rfl
set_option maxHeartbeats 64000000 in
theorem rStmt_if (d : Nat) (hd : d ≤ 32) (E : Rd Ex) (hE : ExC Any 83 ((d : Int) + 1) E) (w : World) (br n : Nat) (us : List Tok) (hr : ReAt w br n (.ok us)) (B : Rd (List St)) (hB : BlC ((d : Int) + 1) B) (h0 : isSign [108, 101, 116] us = false) (h1 : isSign [105, 102] us = true) :
    Calls Tryz.prog 68 #[.pointer (some ⟨br, 0, none⟩), .int .i64 d] w (StPost w br n (.ok us) (stmtS E B)) := by
  obtain ⟨i0, hi0, hz0, hz1, hz2⟩ := info_parts Tryz.infoExpr
  have HN0 := hid h0
  have HN1 := hid h1
  have HE := hid hE
  have HB := hid hB
  have HSQ := hid (if_sq (E := E) (B := B) h0 h1)
  have hwr0 : IntKind.i64.wrap ((d : Int) + 1) = (d : Int) + 1 := IntWalk.i64_in _ (by omega)
  clear h0 h1 hE hB
  have hlt := hr.lt
  go_enter Tryz.func68, Tryz.ntmps68
  go_wp2_with fail
  refine (rPlace_any _ br n _ (hr.ext ((Ext.refl _).alloc _))).mono ?_
  rintro e' wP ⟨⟨p, rfl, hp⟩, mm, rfl⟩
  have HP := hid (hp us rfl)
  clear hp
  have A0 : SmAt w (((w.alloc (.cells #[.int .i64 0, .string ⟨#[]⟩, .slice none 0 0, .slice none 0 0, .slice none 0 0, .int .i64 0] 78)).drewN mm).alloc (.cells #[.int .i64 0, .string ⟨#[]⟩, .slice none 0 0, .slice none 0 0, .slice none 0 0, .int .i64 p] 78)) br n (.ok us) [.int .i64 0, .string ⟨#[]⟩, .slice none 0 0, .slice none 0 0, .slice none 0 0, .int .i64 p] :=
    ⟨((hr.ext ((Ext.refl _).alloc _)).drewN mm).ext ((Ext.refl _).alloc _), ((Blk.new w 78 [.int .i64 0, .string ⟨#[]⟩, .slice none 0 0, .slice none 0 0, .slice none 0 0, .int .i64 0]).drewN mm).alloc _, by
      have := Blk.new ((w.alloc (.cells #[.int .i64 0, .string ⟨#[]⟩, .slice none 0 0, .slice none 0 0, .slice none 0 0, .int .i64 0] 78)).drewN mm) 78 [.int .i64 0, .string ⟨#[]⟩, .slice none 0 0, .slice none 0 0, .slice none 0 0, .int .i64 p]
      have e : ((w.alloc (.cells #[.int .i64 0, .string ⟨#[]⟩, .slice none 0 0, .slice none 0 0, .slice none 0 0, .int .i64 0] 78)).drewN mm).heap.size = w.heap.size + 1 := by show (w.alloc _).heap.size = _; rw [World.size_alloc]
      rw [e] at this
      exact this, (((Keep.refl _ _).alloc _).trans' (Keep.drewN' _ _ mm)).alloc _, hlt⟩
  go_wp2_with fail
  refine (rTake_any _ br n _ A0.rd [108, 101, 116]).mono ?_
  rintro e' wT0 ⟨rfl, rT, kT⟩
  rw [show isS [108, 101, 116] (.ok us) = false from HN0.out]
  rw [tkS_no (show isS [108, 101, 116] (.ok us) = false from HN0.out)] at rT
  have A1 := A0.call rT kT
  clear rT kT
  go_wp2_with fail
  refine (rTake_any _ br n _ A1.rd [105, 102]).mono ?_
  rintro e' wT1 ⟨rfl, rT, kT⟩
  rw [show isS [105, 102] (.ok us) = true from HN1.out]
  have B0 : SmAt w wT1 br n (.ok us.tail) [.int .i64 0, .string ⟨#[]⟩, .slice none 0 0, .slice none 0 0, .slice none 0 0, .int .i64 p] := A1.call (by
    have := rT
    rw [tkS, if_pos (show isSign [105, 102] us = true from HN1.out)] at this
    exact this) kT
  clear rT kT A0
  have C1 := B0.set 0 (.int .i64 3)
  simp only [List.set_cons_zero, List.set_cons_succ] at C1
  obtain ⟨l0, l1, l2, l3, l4, l5, lf⟩ := B0.loc.sixR
  have lB := B0.loc.lt
  have own : World.ownsRow (wT1.setCell ⟨w.heap.size + 1, 0, none⟩ (.int .i64 3)) (w.heap.size + 2) 100 5 (.slice none 0 0) 0 [] := World.ownsRow_nil _ _ _ _
  have lw1 := C1.loc.lt
  go_wp2_with fail
  clear l0 l1 l2 l3 l4 l5 lf lB
  have bX := C1.loc
  have rr := C1.rd
  have lX := C1.loc.lt
  have hwr : IntKind.i64.wrap ((d : Int) + 1) = (d : Int) + 1 := IntWalk.i64_in _ (by omega)
  have hSx : Blk (wT1.setCell ⟨w.heap.size + 1, 0, none⟩ (.int .i64 3)).drew (w.heap.size + 1) 78 [.int .i64 3, .string ⟨#[]⟩, .slice none 0 0, .slice none 0 0, .slice none 0 0, .int .i64 p] := bX
  refine phase_begin (fun w' => Blk w' (w.heap.size + 1) 78 [.int .i64 3, .string ⟨#[]⟩, .slice none 0 0, .slice none 0 0, .slice none 0 0, .int .i64 p]) 9 (by kernel_rfl) ?_
  refine phase_take (i := 0) (v := .pointer (some ⟨w.heap.size + 1, 2, none⟩)) rfl (by kernel_rfl) (by omega) (by kernel_rfl) (by kernel_rfl) (by kernel_rfl) (fun _ _ _ h => h) ⟨by rfl, ?_⟩ hSx ?_
  · intro wS hSw
    have s0 := Blk.cell hSw 2
    have sl := Blk.lt hSw
    simp only [List.getElem?_cons_zero, List.getElem?_cons_succ] at s0
    go_simp
  try simp only [Act.put, List.getElem_toArray, List.getElem_cons_succ, List.getElem_cons_zero, List.setIfInBounds_toArray, List.set_cons_zero, List.set_cons_succ]
  refine phase_take (i := 1) (v := .slice none 0 0) rfl (by kernel_rfl) (by omega) (by kernel_rfl) (by kernel_rfl) (by kernel_rfl) (fun _ _ _ h => h) ⟨by rfl, ?_⟩ hSx ?_
  · intro wS hSw
    have s0 := Blk.cell hSw 2
    have sl := Blk.lt hSw
    simp only [List.getElem?_cons_zero, List.getElem?_cons_succ] at s0
    go_simp
  try simp only [Act.put, List.getElem_toArray, List.getElem_cons_succ, List.getElem_cons_zero, List.setIfInBounds_toArray, List.set_cons_zero, List.set_cons_succ]
  refine phase_take (i := 2) (v := .pointer (some ⟨br, 0, none⟩)) rfl (by kernel_rfl) (by omega) (by kernel_rfl) (by kernel_rfl) (by kernel_rfl) (fun _ _ _ h => h) ⟨by rfl, fun wS hSw => by go_simp⟩ hSx ?_
  try simp only [Act.put, List.getElem_toArray, List.getElem_cons_succ, List.getElem_cons_zero, List.setIfInBounds_toArray, List.set_cons_zero, List.set_cons_succ]
  refine phase_take (i := 3) (v := .int .i64 d) rfl (by kernel_rfl) (by omega) (by kernel_rfl) (by kernel_rfl) (by kernel_rfl) (fun _ _ _ h => h) ⟨by rfl, fun wS hSw => by go_simp⟩ hSx ?_
  try simp only [Act.put, List.getElem_toArray, List.getElem_cons_succ, List.getElem_cons_zero, List.setIfInBounds_toArray, List.set_cons_zero, List.set_cons_succ]
  refine phase_take (i := 4) (v := .int .i64 ((d : Int) + 1)) rfl (by kernel_rfl) (by omega) (by kernel_rfl) (by kernel_rfl) (by kernel_rfl) (fun _ _ _ h => h) ⟨by rfl, fun wS hSw => by go_simp⟩ hSx ?_
  try simp only [Act.put, List.getElem_toArray, List.getElem_cons_succ, List.getElem_cons_zero, List.setIfInBounds_toArray, List.set_cons_zero, List.set_cons_succ]
  refine phase_one (i := 5) (by kernel_rfl) (by omega) rfl (by rfl) (fun K hK => ?_)
  go_simp
  refine (HE.out _ br n (.ok us.tail) trivial (rr.ext (Ext.refl _).drew)).mono ?_
  rintro e' w3q1 ⟨⟨vsq1, rfl, ⟨opq1, numq1, textq1, kaq1, knq1, kcq1, at_q1, rfl⟩, hxq1⟩, r3q1, k3q1⟩
  have b3q1 := hSx.keep k3q1 (by simp; omega)
  have HXq1 := hid hxq1
  clear hxq1
  refine hK _ _ ⟨b3q1, ?_⟩
  clear hK K
  try simp only [Act.put, List.getElem_toArray, List.getElem_cons_succ, List.getElem_cons_zero, List.setIfInBounds_toArray, List.set_cons_zero, List.set_cons_succ]
  refine phase_one (i := 6) (by kernel_rfl) (by omega) rfl (by rfl) (fun K hK => ?_)
  go_simp
  refine hK _ _ ⟨b3q1.alloc _, ?_⟩
  clear hK K
  try simp only [Act.put, List.getElem_toArray, List.getElem_cons_succ, List.getElem_cons_zero, List.setIfInBounds_toArray, List.set_cons_zero, List.set_cons_succ]
  have own4q1 := (ownsRow_keep own ((Keep.refl [br] _).drew.trans' k3q1) (fun b hb _ hq => by simp only [List.mem_singleton] at hb; subst hb; have := (own.lt _ hq).1; omega)).alloc (.cells #[.int .i64 opq1, .int .i64 numq1, .string ⟨textq1.toArray⟩, .slice kaq1 knq1 kcq1, .int .i64 at_q1] 100)
  have sz3q1 := k3q1.size
  simp only [World.size_drew] at sz3q1
  refine phase_one (i := 7) (by kernel_rfl) (by omega) rfl (by rfl) (fun K hK => ?_)
  refine wp_append_lies _ (.tmp 39) (.tmp 44) 76 (by rfl) (w.heap.size + 2) 100 i0 (.agg #[.int .i64 0, .int .i64 0, .string ⟨#[]⟩, .slice none 0 0, .int .i64 0]) 5 64 Tryz.underlying76 hi0 hz0 hz1 hz2 rfl (by omega) (.slice none 0 0) 0 [] (by rfl) own4q1 ⟨w3q1.heap.size, 0, none⟩ 1 1
    [.int .i64 opq1, .int .i64 numq1, .string ⟨textq1.toArray⟩, .slice kaq1 knq1 kcq1, .int .i64 at_q1] (by rfl) (by rfl) (news_cells _ _ _ _ rfl) (by simp [Value.oneCell']) (by omega) (by simp only [maxLen]; omega) (by omega) (by simp; omega) (w3q1.heap.size + 1) (by simp) (fun gq1 capq1 w5q1 hown5q1 hgrq1 hatq1 hgltq1 => ?_)
  have lgq1 : w.heap.size + 2 ≤ gq1 := (hown5q1.lt gq1 rfl).1
  have lownq1 : ∀ q ∈ ownL (.slice none 0 0), w.heap.size + 2 ≤ q ∧ q < (wT1.setCell ⟨w.heap.size + 1, 0, none⟩ (.int .i64 3)).heap.size := fun q hq => own.lt q (mem_ownL.1 hq)
  have kkq1 := Keep.grownBy hgrq1 (ownL (.slice none 0 0)) (fun k hk => mem_ownL.2 hk)
  have b5q1 := (b3q1.alloc (.cells #[.int .i64 opq1, .int .i64 numq1, .string ⟨textq1.toArray⟩, .slice kaq1 knq1 kcq1, .int .i64 at_q1] 100)).keep kkq1 (fun hq => by have := (lownq1 _ hq).1; omega)
  refine hK _ _ ⟨b5q1, ?_⟩
  clear hK K
  try simp only [Act.put, List.getElem_toArray, List.getElem_cons_succ, List.getElem_cons_zero, List.setIfInBounds_toArray, List.set_cons_zero, List.set_cons_succ]
  refine phase_take (i := 8) (v := .pointer (some ⟨w.heap.size + 1, 2, none⟩)) rfl (by kernel_rfl) (by omega) (by kernel_rfl) (by kernel_rfl) (by kernel_rfl) (fun _ _ _ h => h) ⟨by rfl, ?_⟩ (show Blk w5q1 (w.heap.size + 1) 78 [.int .i64 3, .string ⟨#[]⟩, .slice none 0 0, .slice none 0 0, .slice none 0 0, .int .i64 p] from b5q1) ?_
  · intro wS hSw
    have s0 := Blk.cell hSw 2
    have sl := Blk.lt hSw
    simp only [List.getElem?_cons_zero, List.getElem?_cons_succ] at s0
    go_simp
  try simp only [Act.put, List.getElem_toArray, List.getElem_cons_succ, List.getElem_cons_zero, List.setIfInBounds_toArray, List.set_cons_zero, List.set_cons_succ]
  have c5q1 := b5q1.cell 2
  have f5q1 := b5q1.frozen 2
  have l5q1 := b5q1.lt
  simp only [List.getElem?_cons_zero, List.getElem?_cons_succ] at c5q1
  refine phase_late (i := 9) (by kernel_rfl) (by omega) rfl (by rfl) (fun K hK => ?_)
  go_simp
  refine hK _ _ ?_
  clear hK K
  try simp only [Act.put, List.getElem_toArray, List.getElem_cons_succ, List.getElem_cons_zero, List.setIfInBounds_toArray, List.set_cons_zero, List.set_cons_succ]
  have bX6q1 := b5q1.set 2 (.slice (some ⟨gq1, 0, none⟩) 1 capq1)
  simp only [List.set_cons_zero, List.set_cons_succ] at bX6q1
  have kSq1 := Keep.set w5q1 ⟨w.heap.size + 1, 2, none⟩ (.slice (some ⟨gq1, 0, none⟩) 1 capq1)
  have r6q1 := ((r3q1.ext ((Ext.refl _).alloc (.cells #[.int .i64 opq1, .int .i64 numq1, .string ⟨textq1.toArray⟩, .slice kaq1 knq1 kcq1, .int .i64 at_q1] 100))).keep kkq1 (fun q hq => by have := (lownq1 q hq).1; omega)).keep kSq1 (fun q hq => by simp only [List.mem_singleton] at hq; omega)
  have kAq1 : Keep (br :: (w.heap.size + 1) :: ownL (.slice none 0 0)) (wT1.setCell ⟨w.heap.size + 1, 0, none⟩ (.int .i64 3)) (w5q1.setCell ⟨w.heap.size + 1, 2, none⟩ (.slice (some ⟨gq1, 0, none⟩) 1 capq1)) :=
    ((((Keep.refl _ _).drew.trans k3q1 (by simp)).alloc _).trans kkq1 (fun q hq => .inl (by simp [hq]))).trans kSq1 (by simp)
  have own6q1 := ownsRow_keep hown5q1 kSq1 (fun b hb _ hq => by simp only [List.mem_singleton] at hb; subst hb; simp only [Value.ownBlock, Option.some.injEq] at hq; omega)
  refine wpAny_done (by kernel_rfl) ?_ _
  clear c5q1 f5q1 hSx b3q1 own4q1
  have SM1 := C1.push (v := .slice none 0 0) r6q1 bX6q1 kAq1 (fun q hq => (lownq1 q hq).1)
  have HF1 : Hid (∀ x, Giv E (.ok us.tail) x → ExIs _ (fun b => (wT1.setCell ⟨w.heap.size + 1, 0, none⟩ (.int .i64 3)).heap.size ≤ b ∧ b < w3q1.heap.size) x [.int .i64 opq1, .int .i64 numq1, .string ⟨textq1.toArray⟩, .slice kaq1 knq1 kcq1, .int .i64 at_q1]) := fun x hg =>
    ExIs.carry (Carry.keep kSq1 (fun b hb _ hf => by simp only [List.mem_singleton] at hb; omega) (fun b _ hf => hf)) _ _ (ExIs.carry (Carry.keep kkq1 (fun b hb _ hf => by have := (lownq1 b hb).2; omega) (fun b _ hf => hf)) _ _ (ExIs.carry (Carry.keep (Keep.ofExt ((Ext.refl _).alloc (.cells #[.int .i64 opq1, .int .i64 numq1, .string ⟨textq1.toArray⟩, .slice kaq1 knq1 kcq1, .int .i64 at_q1] 100)) : Keep [] _ _) (G := fun b => (wT1.setCell ⟨w.heap.size + 1, 0, none⟩ (.int .i64 3)).heap.size ≤ b ∧ b < w3q1.heap.size) (by simp) (fun b hlt hf => ⟨hf, hlt⟩)) _ _ (HXq1.out x hg)))
  have kQ1 := Keep.refl [br, w.heap.size, w.heap.size + 1] (w5q1.setCell ⟨w.heap.size + 1, 2, none⟩ (.slice (some ⟨gq1, 0, none⟩) 1 capq1))
  clear HXq1
  have kO1 := Keep.refl [br, w.heap.size, w.heap.size + 1] (w5q1.setCell ⟨w.heap.size + 1, 2, none⟩ (.slice (some ⟨gq1, 0, none⟩) 1 capq1))
  have kQ1 := Keep.refl [br, w.heap.size + 1, gq1, w.heap.size] (w5q1.setCell ⟨w.heap.size + 1, 2, none⟩ (.slice (some ⟨gq1, 0, none⟩) 1 capq1))
  have lC1 := SM1.loc.lt
  go_wp2_with fail
  refine (HB.out _ br n _ SM1.rd).mono ?_
  rintro e' w2b ⟨⟨bva1, bm1, bvc1, rfl, hbl⟩, rB1, kN2⟩
  have HBL1 := hid hbl
  clear hbl
  have lB1 := SM1.keep.size
  have C3 := SM1.call rB1 kN2
  have kQ1 := kQ1.trans kN2 (by simp)
  have kO1 := kO1.trans kN2 (by simp)
  have kB1 := Keep.refl [br, w.heap.size, w.heap.size + 1] w2b
  have C4 := C3.set 3 (.slice bva1 bm1 bvc1)
  simp only [List.set_cons_zero, List.set_cons_succ] at C4
  have kQ1 := kQ1.setCell (p := ⟨w.heap.size + 1, 3, none⟩) (by simp) (.slice bva1 bm1 bvc1)
  have kO1 := kO1.setCell (p := ⟨w.heap.size + 1, 3, none⟩) (by simp) (.slice bva1 bm1 bvc1)
  have kB1 := kB1.setCell (p := ⟨w.heap.size + 1, 3, none⟩) (by simp) (.slice bva1 bm1 bvc1)
  cases hs : isS [101, 108, 115, 101] (aft n (B) (aft n (E) (.ok us.tail))) with
  | false =>
    have HEL := hid hs
    clear hs
    obtain ⟨l0, l1, l2, l3, l4, l5, lf⟩ := C3.loc.sixR
    have lB := C3.loc.lt
    go_wp2_with fail
    refine (rTake_any _ br n _ C4.rd [101, 108, 115, 101]).mono ?_
    rintro e' wE ⟨rfl, rE, kE⟩
    rw [HEL.out]
    rw [tkS_no HEL.out] at rE
    clear l0 l1 l2 l3 l4 l5 lf lB
    have CE := C4.call rE kE
    have kQ1 := kQ1.trans kE (by simp)
    have kO1 := kO1.trans kE (by simp)
    have kB1 := kB1.trans kE (by simp)
    obtain ⟨l0, l1, l2, l3, l4, l5, lf⟩ := CE.loc.sixR
    obtain ⟨m0, m1, m2, m3, m4, m5, mf⟩ := CE.res.sixR
    have lr7 := CE.res.lt
    have lr8 := CE.loc.lt
    have bF := CE.res.put6 (.int .i64 3) (.string ⟨#[]⟩) (.slice (some ⟨gq1, 0, none⟩) 1 capq1) (.slice bva1 bm1 bvc1) (.slice none 0 0) (.int .i64 p)
    have kF := Keep.put6 wE w.heap.size (.int .i64 3) (.string ⟨#[]⟩) (.slice (some ⟨gq1, 0, none⟩) 1 capq1) (.slice bva1 bm1 bvc1) (.slice none 0 0) (.int .i64 p)
    obtain ⟨x0, x1, x2, x3, x4, x5, _⟩ := bF.sixR
    have kQ1 := kQ1.trans kF (by simp)
    have kO1 := kO1.trans kF (by simp)
    have kB1 := kB1.trans kF (by simp)
    go_wp2_with fail
    refine bodyPost_ret (v := .agg #[.int .i64 3, .string ⟨#[]⟩, .slice (some ⟨gq1, 0, none⟩) 1 capq1, .slice bva1 bm1 bvc1, .slice none 0 0, .int .i64 p]) (by simp [results, Tryz.results68, go_sem, x0, x1, x2, x3, x4, x5]) rfl ⟨⟨_, rfl, ⟨3, [], _, 1, _, _, _, _, none, 0, 0, p, rfl⟩, fun x hg => ?_⟩, ?_, CE.keep.trans kF (by simp)⟩
    · obtain ⟨r, hg⟩ := giv_ok hg
      rw [HSQ.out] at hg
      have hg := show Giv (ifR E B (headPlace us)) (.ok us.tail) x from ⟨_, r, rfl, hg⟩
      obtain ⟨y1, g1, hg⟩ := giv_sq n hg
      obtain ⟨bd1, gB1, hg⟩ := giv_sq n hg
      obtain rfl := (giv_els (n := n) hg).2 HEL.out
      have ownF := ownsRow_keep own6q1 kO1 (fun b hb _ hq => by have := (own6q1.lt b hq).1; simp only [List.mem_cons, List.not_mem_nil, or_false] at hb; omega)
      have hy1 := ExIs.carry (Carry.keep kQ1 (G := (w.heap.size ≤ ·)) (fun b hb hlt hf => by have hf1 : ((wT1.setCell ⟨w.heap.size + 1, 0, none⟩ (.int .i64 3))).heap.size ≤ b := hf.1; have hf2 := hf.2; simp only [List.mem_cons, List.not_mem_nil, or_false] at hb; (first | omega | (rcases hatq1 with h | h <;> first | omega | (simp [Value.ownBlock] at h)))) (fun b _ hf => by have hf1 : ((wT1.setCell ⟨w.heap.size + 1, 0, none⟩ (.int .i64 3))).heap.size ≤ b := hf.1; show w.heap.size ≤ b; omega)) _ _ (HF1.out y1 g1)
      have hbk1 := ((HBL1.out bd1 gB1).2).carry (Q' := fun ks => StsIs _ (w.heap.size ≤ ·) bd1 ks) (Carry.keep kB1 (G := (w.heap.size ≤ ·)) (fun b hb _ hf => by have hf1 : ((w5q1.setCell ⟨w.heap.size + 1, 2, none⟩ (.slice (some ⟨gq1, 0, none⟩) 1 capq1))).heap.size ≤ b := hf; simp only [List.mem_cons, List.not_mem_nil, or_false] at hb; omega) (fun b _ hf => by have hf1 : ((w5q1.setCell ⟨w.heap.size + 1, 2, none⟩ (.slice (some ⟨gq1, 0, none⟩) 1 capq1))).heap.size ≤ b := hf; show w.heap.size ≤ b; omega)) fun ks hk => StsIs.carry (Carry.keep kB1 (G := (w.heap.size ≤ ·)) (fun b hb _ hf => by have hf1 : ((w5q1.setCell ⟨w.heap.size + 1, 2, none⟩ (.slice (some ⟨gq1, 0, none⟩) 1 capq1))).heap.size ≤ b := hf; simp only [List.mem_cons, List.not_mem_nil, or_false] at hb; omega) (fun b _ hf => by have hf1 : ((w5q1.setCell ⟨w.heap.size + 1, 2, none⟩ (.slice (some ⟨gq1, 0, none⟩) 1 capq1))).heap.size ≤ b := hf; show w.heap.size ≤ b; omega)) _ _ hk
      simp only [StIs]
      exact ⟨_, _, _, by rw [HP.out, placeOf_sign HN1.out]; rfl, own_row1 ownF (fun b hb => by show w.heap.size ≤ b; omega) hy1, hbk1, st_row_none _ _ _ (by simp [StsIs])⟩
    · simp only [aft]
      rw [HSQ.out]
      show ReAt _ br n (aft n (ifR E B (headPlace us)) (.ok us.tail))
      rw [aft_if, elsS, if_neg (by rw [HEL.out]; decide)]
      exact CE.rd.keep kF (by simp; omega)
  | true =>
    have HEL := hid hs
    clear hs
    obtain ⟨l0, l1, l2, l3, l4, l5, lf⟩ := C3.loc.sixR
    have lB := C3.loc.lt
    go_wp2_with fail
    refine (rTake_any _ br n _ C4.rd [101, 108, 115, 101]).mono ?_
    rintro e' wE ⟨rfl, rE, kE⟩
    rw [HEL.out]
    clear l0 l1 l2 l3 l4 l5 lf lB
    have CE := C4.call rE kE
    have kQ1 := kQ1.trans kE (by simp)
    have kO1 := kO1.trans kE (by simp)
    have kB1 := kB1.trans kE (by simp)
    have lC2 := CE.loc.lt
    go_wp2_with fail
    refine (HB.out _ br n _ CE.rd).mono ?_
    rintro e' w5b ⟨⟨bva2, bm2, bvc2, rfl, hbl⟩, rB2, kN5⟩
    have HBL2 := hid hbl
    clear hbl
    have lB2 := CE.keep.size
    have C6 := CE.call rB2 kN5
    have kQ1 := kQ1.trans kN5 (by simp)
    have kO1 := kO1.trans kN5 (by simp)
    have kB1 := kB1.trans kN5 (by simp)
    have kB2 := Keep.refl [br, w.heap.size, w.heap.size + 1] w5b
    have C7 := C6.set 4 (.slice bva2 bm2 bvc2)
    simp only [List.set_cons_zero, List.set_cons_succ] at C7
    have kQ1 := kQ1.setCell (p := ⟨w.heap.size + 1, 4, none⟩) (by simp) (.slice bva2 bm2 bvc2)
    have kO1 := kO1.setCell (p := ⟨w.heap.size + 1, 4, none⟩) (by simp) (.slice bva2 bm2 bvc2)
    have kB1 := kB1.setCell (p := ⟨w.heap.size + 1, 4, none⟩) (by simp) (.slice bva2 bm2 bvc2)
    have kB2 := kB2.setCell (p := ⟨w.heap.size + 1, 4, none⟩) (by simp) (.slice bva2 bm2 bvc2)
    obtain ⟨n0, n1, n2, n3, n4, n5, nf⟩ := C6.loc.sixR
    have lB := C6.loc.lt
    obtain ⟨l0, l1, l2, l3, l4, l5, lf⟩ := C7.loc.sixR
    obtain ⟨m0, m1, m2, m3, m4, m5, mf⟩ := C7.res.sixR
    have lr7 := C7.res.lt
    have lr8 := C7.loc.lt
    have bF := C7.res.put6 (.int .i64 3) (.string ⟨#[]⟩) (.slice (some ⟨gq1, 0, none⟩) 1 capq1) (.slice bva1 bm1 bvc1) (.slice bva2 bm2 bvc2) (.int .i64 p)
    have kF := Keep.put6 (w5b.setCell ⟨w.heap.size + 1, 4, none⟩ (.slice bva2 bm2 bvc2)) w.heap.size (.int .i64 3) (.string ⟨#[]⟩) (.slice (some ⟨gq1, 0, none⟩) 1 capq1) (.slice bva1 bm1 bvc1) (.slice bva2 bm2 bvc2) (.int .i64 p)
    obtain ⟨x0, x1, x2, x3, x4, x5, _⟩ := bF.sixR
    have kQ1 := kQ1.trans kF (by simp)
    have kO1 := kO1.trans kF (by simp)
    have kB1 := kB1.trans kF (by simp)
    have kB2 := kB2.trans kF (by simp)
    go_wp2_with fail
    refine bodyPost_ret (v := .agg #[.int .i64 3, .string ⟨#[]⟩, .slice (some ⟨gq1, 0, none⟩) 1 capq1, .slice bva1 bm1 bvc1, .slice bva2 bm2 bvc2, .int .i64 p]) (by simp [results, Tryz.results68, go_sem, x0, x1, x2, x3, x4, x5]) rfl ⟨⟨_, rfl, ⟨3, [], _, 1, _, _, _, _, _, _, _, p, rfl⟩, fun x hg => ?_⟩, ?_, C7.keep.trans kF (by simp)⟩
    · obtain ⟨r, hg⟩ := giv_ok hg
      rw [HSQ.out] at hg
      have hg := show Giv (ifR E B (headPlace us)) (.ok us.tail) x from ⟨_, r, rfl, hg⟩
      obtain ⟨y1, g1, hg⟩ := giv_sq n hg
      obtain ⟨bd1, gB1, hg⟩ := giv_sq n hg
      obtain ⟨bd2, gB2, rfl⟩ := (giv_els (n := n) hg).1 HEL.out
      have ownF := ownsRow_keep own6q1 kO1 (fun b hb _ hq => by have := (own6q1.lt b hq).1; simp only [List.mem_cons, List.not_mem_nil, or_false] at hb; omega)
      have hy1 := ExIs.carry (Carry.keep kQ1 (G := (w.heap.size ≤ ·)) (fun b hb hlt hf => by have hf1 : ((wT1.setCell ⟨w.heap.size + 1, 0, none⟩ (.int .i64 3))).heap.size ≤ b := hf.1; have hf2 := hf.2; simp only [List.mem_cons, List.not_mem_nil, or_false] at hb; (first | omega | (rcases hatq1 with h | h <;> first | omega | (simp [Value.ownBlock] at h)))) (fun b _ hf => by have hf1 : ((wT1.setCell ⟨w.heap.size + 1, 0, none⟩ (.int .i64 3))).heap.size ≤ b := hf.1; show w.heap.size ≤ b; omega)) _ _ (HF1.out y1 g1)
      have hbk1 := ((HBL1.out bd1 gB1).2).carry (Q' := fun ks => StsIs _ (w.heap.size ≤ ·) bd1 ks) (Carry.keep kB1 (G := (w.heap.size ≤ ·)) (fun b hb _ hf => by have hf1 : ((w5q1.setCell ⟨w.heap.size + 1, 2, none⟩ (.slice (some ⟨gq1, 0, none⟩) 1 capq1))).heap.size ≤ b := hf; simp only [List.mem_cons, List.not_mem_nil, or_false] at hb; omega) (fun b _ hf => by have hf1 : ((w5q1.setCell ⟨w.heap.size + 1, 2, none⟩ (.slice (some ⟨gq1, 0, none⟩) 1 capq1))).heap.size ≤ b := hf; show w.heap.size ≤ b; omega)) fun ks hk => StsIs.carry (Carry.keep kB1 (G := (w.heap.size ≤ ·)) (fun b hb _ hf => by have hf1 : ((w5q1.setCell ⟨w.heap.size + 1, 2, none⟩ (.slice (some ⟨gq1, 0, none⟩) 1 capq1))).heap.size ≤ b := hf; simp only [List.mem_cons, List.not_mem_nil, or_false] at hb; omega) (fun b _ hf => by have hf1 : ((w5q1.setCell ⟨w.heap.size + 1, 2, none⟩ (.slice (some ⟨gq1, 0, none⟩) 1 capq1))).heap.size ≤ b := hf; show w.heap.size ≤ b; omega)) _ _ hk
      have hbk2 := ((HBL2.out bd2 gB2).2).carry (Q' := fun ks => StsIs _ (w.heap.size ≤ ·) bd2 ks) (Carry.keep kB2 (G := (w.heap.size ≤ ·)) (fun b hb _ hf => by have hf1 : (wE).heap.size ≤ b := hf; simp only [List.mem_cons, List.not_mem_nil, or_false] at hb; omega) (fun b _ hf => by have hf1 : (wE).heap.size ≤ b := hf; show w.heap.size ≤ b; omega)) fun ks hk => StsIs.carry (Carry.keep kB2 (G := (w.heap.size ≤ ·)) (fun b hb _ hf => by have hf1 : (wE).heap.size ≤ b := hf; simp only [List.mem_cons, List.not_mem_nil, or_false] at hb; omega) (fun b _ hf => by have hf1 : (wE).heap.size ≤ b := hf; show w.heap.size ≤ b; omega)) _ _ hk
      simp only [StIs]
      exact ⟨_, _, _, by rw [HP.out, placeOf_sign HN1.out]; rfl, own_row1 ownF (fun b hb => by show w.heap.size ≤ b; omega) hy1, hbk1, hbk2⟩
    · simp only [aft]
      rw [HSQ.out]
      show ReAt _ br n (aft n (ifR E B (headPlace us)) (.ok us.tail))
      rw [aft_if, elsS, if_pos HEL.out]
      exact C7.rd.keep kF (by simp; omega)
end Go.Proofs.YtaehlakefgnfmaaGreatDoor
