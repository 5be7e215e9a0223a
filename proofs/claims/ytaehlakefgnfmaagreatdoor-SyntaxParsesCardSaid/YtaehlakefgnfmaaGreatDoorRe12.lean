/-
  DERIVED. THE WALKS of the document's reader's stmt, further kinds (printed by gen_re12.py).
-/
import Derived.Test.YtaehlakefgnfmaaGreatDoorRe11
namespace Go.Proofs.YtaehlakefgnfmaaGreatDoor
set_option linter.unusedSimpArgs false
set_option linter.unusedVariables false
set_option maxRecDepth 100000
open Go.RowKit

def delR (E : Rd Ex) (B : Rd (List St)) (p : Nat) : Rd St := sqR (signR [40]) (fun _ => sqR E (fun x => sqR (signR [41]) (fun _ => sqR (signR [59]) (fun _ => retR (.mk 7 [] [x] [] [] p)))))
theorem aft_del {n : Nat} {E : Rd Ex} {B : Rd (List St)} {p : Nat} {S : Rz} : aft n (delR E B p) S = aft n (signR [59]) (aft n (signR [41]) (aft n (E) (aft n (signR [40]) (S)))) :=
  aft_sq (F := fun S => aft n (signR [59]) (aft n (signR [41]) (aft n (E) (S)))) (fun _ S => aft_sq (F := fun S => aft n (signR [59]) (aft n (signR [41]) (S))) (fun _ S => aft_sq (F := fun S => aft n (signR [59]) (S)) (fun _ S => aft_sq (F := fun S => S) (fun _ S => aft_ret _ _ _) (fun _ _ => rfl)) (fun _ _ => rfl)) (fun _ _ => rfl)) (fun _ _ => rfl)
theorem del_sq {E : Rd Ex} {B : Rd (List St)} {us : List Tok} (h0 : isSign [108, 101, 116] us = false) (h1 : isSign [105, 102] us = false) (h2 : isSign [102, 111, 114] us = false) (h3 : isSign [114, 101, 116, 117, 114, 110] us = false) (h4 : isSign [112, 117, 116] us = false) (h5 : isSign [100, 101, 108] us = true) : stmtS E B us = delR E B (headPlace us) us.tail := by
  unfold stmtS
  rw [h0, h1, h2, h3, h4, if_neg (by decide), if_neg (by decide), if_neg (by decide), if_neg (by decide), if_neg (by decide), if_pos h5]
  simp only [must_sq]
  rfl
set_option maxHeartbeats 32000000 in
theorem rStmt_del (d : Nat) (hd : d ≤ 32) (E : Rd Ex) (hE : ExC Any 83 ((d : Int) + 1) E) (w : World) (br n : Nat) (us : List Tok) (hr : ReAt w br n (.ok us)) (B : Rd (List St)) (hB : BlC ((d : Int) + 1) B) (h0 : isSign [108, 101, 116] us = false) (h1 : isSign [105, 102] us = false) (h2 : isSign [102, 111, 114] us = false) (h3 : isSign [114, 101, 116, 117, 114, 110] us = false) (h4 : isSign [112, 117, 116] us = false) (h5 : isSign [100, 101, 108] us = true) :
    Calls Tryz.prog 68 #[.pointer (some ⟨br, 0, none⟩), .int .i64 d] w (StPost w br n (.ok us) (stmtS E B)) := by
  obtain ⟨i0, hi0, hz0, hz1, hz2⟩ := info_parts Tryz.infoExpr
  have tt := fun (a b c d : Value) (w : World) => Tryz.tokText a b c d w
  have HN0 := hid h0
  have HN1 := hid h1
  have HN2 := hid h2
  have HN3 := hid h3
  have HN4 := hid h4
  have HN5 := hid h5
  have HE := hid hE
  have HB := hid hB
  have HSQ := hid (del_sq (E := E) (B := B) h0 h1 h2 h3 h4 h5)
  have hwr0 : IntKind.i64.wrap ((d : Int) + 1) = (d : Int) + 1 := IntWalk.i64_in _ (by omega)
  clear h0 h1 h2 h3 h4 h5 hE hB
  have hlt := hr.lt
  go_enter Tryz.func68, Tryz.ntmps68
  go_wp2_with fail
  refine (rPlace_any _ br n _ (hr.ext ((Ext.refl _).alloc _))).mono ?_
  rintro e' wP ⟨⟨p, rfl, hp⟩, mm, rfl⟩
  have HP := hid (hp us rfl)
  clear hp
  have A0 : SmAt w (((w.alloc (.cells #[.int .i64 0, .string ⟨#[]⟩, .slice none 0 0, .slice none 0 0, .slice none 0 0, .int .i64 0] 78)).drewN mm).alloc (.cells #[.int .i64 0, .string ⟨#[]⟩, .slice none 0 0, .slice none 0 0, .slice none 0 0, .int .i64 p] 78)) br n (.ok us) [.int .i64 0, .string ⟨#[]⟩, .slice none 0 0, .slice none 0 0, .slice none 0 0, .int .i64 p] :=
    ⟨((hr.ext ((Ext.refl _).alloc _)).drewN mm).ext ((Ext.refl _).alloc _), ((Blk.new w 78 [.int .i64 0, .string ⟨#[]⟩, .slice none 0 0, .slice none 0 0, .slice none 0 0, .int .i64 0]).drewN mm).alloc _, by
      have := Blk.new ((w.alloc (.cells #[.int .i64 0, .string ⟨#[]⟩, .slice none 0 0, .slice none 0 0, .slice none 0 0, .int .i64 0] 78)).drewN mm) 78 [.int .i64 0, .string ⟨#[]⟩, .slice none 0 0, .slice none 0 0, .slice none 0 0, .int .i64 p]
      have e : ((w.alloc (.cells #[.int .i64 0, .string ⟨#[]⟩, .slice none 0 0, .slice none 0 0, .slice none 0 0, .int .i64 0] 78)).drewN mm).heap.size = w.heap.size + 1 := by show (w.alloc _).heap.size = _; rw [World.size_alloc]
      rw [e] at this
      exact this, (((Keep.refl _ _).alloc _).trans' (Keep.drewN' _ _ mm)).alloc _, hlt⟩
  go_wp2_with fail
  refine (rTake_any _ br n _ A0.rd [108, 101, 116]).mono ?_
  rintro e' wT0 ⟨rfl, rT, kT⟩
  rw [show isS [108, 101, 116] (.ok us) = false from HN0.out]
  rw [tkS_no (show isS [108, 101, 116] (.ok us) = false from HN0.out)] at rT
  have A1 := A0.call rT kT
  clear rT kT
  go_wp2_with fail
  refine (rTake_any _ br n _ A1.rd [105, 102]).mono ?_
  rintro e' wT1 ⟨rfl, rT, kT⟩
  rw [show isS [105, 102] (.ok us) = false from HN1.out]
  rw [tkS_no (show isS [105, 102] (.ok us) = false from HN1.out)] at rT
  have A2 := A1.call rT kT
  clear rT kT
  go_wp2_with fail
  refine (rTake_any _ br n _ A2.rd [102, 111, 114]).mono ?_
  rintro e' wT2 ⟨rfl, rT, kT⟩
  rw [show isS [102, 111, 114] (.ok us) = false from HN2.out]
  rw [tkS_no (show isS [102, 111, 114] (.ok us) = false from HN2.out)] at rT
  have A3 := A2.call rT kT
  clear rT kT
  go_wp2_with fail
  refine (rTake_any _ br n _ A3.rd [114, 101, 116, 117, 114, 110]).mono ?_
  rintro e' wT3 ⟨rfl, rT, kT⟩
  rw [show isS [114, 101, 116, 117, 114, 110] (.ok us) = false from HN3.out]
  rw [tkS_no (show isS [114, 101, 116, 117, 114, 110] (.ok us) = false from HN3.out)] at rT
  have A4 := A3.call rT kT
  clear rT kT
  go_wp2_with fail
  refine (rTake_any _ br n _ A4.rd [112, 117, 116]).mono ?_
  rintro e' wT4 ⟨rfl, rT, kT⟩
  rw [show isS [112, 117, 116] (.ok us) = false from HN4.out]
  rw [tkS_no (show isS [112, 117, 116] (.ok us) = false from HN4.out)] at rT
  have A5 := A4.call rT kT
  clear rT kT
  go_wp2_with fail
  refine (rTake_any _ br n _ A5.rd [100, 101, 108]).mono ?_
  rintro e' wT5 ⟨rfl, rT, kT⟩
  rw [show isS [100, 101, 108] (.ok us) = true from HN5.out]
  have B0 : SmAt w wT5 br n (.ok us.tail) [.int .i64 0, .string ⟨#[]⟩, .slice none 0 0, .slice none 0 0, .slice none 0 0, .int .i64 p] := A5.call (by
    have := rT
    rw [tkS, if_pos (show isSign [100, 101, 108] us = true from HN5.out)] at this
    exact this) kT
  clear rT kT A0
  have C1 := B0.set 0 (.int .i64 7)
  simp only [List.set_cons_zero, List.set_cons_succ] at C1
  obtain ⟨l0, l1, l2, l3, l4, l5, lf⟩ := B0.loc.sixR
  have lB := B0.loc.lt
  go_wp2_with fail
  refine (rMust_any _ br n _ C1.rd [40]).mono ?_
  rintro e' w2m ⟨rfl, rN2, kN2⟩
  clear l0 l1 l2 l3 l4 l5 lf lB
  have C3 := C1.call rN2 kN2
  have own : World.ownsRow w2m (w.heap.size + 2) 100 5 (.slice none 0 0) 0 [] := World.ownsRow_nil _ _ _ _
  have lw1 := C3.loc.lt
  go_wp2_with fail
  have bX := C3.loc
  have rr := C3.rd
  have lX := C3.loc.lt
  have hwr : IntKind.i64.wrap ((d : Int) + 1) = (d : Int) + 1 := IntWalk.i64_in _ (by omega)
  have hSx : Blk w2m.drew (w.heap.size + 1) 78 [.int .i64 7, .string ⟨#[]⟩, .slice none 0 0, .slice none 0 0, .slice none 0 0, .int .i64 p] := bX
  refine phase_begin (fun w' => Blk w' (w.heap.size + 1) 78 [.int .i64 7, .string ⟨#[]⟩, .slice none 0 0, .slice none 0 0, .slice none 0 0, .int .i64 p]) 9 (by kernel_rfl) ?_
  refine phase_take (i := 0) (v := .pointer (some ⟨w.heap.size + 1, 2, none⟩)) rfl (by kernel_rfl) (by omega) (by kernel_rfl) (by kernel_rfl) (by kernel_rfl) (fun _ _ _ h => h) ⟨by rfl, ?_⟩ hSx ?_
  · intro wS hSw
    have s0 := Blk.cell hSw 2
    have sl := Blk.lt hSw
    simp only [List.getElem?_cons_zero, List.getElem?_cons_succ] at s0
    go_simp
  try simp only [Act.put, List.getElem_toArray, List.getElem_cons_succ, List.getElem_cons_zero, List.setIfInBounds_toArray, List.set_cons_zero, List.set_cons_succ]
  refine phase_take (i := 1) (v := .slice none 0 0) rfl (by kernel_rfl) (by omega) (by kernel_rfl) (by kernel_rfl) (by kernel_rfl) (fun _ _ _ h => h) ⟨by rfl, ?_⟩ hSx ?_
  · intro wS hSw
    have s0 := Blk.cell hSw 2
    have sl := Blk.lt hSw
    simp only [List.getElem?_cons_zero, List.getElem?_cons_succ] at s0
    go_simp
  try simp only [Act.put, List.getElem_toArray, List.getElem_cons_succ, List.getElem_cons_zero, List.setIfInBounds_toArray, List.set_cons_zero, List.set_cons_succ]
  refine phase_take (i := 2) (v := .pointer (some ⟨br, 0, none⟩)) rfl (by kernel_rfl) (by omega) (by kernel_rfl) (by kernel_rfl) (by kernel_rfl) (fun _ _ _ h => h) ⟨by rfl, fun wS hSw => by go_simp⟩ hSx ?_
  try simp only [Act.put, List.getElem_toArray, List.getElem_cons_succ, List.getElem_cons_zero, List.setIfInBounds_toArray, List.set_cons_zero, List.set_cons_succ]
  refine phase_take (i := 3) (v := .int .i64 d) rfl (by kernel_rfl) (by omega) (by kernel_rfl) (by kernel_rfl) (by kernel_rfl) (fun _ _ _ h => h) ⟨by rfl, fun wS hSw => by go_simp⟩ hSx ?_
  try simp only [Act.put, List.getElem_toArray, List.getElem_cons_succ, List.getElem_cons_zero, List.setIfInBounds_toArray, List.set_cons_zero, List.set_cons_succ]
  refine phase_take (i := 4) (v := .int .i64 ((d : Int) + 1)) rfl (by kernel_rfl) (by omega) (by kernel_rfl) (by kernel_rfl) (by kernel_rfl) (fun _ _ _ h => h) ⟨by rfl, fun wS hSw => by go_simp⟩ hSx ?_
  try simp only [Act.put, List.getElem_toArray, List.getElem_cons_succ, List.getElem_cons_zero, List.setIfInBounds_toArray, List.set_cons_zero, List.set_cons_succ]
  refine phase_one (i := 5) (by kernel_rfl) (by omega) rfl (by rfl) (fun K hK => ?_)
  go_simp
  refine (HE.out _ br n (aft n (signR [40]) (.ok us.tail)) trivial (rr.ext (Ext.refl _).drew)).mono ?_
  rintro e' w3q1 ⟨⟨vsq1, rfl, ⟨opq1, numq1, textq1, kaq1, knq1, kcq1, at_q1, rfl⟩, hxq1⟩, r3q1, k3q1⟩
  have b3q1 := hSx.keep k3q1 (by simp; omega)
  have HXq1 := hid hxq1
  clear hxq1
  refine hK _ _ ⟨b3q1, ?_⟩
  clear hK K
  try simp only [Act.put, List.getElem_toArray, List.getElem_cons_succ, List.getElem_cons_zero, List.setIfInBounds_toArray, List.set_cons_zero, List.set_cons_succ]
  refine phase_one (i := 6) (by kernel_rfl) (by omega) rfl (by rfl) (fun K hK => ?_)
  go_simp
  refine hK _ _ ⟨b3q1.alloc _, ?_⟩
  clear hK K
  try simp only [Act.put, List.getElem_toArray, List.getElem_cons_succ, List.getElem_cons_zero, List.setIfInBounds_toArray, List.set_cons_zero, List.set_cons_succ]
  have own4q1 := (ownsRow_keep own ((Keep.refl [br] _).drew.trans' k3q1) (fun b hb _ hq => by simp only [List.mem_singleton] at hb; subst hb; have := (own.lt _ hq).1; omega)).alloc (.cells #[.int .i64 opq1, .int .i64 numq1, .string ⟨textq1.toArray⟩, .slice kaq1 knq1 kcq1, .int .i64 at_q1] 100)
  have sz3q1 := k3q1.size
  simp only [World.size_drew] at sz3q1
  refine phase_one (i := 7) (by kernel_rfl) (by omega) rfl (by rfl) (fun K hK => ?_)
  refine wp_append_lies _ (.tmp 149) (.tmp 154) 76 (by rfl) (w.heap.size + 2) 100 i0 (.agg #[.int .i64 0, .int .i64 0, .string ⟨#[]⟩, .slice none 0 0, .int .i64 0]) 5 64 Tryz.underlying76 hi0 hz0 hz1 hz2 rfl (by omega) (.slice none 0 0) 0 [] (by rfl) own4q1 ⟨w3q1.heap.size, 0, none⟩ 1 1
    [.int .i64 opq1, .int .i64 numq1, .string ⟨textq1.toArray⟩, .slice kaq1 knq1 kcq1, .int .i64 at_q1] (by rfl) (by rfl) (news_cells _ _ _ _ rfl) (by simp [Value.oneCell']) (by omega) (by simp only [maxLen]; omega) (by omega) (by simp; omega) (w3q1.heap.size + 1) (by simp) (fun gq1 capq1 w5q1 hown5q1 hgrq1 hatq1 hgltq1 => ?_)
  have lgq1 : w.heap.size + 2 ≤ gq1 := (hown5q1.lt gq1 rfl).1
  have lownq1 : ∀ q ∈ ownL (.slice none 0 0), w.heap.size + 2 ≤ q ∧ q < w2m.heap.size := fun q hq => own.lt q (mem_ownL.1 hq)
  have kkq1 := Keep.grownBy hgrq1 (ownL (.slice none 0 0)) (fun k hk => mem_ownL.2 hk)
  have b5q1 := (b3q1.alloc (.cells #[.int .i64 opq1, .int .i64 numq1, .string ⟨textq1.toArray⟩, .slice kaq1 knq1 kcq1, .int .i64 at_q1] 100)).keep kkq1 (fun hq => by have := (lownq1 _ hq).1; omega)
  refine hK _ _ ⟨b5q1, ?_⟩
  clear hK K
  try simp only [Act.put, List.getElem_toArray, List.getElem_cons_succ, List.getElem_cons_zero, List.setIfInBounds_toArray, List.set_cons_zero, List.set_cons_succ]
  refine phase_take (i := 8) (v := .pointer (some ⟨w.heap.size + 1, 2, none⟩)) rfl (by kernel_rfl) (by omega) (by kernel_rfl) (by kernel_rfl) (by kernel_rfl) (fun _ _ _ h => h) ⟨by rfl, ?_⟩ (show Blk w5q1 (w.heap.size + 1) 78 [.int .i64 7, .string ⟨#[]⟩, .slice none 0 0, .slice none 0 0, .slice none 0 0, .int .i64 p] from b5q1) ?_
  · intro wS hSw
    have s0 := Blk.cell hSw 2
    have sl := Blk.lt hSw
    simp only [List.getElem?_cons_zero, List.getElem?_cons_succ] at s0
    go_simp
  try simp only [Act.put, List.getElem_toArray, List.getElem_cons_succ, List.getElem_cons_zero, List.setIfInBounds_toArray, List.set_cons_zero, List.set_cons_succ]
  have c5q1 := b5q1.cell 2
  have f5q1 := b5q1.frozen 2
  have l5q1 := b5q1.lt
  simp only [List.getElem?_cons_zero, List.getElem?_cons_succ] at c5q1
  refine phase_late (i := 9) (by kernel_rfl) (by omega) rfl (by rfl) (fun K hK => ?_)
  go_simp
  refine hK _ _ ?_
  clear hK K
  try simp only [Act.put, List.getElem_toArray, List.getElem_cons_succ, List.getElem_cons_zero, List.setIfInBounds_toArray, List.set_cons_zero, List.set_cons_succ]
  have bX6q1 := b5q1.set 2 (.slice (some ⟨gq1, 0, none⟩) 1 capq1)
  simp only [List.set_cons_zero, List.set_cons_succ] at bX6q1
  have kSq1 := Keep.set w5q1 ⟨w.heap.size + 1, 2, none⟩ (.slice (some ⟨gq1, 0, none⟩) 1 capq1)
  have r6q1 := ((r3q1.ext ((Ext.refl _).alloc (.cells #[.int .i64 opq1, .int .i64 numq1, .string ⟨textq1.toArray⟩, .slice kaq1 knq1 kcq1, .int .i64 at_q1] 100))).keep kkq1 (fun q hq => by have := (lownq1 q hq).1; omega)).keep kSq1 (fun q hq => by simp only [List.mem_singleton] at hq; omega)
  have kAq1 : Keep (br :: (w.heap.size + 1) :: ownL (.slice none 0 0)) w2m (w5q1.setCell ⟨w.heap.size + 1, 2, none⟩ (.slice (some ⟨gq1, 0, none⟩) 1 capq1)) :=
    ((((Keep.refl _ _).drew.trans k3q1 (by simp)).alloc _).trans kkq1 (fun q hq => .inl (by simp [hq]))).trans kSq1 (by simp)
  have own6q1 := ownsRow_keep hown5q1 kSq1 (fun b hb _ hq => by simp only [List.mem_singleton] at hb; subst hb; simp only [Value.ownBlock, Option.some.injEq] at hq; omega)
  refine wpAny_done (by kernel_rfl) ?_ _
  clear c5q1 f5q1 hSx b3q1 own4q1
  have SM1 := C3.push (v := .slice none 0 0) r6q1 bX6q1 kAq1 (fun q hq => (lownq1 q hq).1)
  have HF1 : Hid (∀ x, Giv E (aft n (signR [40]) (.ok us.tail)) x → ExIs _ (fun b => w2m.heap.size ≤ b ∧ b < w3q1.heap.size) x [.int .i64 opq1, .int .i64 numq1, .string ⟨textq1.toArray⟩, .slice kaq1 knq1 kcq1, .int .i64 at_q1]) := fun x hg =>
    ExIs.carry (Carry.keep kSq1 (fun b hb _ hf => by simp only [List.mem_singleton] at hb; omega) (fun b _ hf => hf)) _ _ (ExIs.carry (Carry.keep kkq1 (fun b hb _ hf => by have := (lownq1 b hb).2; omega) (fun b _ hf => hf)) _ _ (ExIs.carry (Carry.keep (Keep.ofExt ((Ext.refl _).alloc (.cells #[.int .i64 opq1, .int .i64 numq1, .string ⟨textq1.toArray⟩, .slice kaq1 knq1 kcq1, .int .i64 at_q1] 100)) : Keep [] _ _) (G := fun b => w2m.heap.size ≤ b ∧ b < w3q1.heap.size) (by simp) (fun b hlt hf => ⟨hf, hlt⟩)) _ _ (HXq1.out x hg)))
  have kQ1 := Keep.refl [br, w.heap.size, w.heap.size + 1] (w5q1.setCell ⟨w.heap.size + 1, 2, none⟩ (.slice (some ⟨gq1, 0, none⟩) 1 capq1))
  clear HXq1
  have kO1 := Keep.refl [br, w.heap.size, w.heap.size + 1] (w5q1.setCell ⟨w.heap.size + 1, 2, none⟩ (.slice (some ⟨gq1, 0, none⟩) 1 capq1))
  have kQ1 := Keep.refl [br, w.heap.size + 1, gq1, w.heap.size] (w5q1.setCell ⟨w.heap.size + 1, 2, none⟩ (.slice (some ⟨gq1, 0, none⟩) 1 capq1))
  go_wp2_with fail
  refine (rMust_any _ br n _ SM1.rd [41]).mono ?_
  rintro e' w4m ⟨rfl, rN4, kN4⟩
  have C5 := SM1.call rN4 kN4
  have kQ1 := kQ1.trans kN4 (by simp)
  have kO1 := kO1.trans kN4 (by simp)
  go_wp2_with fail
  refine (rMust_any _ br n _ C5.rd [59]).mono ?_
  rintro e' w6m ⟨rfl, rN6, kN6⟩
  have C7 := C5.call rN6 kN6
  have kQ1 := kQ1.trans kN6 (by simp)
  have kO1 := kO1.trans kN6 (by simp)
  obtain ⟨l0, l1, l2, l3, l4, l5, lf⟩ := C7.loc.sixR
  obtain ⟨m0, m1, m2, m3, m4, m5, mf⟩ := C7.res.sixR
  have lr7 := C7.res.lt
  have lr8 := C7.loc.lt
  have bF := C7.res.put6 (.int .i64 7) (.string ⟨#[]⟩) (.slice (some ⟨gq1, 0, none⟩) 1 capq1) (.slice none 0 0) (.slice none 0 0) (.int .i64 p)
  have kF := Keep.put6 w6m w.heap.size (.int .i64 7) (.string ⟨#[]⟩) (.slice (some ⟨gq1, 0, none⟩) 1 capq1) (.slice none 0 0) (.slice none 0 0) (.int .i64 p)
  obtain ⟨x0, x1, x2, x3, x4, x5, _⟩ := bF.sixR
  have kQ1 := kQ1.trans kF (by simp)
  have kO1 := kO1.trans kF (by simp)
  go_wp2_with fail
  refine bodyPost_ret (v := .agg #[.int .i64 7, .string ⟨#[]⟩, .slice (some ⟨gq1, 0, none⟩) 1 capq1, .slice none 0 0, .slice none 0 0, .int .i64 p]) (by simp [results, Tryz.results68, go_sem, x0, x1, x2, x3, x4, x5]) rfl ⟨⟨_, rfl, ⟨7, [], _, 1, _, none, 0, 0, none, 0, 0, p, rfl⟩, fun x hg => ?_⟩, ?_, C7.keep.trans kF (by simp)⟩
  · obtain ⟨r, hg⟩ := giv_ok hg
    rw [HSQ.out] at hg
    have hg := show Giv (delR E B (headPlace us)) (.ok us.tail) x from ⟨_, r, rfl, hg⟩
    obtain ⟨_, _, hg⟩ := giv_sq n hg
    obtain ⟨y1, g1, hg⟩ := giv_sq n hg
    obtain ⟨_, _, hg⟩ := giv_sq n hg
    obtain ⟨_, _, hg⟩ := giv_sq n hg
    obtain rfl := giv_ret hg
    have ownF := ownsRow_keep own6q1 kO1 (fun b hb _ hq => by have := (own6q1.lt b hq).1; simp only [List.mem_cons, List.not_mem_nil, or_false] at hb; omega)
    have hy1 := ExIs.carry (Carry.keep kQ1 (G := (w.heap.size ≤ ·)) (fun b hb hlt hf => by have hf1 : (w2m).heap.size ≤ b := hf.1; have hf2 := hf.2; simp only [List.mem_cons, List.not_mem_nil, or_false] at hb; (first | omega | (rcases hatq1 with h | h <;> first | omega | (simp [Value.ownBlock] at h)))) (fun b _ hf => by have hf1 : (w2m).heap.size ≤ b := hf.1; show w.heap.size ≤ b; omega)) _ _ (HF1.out y1 g1)
    simp only [StIs]
    exact ⟨_, _, _, by rw [HP.out, placeOf_sign HN5.out]; rfl, own_row1 ownF (fun b hb => by show w.heap.size ≤ b; omega) hy1, st_row_none _ _ _ (by simp [StsIs]), st_row_none _ _ _ (by simp [StsIs])⟩
  · simp only [aft]
    rw [HSQ.out]
    show ReAt _ br n (aft n (delR E B (headPlace us)) (.ok us.tail))
    rw [aft_del]
    exact C7.rd.keep kF (by simp; omega)
def putR (E : Rd Ex) (B : Rd (List St)) (p : Nat) : Rd St := sqR (signR [40]) (fun _ => sqR E (fun x => sqR (signR [44]) (fun _ => sqR E (fun y => sqR (signR [41]) (fun _ => sqR (signR [59]) (fun _ => retR (.mk 6 [] [x, y] [] [] p)))))))
theorem aft_put {n : Nat} {E : Rd Ex} {B : Rd (List St)} {p : Nat} {S : Rz} : aft n (putR E B p) S = aft n (signR [59]) (aft n (signR [41]) (aft n (E) (aft n (signR [44]) (aft n (E) (aft n (signR [40]) (S)))))) :=
  aft_sq (F := fun S => aft n (signR [59]) (aft n (signR [41]) (aft n (E) (aft n (signR [44]) (aft n (E) (S)))))) (fun _ S => aft_sq (F := fun S => aft n (signR [59]) (aft n (signR [41]) (aft n (E) (aft n (signR [44]) (S))))) (fun _ S => aft_sq (F := fun S => aft n (signR [59]) (aft n (signR [41]) (aft n (E) (S)))) (fun _ S => aft_sq (F := fun S => aft n (signR [59]) (aft n (signR [41]) (S))) (fun _ S => aft_sq (F := fun S => aft n (signR [59]) (S)) (fun _ S => aft_sq (F := fun S => S) (fun _ S => aft_ret _ _ _) (fun _ _ => rfl)) (fun _ _ => rfl)) (fun _ _ => rfl)) (fun _ _ => rfl)) (fun _ _ => rfl)) (fun _ _ => rfl)
theorem put_sq {E : Rd Ex} {B : Rd (List St)} {us : List Tok} (h0 : isSign [108, 101, 116] us = false) (h1 : isSign [105, 102] us = false) (h2 : isSign [102, 111, 114] us = false) (h3 : isSign [114, 101, 116, 117, 114, 110] us = false) (h4 : isSign [112, 117, 116] us = true) : stmtS E B us = putR E B (headPlace us) us.tail := by
  unfold stmtS
  rw [h0, h1, h2, h3, if_neg (by decide), if_neg (by decide), if_neg (by decide), if_neg (by decide), if_pos h4]
  simp only [must_sq]
  rfl
set_option maxHeartbeats 32000000 in
theorem rStmt_put (d : Nat) (hd : d ≤ 32) (E : Rd Ex) (hE : ExC Any 83 ((d : Int) + 1) E) (w : World) (br n : Nat) (us : List Tok) (hr : ReAt w br n (.ok us)) (B : Rd (List St)) (hB : BlC ((d : Int) + 1) B) (h0 : isSign [108, 101, 116] us = false) (h1 : isSign [105, 102] us = false) (h2 : isSign [102, 111, 114] us = false) (h3 : isSign [114, 101, 116, 117, 114, 110] us = false) (h4 : isSign [112, 117, 116] us = true) :
    Calls Tryz.prog 68 #[.pointer (some ⟨br, 0, none⟩), .int .i64 d] w (StPost w br n (.ok us) (stmtS E B)) := by
  obtain ⟨i0, hi0, hz0, hz1, hz2⟩ := info_parts Tryz.infoExpr
  have tt := fun (a b c d : Value) (w : World) => Tryz.tokText a b c d w
  have HN0 := hid h0
  have HN1 := hid h1
  have HN2 := hid h2
  have HN3 := hid h3
  have HN4 := hid h4
  have HE := hid hE
  have HB := hid hB
  have HSQ := hid (put_sq (E := E) (B := B) h0 h1 h2 h3 h4)
  have hwr0 : IntKind.i64.wrap ((d : Int) + 1) = (d : Int) + 1 := IntWalk.i64_in _ (by omega)
  clear h0 h1 h2 h3 h4 hE hB
  have hlt := hr.lt
  go_enter Tryz.func68, Tryz.ntmps68
  go_wp2_with fail
  refine (rPlace_any _ br n _ (hr.ext ((Ext.refl _).alloc _))).mono ?_
  rintro e' wP ⟨⟨p, rfl, hp⟩, mm, rfl⟩
  have HP := hid (hp us rfl)
  clear hp
  have A0 : SmAt w (((w.alloc (.cells #[.int .i64 0, .string ⟨#[]⟩, .slice none 0 0, .slice none 0 0, .slice none 0 0, .int .i64 0] 78)).drewN mm).alloc (.cells #[.int .i64 0, .string ⟨#[]⟩, .slice none 0 0, .slice none 0 0, .slice none 0 0, .int .i64 p] 78)) br n (.ok us) [.int .i64 0, .string ⟨#[]⟩, .slice none 0 0, .slice none 0 0, .slice none 0 0, .int .i64 p] :=
    ⟨((hr.ext ((Ext.refl _).alloc _)).drewN mm).ext ((Ext.refl _).alloc _), ((Blk.new w 78 [.int .i64 0, .string ⟨#[]⟩, .slice none 0 0, .slice none 0 0, .slice none 0 0, .int .i64 0]).drewN mm).alloc _, by
      have := Blk.new ((w.alloc (.cells #[.int .i64 0, .string ⟨#[]⟩, .slice none 0 0, .slice none 0 0, .slice none 0 0, .int .i64 0] 78)).drewN mm) 78 [.int .i64 0, .string ⟨#[]⟩, .slice none 0 0, .slice none 0 0, .slice none 0 0, .int .i64 p]
      have e : ((w.alloc (.cells #[.int .i64 0, .string ⟨#[]⟩, .slice none 0 0, .slice none 0 0, .slice none 0 0, .int .i64 0] 78)).drewN mm).heap.size = w.heap.size + 1 := by show (w.alloc _).heap.size = _; rw [World.size_alloc]
      rw [e] at this
      exact this, (((Keep.refl _ _).alloc _).trans' (Keep.drewN' _ _ mm)).alloc _, hlt⟩
  go_wp2_with fail
  refine (rTake_any _ br n _ A0.rd [108, 101, 116]).mono ?_
  rintro e' wT0 ⟨rfl, rT, kT⟩
  rw [show isS [108, 101, 116] (.ok us) = false from HN0.out]
  rw [tkS_no (show isS [108, 101, 116] (.ok us) = false from HN0.out)] at rT
  have A1 := A0.call rT kT
  clear rT kT
  go_wp2_with fail
  refine (rTake_any _ br n _ A1.rd [105, 102]).mono ?_
  rintro e' wT1 ⟨rfl, rT, kT⟩
  rw [show isS [105, 102] (.ok us) = false from HN1.out]
  rw [tkS_no (show isS [105, 102] (.ok us) = false from HN1.out)] at rT
  have A2 := A1.call rT kT
  clear rT kT
  go_wp2_with fail
  refine (rTake_any _ br n _ A2.rd [102, 111, 114]).mono ?_
  rintro e' wT2 ⟨rfl, rT, kT⟩
  rw [show isS [102, 111, 114] (.ok us) = false from HN2.out]
  rw [tkS_no (show isS [102, 111, 114] (.ok us) = false from HN2.out)] at rT
  have A3 := A2.call rT kT
  clear rT kT
  go_wp2_with fail
  refine (rTake_any _ br n _ A3.rd [114, 101, 116, 117, 114, 110]).mono ?_
  rintro e' wT3 ⟨rfl, rT, kT⟩
  rw [show isS [114, 101, 116, 117, 114, 110] (.ok us) = false from HN3.out]
  rw [tkS_no (show isS [114, 101, 116, 117, 114, 110] (.ok us) = false from HN3.out)] at rT
  have A4 := A3.call rT kT
  clear rT kT
  go_wp2_with fail
  refine (rTake_any _ br n _ A4.rd [112, 117, 116]).mono ?_
  rintro e' wT4 ⟨rfl, rT, kT⟩
  rw [show isS [112, 117, 116] (.ok us) = true from HN4.out]
  have B0 : SmAt w wT4 br n (.ok us.tail) [.int .i64 0, .string ⟨#[]⟩, .slice none 0 0, .slice none 0 0, .slice none 0 0, .int .i64 p] := A4.call (by
    have := rT
    rw [tkS, if_pos (show isSign [112, 117, 116] us = true from HN4.out)] at this
    exact this) kT
  clear rT kT A0
  have C1 := B0.set 0 (.int .i64 6)
  simp only [List.set_cons_zero, List.set_cons_succ] at C1
  obtain ⟨l0, l1, l2, l3, l4, l5, lf⟩ := B0.loc.sixR
  have lB := B0.loc.lt
  go_wp2_with fail
  refine (rMust_any _ br n _ C1.rd [40]).mono ?_
  rintro e' w2m ⟨rfl, rN2, kN2⟩
  clear l0 l1 l2 l3 l4 l5 lf lB
  have C3 := C1.call rN2 kN2
  have own : World.ownsRow w2m (w.heap.size + 2) 100 5 (.slice none 0 0) 0 [] := World.ownsRow_nil _ _ _ _
  have lw1 := C3.loc.lt
  go_wp2_with fail
  have bX := C3.loc
  have rr := C3.rd
  have lX := C3.loc.lt
  have hwr : IntKind.i64.wrap ((d : Int) + 1) = (d : Int) + 1 := IntWalk.i64_in _ (by omega)
  have hSx : Blk w2m.drew (w.heap.size + 1) 78 [.int .i64 6, .string ⟨#[]⟩, .slice none 0 0, .slice none 0 0, .slice none 0 0, .int .i64 p] := bX
  refine phase_begin (fun w' => Blk w' (w.heap.size + 1) 78 [.int .i64 6, .string ⟨#[]⟩, .slice none 0 0, .slice none 0 0, .slice none 0 0, .int .i64 p]) 9 (by kernel_rfl) ?_
  refine phase_take (i := 0) (v := .pointer (some ⟨w.heap.size + 1, 2, none⟩)) rfl (by kernel_rfl) (by omega) (by kernel_rfl) (by kernel_rfl) (by kernel_rfl) (fun _ _ _ h => h) ⟨by rfl, ?_⟩ hSx ?_
  · intro wS hSw
    have s0 := Blk.cell hSw 2
    have sl := Blk.lt hSw
    simp only [List.getElem?_cons_zero, List.getElem?_cons_succ] at s0
    go_simp
  try simp only [Act.put, List.getElem_toArray, List.getElem_cons_succ, List.getElem_cons_zero, List.setIfInBounds_toArray, List.set_cons_zero, List.set_cons_succ]
  refine phase_take (i := 1) (v := .slice none 0 0) rfl (by kernel_rfl) (by omega) (by kernel_rfl) (by kernel_rfl) (by kernel_rfl) (fun _ _ _ h => h) ⟨by rfl, ?_⟩ hSx ?_
  · intro wS hSw
    have s0 := Blk.cell hSw 2
    have sl := Blk.lt hSw
    simp only [List.getElem?_cons_zero, List.getElem?_cons_succ] at s0
    go_simp
  try simp only [Act.put, List.getElem_toArray, List.getElem_cons_succ, List.getElem_cons_zero, List.setIfInBounds_toArray, List.set_cons_zero, List.set_cons_succ]
  refine phase_take (i := 2) (v := .pointer (some ⟨br, 0, none⟩)) rfl (by kernel_rfl) (by omega) (by kernel_rfl) (by kernel_rfl) (by kernel_rfl) (fun _ _ _ h => h) ⟨by rfl, fun wS hSw => by go_simp⟩ hSx ?_
  try simp only [Act.put, List.getElem_toArray, List.getElem_cons_succ, List.getElem_cons_zero, List.setIfInBounds_toArray, List.set_cons_zero, List.set_cons_succ]
  refine phase_take (i := 3) (v := .int .i64 d) rfl (by kernel_rfl) (by omega) (by kernel_rfl) (by kernel_rfl) (by kernel_rfl) (fun _ _ _ h => h) ⟨by rfl, fun wS hSw => by go_simp⟩ hSx ?_
  try simp only [Act.put, List.getElem_toArray, List.getElem_cons_succ, List.getElem_cons_zero, List.setIfInBounds_toArray, List.set_cons_zero, List.set_cons_succ]
  refine phase_take (i := 4) (v := .int .i64 ((d : Int) + 1)) rfl (by kernel_rfl) (by omega) (by kernel_rfl) (by kernel_rfl) (by kernel_rfl) (fun _ _ _ h => h) ⟨by rfl, fun wS hSw => by go_simp⟩ hSx ?_
  try simp only [Act.put, List.getElem_toArray, List.getElem_cons_succ, List.getElem_cons_zero, List.setIfInBounds_toArray, List.set_cons_zero, List.set_cons_succ]
  refine phase_one (i := 5) (by kernel_rfl) (by omega) rfl (by rfl) (fun K hK => ?_)
  go_simp
  refine (HE.out _ br n (aft n (signR [40]) (.ok us.tail)) trivial (rr.ext (Ext.refl _).drew)).mono ?_
  rintro e' w3q1 ⟨⟨vsq1, rfl, ⟨opq1, numq1, textq1, kaq1, knq1, kcq1, at_q1, rfl⟩, hxq1⟩, r3q1, k3q1⟩
  have b3q1 := hSx.keep k3q1 (by simp; omega)
  have HXq1 := hid hxq1
  clear hxq1
  refine hK _ _ ⟨b3q1, ?_⟩
  clear hK K
  try simp only [Act.put, List.getElem_toArray, List.getElem_cons_succ, List.getElem_cons_zero, List.setIfInBounds_toArray, List.set_cons_zero, List.set_cons_succ]
  refine phase_one (i := 6) (by kernel_rfl) (by omega) rfl (by rfl) (fun K hK => ?_)
  go_simp
  refine hK _ _ ⟨b3q1.alloc _, ?_⟩
  clear hK K
  try simp only [Act.put, List.getElem_toArray, List.getElem_cons_succ, List.getElem_cons_zero, List.setIfInBounds_toArray, List.set_cons_zero, List.set_cons_succ]
  have own4q1 := (ownsRow_keep own ((Keep.refl [br] _).drew.trans' k3q1) (fun b hb _ hq => by simp only [List.mem_singleton] at hb; subst hb; have := (own.lt _ hq).1; omega)).alloc (.cells #[.int .i64 opq1, .int .i64 numq1, .string ⟨textq1.toArray⟩, .slice kaq1 knq1 kcq1, .int .i64 at_q1] 100)
  have sz3q1 := k3q1.size
  simp only [World.size_drew] at sz3q1
  refine phase_one (i := 7) (by kernel_rfl) (by omega) rfl (by rfl) (fun K hK => ?_)
  refine wp_append_lies _ (.tmp 119) (.tmp 124) 76 (by rfl) (w.heap.size + 2) 100 i0 (.agg #[.int .i64 0, .int .i64 0, .string ⟨#[]⟩, .slice none 0 0, .int .i64 0]) 5 64 Tryz.underlying76 hi0 hz0 hz1 hz2 rfl (by omega) (.slice none 0 0) 0 [] (by rfl) own4q1 ⟨w3q1.heap.size, 0, none⟩ 1 1
    [.int .i64 opq1, .int .i64 numq1, .string ⟨textq1.toArray⟩, .slice kaq1 knq1 kcq1, .int .i64 at_q1] (by rfl) (by rfl) (news_cells _ _ _ _ rfl) (by simp [Value.oneCell']) (by omega) (by simp only [maxLen]; omega) (by omega) (by simp; omega) (w3q1.heap.size + 1) (by simp) (fun gq1 capq1 w5q1 hown5q1 hgrq1 hatq1 hgltq1 => ?_)
  have lgq1 : w.heap.size + 2 ≤ gq1 := (hown5q1.lt gq1 rfl).1
  have lownq1 : ∀ q ∈ ownL (.slice none 0 0), w.heap.size + 2 ≤ q ∧ q < w2m.heap.size := fun q hq => own.lt q (mem_ownL.1 hq)
  have kkq1 := Keep.grownBy hgrq1 (ownL (.slice none 0 0)) (fun k hk => mem_ownL.2 hk)
  have b5q1 := (b3q1.alloc (.cells #[.int .i64 opq1, .int .i64 numq1, .string ⟨textq1.toArray⟩, .slice kaq1 knq1 kcq1, .int .i64 at_q1] 100)).keep kkq1 (fun hq => by have := (lownq1 _ hq).1; omega)
  refine hK _ _ ⟨b5q1, ?_⟩
  clear hK K
  try simp only [Act.put, List.getElem_toArray, List.getElem_cons_succ, List.getElem_cons_zero, List.setIfInBounds_toArray, List.set_cons_zero, List.set_cons_succ]
  refine phase_take (i := 8) (v := .pointer (some ⟨w.heap.size + 1, 2, none⟩)) rfl (by kernel_rfl) (by omega) (by kernel_rfl) (by kernel_rfl) (by kernel_rfl) (fun _ _ _ h => h) ⟨by rfl, ?_⟩ (show Blk w5q1 (w.heap.size + 1) 78 [.int .i64 6, .string ⟨#[]⟩, .slice none 0 0, .slice none 0 0, .slice none 0 0, .int .i64 p] from b5q1) ?_
  · intro wS hSw
    have s0 := Blk.cell hSw 2
    have sl := Blk.lt hSw
    simp only [List.getElem?_cons_zero, List.getElem?_cons_succ] at s0
    go_simp
  try simp only [Act.put, List.getElem_toArray, List.getElem_cons_succ, List.getElem_cons_zero, List.setIfInBounds_toArray, List.set_cons_zero, List.set_cons_succ]
  have c5q1 := b5q1.cell 2
  have f5q1 := b5q1.frozen 2
  have l5q1 := b5q1.lt
  simp only [List.getElem?_cons_zero, List.getElem?_cons_succ] at c5q1
  refine phase_late (i := 9) (by kernel_rfl) (by omega) rfl (by rfl) (fun K hK => ?_)
  go_simp
  refine hK _ _ ?_
  clear hK K
  try simp only [Act.put, List.getElem_toArray, List.getElem_cons_succ, List.getElem_cons_zero, List.setIfInBounds_toArray, List.set_cons_zero, List.set_cons_succ]
  have bX6q1 := b5q1.set 2 (.slice (some ⟨gq1, 0, none⟩) 1 capq1)
  simp only [List.set_cons_zero, List.set_cons_succ] at bX6q1
  have kSq1 := Keep.set w5q1 ⟨w.heap.size + 1, 2, none⟩ (.slice (some ⟨gq1, 0, none⟩) 1 capq1)
  have r6q1 := ((r3q1.ext ((Ext.refl _).alloc (.cells #[.int .i64 opq1, .int .i64 numq1, .string ⟨textq1.toArray⟩, .slice kaq1 knq1 kcq1, .int .i64 at_q1] 100))).keep kkq1 (fun q hq => by have := (lownq1 q hq).1; omega)).keep kSq1 (fun q hq => by simp only [List.mem_singleton] at hq; omega)
  have kAq1 : Keep (br :: (w.heap.size + 1) :: ownL (.slice none 0 0)) w2m (w5q1.setCell ⟨w.heap.size + 1, 2, none⟩ (.slice (some ⟨gq1, 0, none⟩) 1 capq1)) :=
    ((((Keep.refl _ _).drew.trans k3q1 (by simp)).alloc _).trans kkq1 (fun q hq => .inl (by simp [hq]))).trans kSq1 (by simp)
  have own6q1 := ownsRow_keep hown5q1 kSq1 (fun b hb _ hq => by simp only [List.mem_singleton] at hb; subst hb; simp only [Value.ownBlock, Option.some.injEq] at hq; omega)
  refine wpAny_done (by kernel_rfl) ?_ _
  clear c5q1 f5q1 hSx b3q1 own4q1
  have SM1 := C3.push (v := .slice none 0 0) r6q1 bX6q1 kAq1 (fun q hq => (lownq1 q hq).1)
  have HF1 : Hid (∀ x, Giv E (aft n (signR [40]) (.ok us.tail)) x → ExIs _ (fun b => w2m.heap.size ≤ b ∧ b < w3q1.heap.size) x [.int .i64 opq1, .int .i64 numq1, .string ⟨textq1.toArray⟩, .slice kaq1 knq1 kcq1, .int .i64 at_q1]) := fun x hg =>
    ExIs.carry (Carry.keep kSq1 (fun b hb _ hf => by simp only [List.mem_singleton] at hb; omega) (fun b _ hf => hf)) _ _ (ExIs.carry (Carry.keep kkq1 (fun b hb _ hf => by have := (lownq1 b hb).2; omega) (fun b _ hf => hf)) _ _ (ExIs.carry (Carry.keep (Keep.ofExt ((Ext.refl _).alloc (.cells #[.int .i64 opq1, .int .i64 numq1, .string ⟨textq1.toArray⟩, .slice kaq1 knq1 kcq1, .int .i64 at_q1] 100)) : Keep [] _ _) (G := fun b => w2m.heap.size ≤ b ∧ b < w3q1.heap.size) (by simp) (fun b hlt hf => ⟨hf, hlt⟩)) _ _ (HXq1.out x hg)))
  have kQ1 := Keep.refl [br, w.heap.size, w.heap.size + 1] (w5q1.setCell ⟨w.heap.size + 1, 2, none⟩ (.slice (some ⟨gq1, 0, none⟩) 1 capq1))
  clear HXq1
  have kO1 := Keep.refl [br, w.heap.size, w.heap.size + 1] (w5q1.setCell ⟨w.heap.size + 1, 2, none⟩ (.slice (some ⟨gq1, 0, none⟩) 1 capq1))
  have kQ1 := Keep.refl [br, w.heap.size + 1, gq1, w.heap.size] (w5q1.setCell ⟨w.heap.size + 1, 2, none⟩ (.slice (some ⟨gq1, 0, none⟩) 1 capq1))
  go_wp2_with fail
  refine (rMust_any _ br n _ SM1.rd [44]).mono ?_
  rintro e' w4m ⟨rfl, rN4, kN4⟩
  have C5 := SM1.call rN4 kN4
  have kQ1 := kQ1.trans kN4 (by simp)
  have kO1 := kO1.trans kN4 (by simp)
  have own := ownsRow_keep own6q1 kO1 (fun b hb _ hq => by have := (own6q1.lt b hq).1; simp only [List.mem_cons, List.not_mem_nil, or_false] at hb; omega)
  have lw2 := C5.loc.lt
  go_wp2_with fail
  have bX := C5.loc
  have rr := C5.rd
  have lX := C5.loc.lt
  have hwr : IntKind.i64.wrap ((d : Int) + 1) = (d : Int) + 1 := IntWalk.i64_in _ (by omega)
  have hSx : Blk w4m.drew (w.heap.size + 1) 78 [.int .i64 6, .string ⟨#[]⟩, .slice (some ⟨gq1, 0, none⟩) 1 capq1, .slice none 0 0, .slice none 0 0, .int .i64 p] := bX
  refine phase_begin (fun w' => Blk w' (w.heap.size + 1) 78 [.int .i64 6, .string ⟨#[]⟩, .slice (some ⟨gq1, 0, none⟩) 1 capq1, .slice none 0 0, .slice none 0 0, .int .i64 p]) 9 (by kernel_rfl) ?_
  refine phase_take (i := 0) (v := .pointer (some ⟨w.heap.size + 1, 2, none⟩)) rfl (by kernel_rfl) (by omega) (by kernel_rfl) (by kernel_rfl) (by kernel_rfl) (fun _ _ _ h => h) ⟨by rfl, ?_⟩ hSx ?_
  · intro wS hSw
    have s0 := Blk.cell hSw 2
    have sl := Blk.lt hSw
    simp only [List.getElem?_cons_zero, List.getElem?_cons_succ] at s0
    go_simp
  try simp only [Act.put, List.getElem_toArray, List.getElem_cons_succ, List.getElem_cons_zero, List.setIfInBounds_toArray, List.set_cons_zero, List.set_cons_succ]
  refine phase_take (i := 1) (v := .slice (some ⟨gq1, 0, none⟩) 1 capq1) rfl (by kernel_rfl) (by omega) (by kernel_rfl) (by kernel_rfl) (by kernel_rfl) (fun _ _ _ h => h) ⟨by rfl, ?_⟩ hSx ?_
  · intro wS hSw
    have s0 := Blk.cell hSw 2
    have sl := Blk.lt hSw
    simp only [List.getElem?_cons_zero, List.getElem?_cons_succ] at s0
    go_simp
  try simp only [Act.put, List.getElem_toArray, List.getElem_cons_succ, List.getElem_cons_zero, List.setIfInBounds_toArray, List.set_cons_zero, List.set_cons_succ]
  refine phase_take (i := 2) (v := .pointer (some ⟨br, 0, none⟩)) rfl (by kernel_rfl) (by omega) (by kernel_rfl) (by kernel_rfl) (by kernel_rfl) (fun _ _ _ h => h) ⟨by rfl, fun wS hSw => by go_simp⟩ hSx ?_
  try simp only [Act.put, List.getElem_toArray, List.getElem_cons_succ, List.getElem_cons_zero, List.setIfInBounds_toArray, List.set_cons_zero, List.set_cons_succ]
  refine phase_take (i := 3) (v := .int .i64 d) rfl (by kernel_rfl) (by omega) (by kernel_rfl) (by kernel_rfl) (by kernel_rfl) (fun _ _ _ h => h) ⟨by rfl, fun wS hSw => by go_simp⟩ hSx ?_
  try simp only [Act.put, List.getElem_toArray, List.getElem_cons_succ, List.getElem_cons_zero, List.setIfInBounds_toArray, List.set_cons_zero, List.set_cons_succ]
  refine phase_take (i := 4) (v := .int .i64 ((d : Int) + 1)) rfl (by kernel_rfl) (by omega) (by kernel_rfl) (by kernel_rfl) (by kernel_rfl) (fun _ _ _ h => h) ⟨by rfl, fun wS hSw => by go_simp⟩ hSx ?_
  try simp only [Act.put, List.getElem_toArray, List.getElem_cons_succ, List.getElem_cons_zero, List.setIfInBounds_toArray, List.set_cons_zero, List.set_cons_succ]
  refine phase_one (i := 5) (by kernel_rfl) (by omega) rfl (by rfl) (fun K hK => ?_)
  go_simp
  refine (HE.out _ br n (aft n (signR [44]) (aft n (E) (aft n (signR [40]) (.ok us.tail)))) trivial (rr.ext (Ext.refl _).drew)).mono ?_
  rintro e' w3q2 ⟨⟨vsq2, rfl, ⟨opq2, numq2, textq2, kaq2, knq2, kcq2, at_q2, rfl⟩, hxq2⟩, r3q2, k3q2⟩
  have b3q2 := hSx.keep k3q2 (by simp; omega)
  have HXq2 := hid hxq2
  clear hxq2
  refine hK _ _ ⟨b3q2, ?_⟩
  clear hK K
  try simp only [Act.put, List.getElem_toArray, List.getElem_cons_succ, List.getElem_cons_zero, List.setIfInBounds_toArray, List.set_cons_zero, List.set_cons_succ]
  refine phase_one (i := 6) (by kernel_rfl) (by omega) rfl (by rfl) (fun K hK => ?_)
  go_simp
  refine hK _ _ ⟨b3q2.alloc _, ?_⟩
  clear hK K
  try simp only [Act.put, List.getElem_toArray, List.getElem_cons_succ, List.getElem_cons_zero, List.setIfInBounds_toArray, List.set_cons_zero, List.set_cons_succ]
  have own4q2 := (ownsRow_keep own ((Keep.refl [br] _).drew.trans' k3q2) (fun b hb _ hq => by simp only [List.mem_singleton] at hb; subst hb; have := (own.lt _ hq).1; omega)).alloc (.cells #[.int .i64 opq2, .int .i64 numq2, .string ⟨textq2.toArray⟩, .slice kaq2 knq2 kcq2, .int .i64 at_q2] 100)
  have sz3q2 := k3q2.size
  simp only [World.size_drew] at sz3q2
  refine phase_one (i := 7) (by kernel_rfl) (by omega) rfl (by rfl) (fun K hK => ?_)
  refine wp_append_lies _ (.tmp 130) (.tmp 135) 76 (by rfl) (w.heap.size + 2) 100 i0 (.agg #[.int .i64 0, .int .i64 0, .string ⟨#[]⟩, .slice none 0 0, .int .i64 0]) 5 64 Tryz.underlying76 hi0 hz0 hz1 hz2 rfl (by omega) (.slice (some ⟨gq1, 0, none⟩) 1 capq1) 1 ([.int .i64 opq1, .int .i64 numq1, .string ⟨textq1.toArray⟩, .slice kaq1 knq1 kcq1, .int .i64 at_q1]) (by rfl) own4q2 ⟨w3q2.heap.size, 0, none⟩ 1 1
    [.int .i64 opq2, .int .i64 numq2, .string ⟨textq2.toArray⟩, .slice kaq2 knq2 kcq2, .int .i64 at_q2] (by rfl) (by rfl) (news_cells _ _ _ _ rfl) (by simp [Value.oneCell']) (by omega) (by simp only [maxLen]; omega) (by omega) (by simp; omega) (w3q2.heap.size + 1) (by simp) (fun gq2 capq2 w5q2 hown5q2 hgrq2 hatq2 hgltq2 => ?_)
  have lgq2 : w.heap.size + 2 ≤ gq2 := (hown5q2.lt gq2 rfl).1
  have lownq2 : ∀ q ∈ ownL (.slice (some ⟨gq1, 0, none⟩) 1 capq1), w.heap.size + 2 ≤ q ∧ q < w4m.heap.size := fun q hq => own.lt q (mem_ownL.1 hq)
  have kkq2 := Keep.grownBy hgrq2 (ownL (.slice (some ⟨gq1, 0, none⟩) 1 capq1)) (fun k hk => mem_ownL.2 hk)
  have b5q2 := (b3q2.alloc (.cells #[.int .i64 opq2, .int .i64 numq2, .string ⟨textq2.toArray⟩, .slice kaq2 knq2 kcq2, .int .i64 at_q2] 100)).keep kkq2 (fun hq => by have := (lownq2 _ hq).1; omega)
  refine hK _ _ ⟨b5q2, ?_⟩
  clear hK K
  try simp only [Act.put, List.getElem_toArray, List.getElem_cons_succ, List.getElem_cons_zero, List.setIfInBounds_toArray, List.set_cons_zero, List.set_cons_succ]
  refine phase_take (i := 8) (v := .pointer (some ⟨w.heap.size + 1, 2, none⟩)) rfl (by kernel_rfl) (by omega) (by kernel_rfl) (by kernel_rfl) (by kernel_rfl) (fun _ _ _ h => h) ⟨by rfl, ?_⟩ (show Blk w5q2 (w.heap.size + 1) 78 [.int .i64 6, .string ⟨#[]⟩, .slice (some ⟨gq1, 0, none⟩) 1 capq1, .slice none 0 0, .slice none 0 0, .int .i64 p] from b5q2) ?_
  · intro wS hSw
    have s0 := Blk.cell hSw 2
    have sl := Blk.lt hSw
    simp only [List.getElem?_cons_zero, List.getElem?_cons_succ] at s0
    go_simp
  try simp only [Act.put, List.getElem_toArray, List.getElem_cons_succ, List.getElem_cons_zero, List.setIfInBounds_toArray, List.set_cons_zero, List.set_cons_succ]
  have c5q2 := b5q2.cell 2
  have f5q2 := b5q2.frozen 2
  have l5q2 := b5q2.lt
  simp only [List.getElem?_cons_zero, List.getElem?_cons_succ] at c5q2
  refine phase_late (i := 9) (by kernel_rfl) (by omega) rfl (by rfl) (fun K hK => ?_)
  go_simp
  refine hK _ _ ?_
  clear hK K
  try simp only [Act.put, List.getElem_toArray, List.getElem_cons_succ, List.getElem_cons_zero, List.setIfInBounds_toArray, List.set_cons_zero, List.set_cons_succ]
  have bX6q2 := b5q2.set 2 (.slice (some ⟨gq2, 0, none⟩) 2 capq2)
  simp only [List.set_cons_zero, List.set_cons_succ] at bX6q2
  have kSq2 := Keep.set w5q2 ⟨w.heap.size + 1, 2, none⟩ (.slice (some ⟨gq2, 0, none⟩) 2 capq2)
  have r6q2 := ((r3q2.ext ((Ext.refl _).alloc (.cells #[.int .i64 opq2, .int .i64 numq2, .string ⟨textq2.toArray⟩, .slice kaq2 knq2 kcq2, .int .i64 at_q2] 100))).keep kkq2 (fun q hq => by have := (lownq2 q hq).1; omega)).keep kSq2 (fun q hq => by simp only [List.mem_singleton] at hq; omega)
  have kAq2 : Keep (br :: (w.heap.size + 1) :: ownL (.slice (some ⟨gq1, 0, none⟩) 1 capq1)) w4m (w5q2.setCell ⟨w.heap.size + 1, 2, none⟩ (.slice (some ⟨gq2, 0, none⟩) 2 capq2)) :=
    ((((Keep.refl _ _).drew.trans k3q2 (by simp)).alloc _).trans kkq2 (fun q hq => .inl (by simp [hq]))).trans kSq2 (by simp)
  have own6q2 := ownsRow_keep hown5q2 kSq2 (fun b hb _ hq => by simp only [List.mem_singleton] at hb; subst hb; simp only [Value.ownBlock, Option.some.injEq] at hq; omega)
  refine wpAny_done (by kernel_rfl) ?_ _
  clear c5q2 f5q2 hSx b3q2 own4q2
  have SM2 := C5.push (v := .slice (some ⟨gq1, 0, none⟩) 1 capq1) r6q2 bX6q2 kAq2 (fun q hq => (lownq2 q hq).1)
  have HF2 : Hid (∀ x, Giv E (aft n (signR [44]) (aft n (E) (aft n (signR [40]) (.ok us.tail)))) x → ExIs _ (fun b => w4m.heap.size ≤ b ∧ b < w3q2.heap.size) x [.int .i64 opq2, .int .i64 numq2, .string ⟨textq2.toArray⟩, .slice kaq2 knq2 kcq2, .int .i64 at_q2]) := fun x hg =>
    ExIs.carry (Carry.keep kSq2 (fun b hb _ hf => by simp only [List.mem_singleton] at hb; omega) (fun b _ hf => hf)) _ _ (ExIs.carry (Carry.keep kkq2 (fun b hb _ hf => by have := (lownq2 b hb).2; omega) (fun b _ hf => hf)) _ _ (ExIs.carry (Carry.keep (Keep.ofExt ((Ext.refl _).alloc (.cells #[.int .i64 opq2, .int .i64 numq2, .string ⟨textq2.toArray⟩, .slice kaq2 knq2 kcq2, .int .i64 at_q2] 100)) : Keep [] _ _) (G := fun b => w4m.heap.size ≤ b ∧ b < w3q2.heap.size) (by simp) (fun b hlt hf => ⟨hf, hlt⟩)) _ _ (HXq2.out x hg)))
  have kQ2 := Keep.refl [br, w.heap.size, w.heap.size + 1] (w5q2.setCell ⟨w.heap.size + 1, 2, none⟩ (.slice (some ⟨gq2, 0, none⟩) 2 capq2))
  clear HXq2
  have kQ1 := kQ1.trans kAq2 (fun q hq => .inl (by simp [ownL, Value.ownBlock] at hq ⊢; omega))
  have kO2 := Keep.refl [br, w.heap.size, w.heap.size + 1] (w5q2.setCell ⟨w.heap.size + 1, 2, none⟩ (.slice (some ⟨gq2, 0, none⟩) 2 capq2))
  have kQ2 := Keep.refl [br, w.heap.size + 1, gq2, w.heap.size] (w5q2.setCell ⟨w.heap.size + 1, 2, none⟩ (.slice (some ⟨gq2, 0, none⟩) 2 capq2))
  go_wp2_with fail
  refine (rMust_any _ br n _ SM2.rd [41]).mono ?_
  rintro e' w6m ⟨rfl, rN6, kN6⟩
  have C7 := SM2.call rN6 kN6
  have kQ1 := kQ1.trans kN6 (by simp)
  have kQ2 := kQ2.trans kN6 (by simp)
  have kO2 := kO2.trans kN6 (by simp)
  go_wp2_with fail
  refine (rMust_any _ br n _ C7.rd [59]).mono ?_
  rintro e' w8m ⟨rfl, rN8, kN8⟩
  have C9 := C7.call rN8 kN8
  have kQ1 := kQ1.trans kN8 (by simp)
  have kQ2 := kQ2.trans kN8 (by simp)
  have kO2 := kO2.trans kN8 (by simp)
  obtain ⟨l0, l1, l2, l3, l4, l5, lf⟩ := C9.loc.sixR
  obtain ⟨m0, m1, m2, m3, m4, m5, mf⟩ := C9.res.sixR
  have lr7 := C9.res.lt
  have lr8 := C9.loc.lt
  have bF := C9.res.put6 (.int .i64 6) (.string ⟨#[]⟩) (.slice (some ⟨gq2, 0, none⟩) 2 capq2) (.slice none 0 0) (.slice none 0 0) (.int .i64 p)
  have kF := Keep.put6 w8m w.heap.size (.int .i64 6) (.string ⟨#[]⟩) (.slice (some ⟨gq2, 0, none⟩) 2 capq2) (.slice none 0 0) (.slice none 0 0) (.int .i64 p)
  obtain ⟨x0, x1, x2, x3, x4, x5, _⟩ := bF.sixR
  have kQ1 := kQ1.trans kF (by simp)
  have kQ2 := kQ2.trans kF (by simp)
  have kO2 := kO2.trans kF (by simp)
  go_wp2_with fail
  refine bodyPost_ret (v := .agg #[.int .i64 6, .string ⟨#[]⟩, .slice (some ⟨gq2, 0, none⟩) 2 capq2, .slice none 0 0, .slice none 0 0, .int .i64 p]) (by simp [results, Tryz.results68, go_sem, x0, x1, x2, x3, x4, x5]) rfl ⟨⟨_, rfl, ⟨6, [], _, 2, _, none, 0, 0, none, 0, 0, p, rfl⟩, fun x hg => ?_⟩, ?_, C9.keep.trans kF (by simp)⟩
  · obtain ⟨r, hg⟩ := giv_ok hg
    rw [HSQ.out] at hg
    have hg := show Giv (putR E B (headPlace us)) (.ok us.tail) x from ⟨_, r, rfl, hg⟩
    obtain ⟨_, _, hg⟩ := giv_sq n hg
    obtain ⟨y1, g1, hg⟩ := giv_sq n hg
    obtain ⟨_, _, hg⟩ := giv_sq n hg
    obtain ⟨y2, g2, hg⟩ := giv_sq n hg
    obtain ⟨_, _, hg⟩ := giv_sq n hg
    obtain ⟨_, _, hg⟩ := giv_sq n hg
    obtain rfl := giv_ret hg
    have ownF := ownsRow_keep own6q2 kO2 (fun b hb _ hq => by have := (own6q2.lt b hq).1; simp only [List.mem_cons, List.not_mem_nil, or_false] at hb; omega)
    have hy1 := ExIs.carry (Carry.keep kQ1 (G := (w.heap.size ≤ ·)) (fun b hb hlt hf => by have hf1 : (w2m).heap.size ≤ b := hf.1; have hf2 := hf.2; simp only [List.mem_cons, List.not_mem_nil, or_false] at hb; (first | omega | (rcases hatq1 with h | h <;> first | omega | (simp [Value.ownBlock] at h)))) (fun b _ hf => by have hf1 : (w2m).heap.size ≤ b := hf.1; show w.heap.size ≤ b; omega)) _ _ (HF1.out y1 g1)
    have hy2 := ExIs.carry (Carry.keep kQ2 (G := (w.heap.size ≤ ·)) (fun b hb hlt hf => by have hf1 : (w4m).heap.size ≤ b := hf.1; have hf2 := hf.2; simp only [List.mem_cons, List.not_mem_nil, or_false] at hb; (first | omega | (rcases hatq2 with h | h <;> first | omega | (have h3 := lownq2 gq2 (by simp [ownL, h]); omega)))) (fun b _ hf => by have hf1 : (w4m).heap.size ≤ b := hf.1; show w.heap.size ≤ b; omega)) _ _ (HF2.out y2 g2)
    simp only [StIs]
    exact ⟨_, _, _, by rw [HP.out, placeOf_sign HN4.out]; rfl, own_row2 ownF (fun b hb => by show w.heap.size ≤ b; omega) hy1 hy2, st_row_none _ _ _ (by simp [StsIs]), st_row_none _ _ _ (by simp [StsIs])⟩
  · simp only [aft]
    rw [HSQ.out]
    show ReAt _ br n (aft n (putR E B (headPlace us)) (.ok us.tail))
    rw [aft_put]
    exact C9.rd.keep kF (by simp; omega)
def forR (E : Rd Ex) (B : Rd (List St)) (p : Nat) : Rd St := sqR nameR (fun nm => sqR (signR [61]) (fun _ => sqR E (fun x => sqR (signR [116, 111]) (fun _ => sqR E (fun y => sqR B (fun bd => retR (.mk 4 nm [x, y] bd [] p)))))))
theorem aft_for {n : Nat} {E : Rd Ex} {B : Rd (List St)} {p : Nat} {S : Rz} : aft n (forR E B p) S = aft n (B) (aft n (E) (aft n (signR [116, 111]) (aft n (E) (aft n (signR [61]) (aft n (nameR) (S)))))) :=
  aft_sq (F := fun S => aft n (B) (aft n (E) (aft n (signR [116, 111]) (aft n (E) (aft n (signR [61]) (S)))))) (fun _ S => aft_sq (F := fun S => aft n (B) (aft n (E) (aft n (signR [116, 111]) (aft n (E) (S))))) (fun _ S => aft_sq (F := fun S => aft n (B) (aft n (E) (aft n (signR [116, 111]) (S)))) (fun _ S => aft_sq (F := fun S => aft n (B) (aft n (E) (S))) (fun _ S => aft_sq (F := fun S => aft n (B) (S)) (fun _ S => aft_sq (F := fun S => S) (fun _ S => aft_ret _ _ _) (fun _ _ => rfl)) (fun _ _ => rfl)) (fun _ _ => rfl)) (fun _ _ => rfl)) (fun _ _ => rfl)) (fun _ _ => rfl)
theorem for_sq {E : Rd Ex} {B : Rd (List St)} {us : List Tok} (h0 : isSign [108, 101, 116] us = false) (h1 : isSign [105, 102] us = false) (h2 : isSign [102, 111, 114] us = true) : stmtS E B us = forR E B (headPlace us) us.tail := by
  unfold stmtS
  rw [h0, h1, if_neg (by decide), if_neg (by decide), if_pos h2]
  simp only [name_sq, must_sq]
  rfl
set_option maxHeartbeats 32000000 in
theorem rStmt_for (d : Nat) (hd : d ≤ 32) (E : Rd Ex) (hE : ExC Any 83 ((d : Int) + 1) E) (w : World) (br n : Nat) (us : List Tok) (hr : ReAt w br n (.ok us)) (B : Rd (List St)) (hB : BlC ((d : Int) + 1) B) (h0 : isSign [108, 101, 116] us = false) (h1 : isSign [105, 102] us = false) (h2 : isSign [102, 111, 114] us = true) :
    Calls Tryz.prog 68 #[.pointer (some ⟨br, 0, none⟩), .int .i64 d] w (StPost w br n (.ok us) (stmtS E B)) := by
  obtain ⟨i0, hi0, hz0, hz1, hz2⟩ := info_parts Tryz.infoExpr
  have tt := fun (a b c d : Value) (w : World) => Tryz.tokText a b c d w
  have HN0 := hid h0
  have HN1 := hid h1
  have HN2 := hid h2
  have HE := hid hE
  have HB := hid hB
  have HSQ := hid (for_sq (E := E) (B := B) h0 h1 h2)
  have hwr0 : IntKind.i64.wrap ((d : Int) + 1) = (d : Int) + 1 := IntWalk.i64_in _ (by omega)
  clear h0 h1 h2 hE hB
  have hlt := hr.lt
  go_enter Tryz.func68, Tryz.ntmps68
  go_wp2_with fail
  refine (rPlace_any _ br n _ (hr.ext ((Ext.refl _).alloc _))).mono ?_
  rintro e' wP ⟨⟨p, rfl, hp⟩, mm, rfl⟩
  have HP := hid (hp us rfl)
  clear hp
  have A0 : SmAt w (((w.alloc (.cells #[.int .i64 0, .string ⟨#[]⟩, .slice none 0 0, .slice none 0 0, .slice none 0 0, .int .i64 0] 78)).drewN mm).alloc (.cells #[.int .i64 0, .string ⟨#[]⟩, .slice none 0 0, .slice none 0 0, .slice none 0 0, .int .i64 p] 78)) br n (.ok us) [.int .i64 0, .string ⟨#[]⟩, .slice none 0 0, .slice none 0 0, .slice none 0 0, .int .i64 p] :=
    ⟨((hr.ext ((Ext.refl _).alloc _)).drewN mm).ext ((Ext.refl _).alloc _), ((Blk.new w 78 [.int .i64 0, .string ⟨#[]⟩, .slice none 0 0, .slice none 0 0, .slice none 0 0, .int .i64 0]).drewN mm).alloc _, by
      have := Blk.new ((w.alloc (.cells #[.int .i64 0, .string ⟨#[]⟩, .slice none 0 0, .slice none 0 0, .slice none 0 0, .int .i64 0] 78)).drewN mm) 78 [.int .i64 0, .string ⟨#[]⟩, .slice none 0 0, .slice none 0 0, .slice none 0 0, .int .i64 p]
      have e : ((w.alloc (.cells #[.int .i64 0, .string ⟨#[]⟩, .slice none 0 0, .slice none 0 0, .slice none 0 0, .int .i64 0] 78)).drewN mm).heap.size = w.heap.size + 1 := by show (w.alloc _).heap.size = _; rw [World.size_alloc]
      rw [e] at this
      exact this, (((Keep.refl _ _).alloc _).trans' (Keep.drewN' _ _ mm)).alloc _, hlt⟩
  go_wp2_with fail
  refine (rTake_any _ br n _ A0.rd [108, 101, 116]).mono ?_
  rintro e' wT0 ⟨rfl, rT, kT⟩
  rw [show isS [108, 101, 116] (.ok us) = false from HN0.out]
  rw [tkS_no (show isS [108, 101, 116] (.ok us) = false from HN0.out)] at rT
  have A1 := A0.call rT kT
  clear rT kT
  go_wp2_with fail
  refine (rTake_any _ br n _ A1.rd [105, 102]).mono ?_
  rintro e' wT1 ⟨rfl, rT, kT⟩
  rw [show isS [105, 102] (.ok us) = false from HN1.out]
  rw [tkS_no (show isS [105, 102] (.ok us) = false from HN1.out)] at rT
  have A2 := A1.call rT kT
  clear rT kT
  go_wp2_with fail
  refine (rTake_any _ br n _ A2.rd [102, 111, 114]).mono ?_
  rintro e' wT2 ⟨rfl, rT, kT⟩
  rw [show isS [102, 111, 114] (.ok us) = true from HN2.out]
  have B0 : SmAt w wT2 br n (.ok us.tail) [.int .i64 0, .string ⟨#[]⟩, .slice none 0 0, .slice none 0 0, .slice none 0 0, .int .i64 p] := A2.call (by
    have := rT
    rw [tkS, if_pos (show isSign [102, 111, 114] us = true from HN2.out)] at this
    exact this) kT
  clear rT kT A0
  have C1 := B0.set 0 (.int .i64 4)
  simp only [List.set_cons_zero, List.set_cons_succ] at C1
  obtain ⟨l0, l1, l2, l3, l4, l5, lf⟩ := B0.loc.sixR
  have lB := B0.loc.lt
  go_wp2_with fail
  refine (rName_any _ br n _ C1.rd).mono ?_
  rintro e' w2n ⟨⟨na, nb, nc, nd, rfl, hnm⟩, rN, kN⟩
  have HNM := hid hnm
  clear hnm
  clear l0 l1 l2 l3 l4 l5 lf lB
  have C3 := C1.call rN kN
  have C4 := C3.set 1 (.string ⟨nb.toArray⟩)
  simp only [List.set_cons_zero, List.set_cons_succ] at C4
  obtain ⟨l0, l1, l2, l3, l4, l5, lf⟩ := C3.loc.sixR
  have lB := C3.loc.lt
  go_wp2_with fail
  refine (rMust_any _ br n _ C4.rd [61]).mono ?_
  rintro e' w5m ⟨rfl, rN5, kN5⟩
  clear l0 l1 l2 l3 l4 l5 lf lB
  have C6 := C4.call rN5 kN5
  have own : World.ownsRow w5m (w.heap.size + 2) 100 5 (.slice none 0 0) 0 [] := World.ownsRow_nil _ _ _ _
  have lw1 := C6.loc.lt
  go_wp2_with fail
  have bX := C6.loc
  have rr := C6.rd
  have lX := C6.loc.lt
  have hwr : IntKind.i64.wrap ((d : Int) + 1) = (d : Int) + 1 := IntWalk.i64_in _ (by omega)
  have hSx : Blk w5m.drew (w.heap.size + 1) 78 [.int .i64 4, .string ⟨nb.toArray⟩, .slice none 0 0, .slice none 0 0, .slice none 0 0, .int .i64 p] := bX
  refine phase_begin (fun w' => Blk w' (w.heap.size + 1) 78 [.int .i64 4, .string ⟨nb.toArray⟩, .slice none 0 0, .slice none 0 0, .slice none 0 0, .int .i64 p]) 9 (by kernel_rfl) ?_
  refine phase_take (i := 0) (v := .pointer (some ⟨w.heap.size + 1, 2, none⟩)) rfl (by kernel_rfl) (by omega) (by kernel_rfl) (by kernel_rfl) (by kernel_rfl) (fun _ _ _ h => h) ⟨by rfl, ?_⟩ hSx ?_
  · intro wS hSw
    have s0 := Blk.cell hSw 2
    have sl := Blk.lt hSw
    simp only [List.getElem?_cons_zero, List.getElem?_cons_succ] at s0
    go_simp
  try simp only [Act.put, List.getElem_toArray, List.getElem_cons_succ, List.getElem_cons_zero, List.setIfInBounds_toArray, List.set_cons_zero, List.set_cons_succ]
  refine phase_take (i := 1) (v := .slice none 0 0) rfl (by kernel_rfl) (by omega) (by kernel_rfl) (by kernel_rfl) (by kernel_rfl) (fun _ _ _ h => h) ⟨by rfl, ?_⟩ hSx ?_
  · intro wS hSw
    have s0 := Blk.cell hSw 2
    have sl := Blk.lt hSw
    simp only [List.getElem?_cons_zero, List.getElem?_cons_succ] at s0
    go_simp
  try simp only [Act.put, List.getElem_toArray, List.getElem_cons_succ, List.getElem_cons_zero, List.setIfInBounds_toArray, List.set_cons_zero, List.set_cons_succ]
  refine phase_take (i := 2) (v := .pointer (some ⟨br, 0, none⟩)) rfl (by kernel_rfl) (by omega) (by kernel_rfl) (by kernel_rfl) (by kernel_rfl) (fun _ _ _ h => h) ⟨by rfl, fun wS hSw => by go_simp⟩ hSx ?_
  try simp only [Act.put, List.getElem_toArray, List.getElem_cons_succ, List.getElem_cons_zero, List.setIfInBounds_toArray, List.set_cons_zero, List.set_cons_succ]
  refine phase_take (i := 3) (v := .int .i64 d) rfl (by kernel_rfl) (by omega) (by kernel_rfl) (by kernel_rfl) (by kernel_rfl) (fun _ _ _ h => h) ⟨by rfl, fun wS hSw => by go_simp⟩ hSx ?_
  try simp only [Act.put, List.getElem_toArray, List.getElem_cons_succ, List.getElem_cons_zero, List.setIfInBounds_toArray, List.set_cons_zero, List.set_cons_succ]
  refine phase_take (i := 4) (v := .int .i64 ((d : Int) + 1)) rfl (by kernel_rfl) (by omega) (by kernel_rfl) (by kernel_rfl) (by kernel_rfl) (fun _ _ _ h => h) ⟨by rfl, fun wS hSw => by go_simp⟩ hSx ?_
  try simp only [Act.put, List.getElem_toArray, List.getElem_cons_succ, List.getElem_cons_zero, List.setIfInBounds_toArray, List.set_cons_zero, List.set_cons_succ]
  refine phase_one (i := 5) (by kernel_rfl) (by omega) rfl (by rfl) (fun K hK => ?_)
  go_simp
  refine (HE.out _ br n (aft n (signR [61]) (aft n (nameR) (.ok us.tail))) trivial (rr.ext (Ext.refl _).drew)).mono ?_
  rintro e' w3q1 ⟨⟨vsq1, rfl, ⟨opq1, numq1, textq1, kaq1, knq1, kcq1, at_q1, rfl⟩, hxq1⟩, r3q1, k3q1⟩
  have b3q1 := hSx.keep k3q1 (by simp; omega)
  have HXq1 := hid hxq1
  clear hxq1
  refine hK _ _ ⟨b3q1, ?_⟩
  clear hK K
  try simp only [Act.put, List.getElem_toArray, List.getElem_cons_succ, List.getElem_cons_zero, List.setIfInBounds_toArray, List.set_cons_zero, List.set_cons_succ]
  refine phase_one (i := 6) (by kernel_rfl) (by omega) rfl (by rfl) (fun K hK => ?_)
  go_simp
  refine hK _ _ ⟨b3q1.alloc _, ?_⟩
  clear hK K
  try simp only [Act.put, List.getElem_toArray, List.getElem_cons_succ, List.getElem_cons_zero, List.setIfInBounds_toArray, List.set_cons_zero, List.set_cons_succ]
  have own4q1 := (ownsRow_keep own ((Keep.refl [br] _).drew.trans' k3q1) (fun b hb _ hq => by simp only [List.mem_singleton] at hb; subst hb; have := (own.lt _ hq).1; omega)).alloc (.cells #[.int .i64 opq1, .int .i64 numq1, .string ⟨textq1.toArray⟩, .slice kaq1 knq1 kcq1, .int .i64 at_q1] 100)
  have sz3q1 := k3q1.size
  simp only [World.size_drew] at sz3q1
  refine phase_one (i := 7) (by kernel_rfl) (by omega) rfl (by rfl) (fun K hK => ?_)
  refine wp_append_lies _ (.tmp 70) (.tmp 75) 76 (by rfl) (w.heap.size + 2) 100 i0 (.agg #[.int .i64 0, .int .i64 0, .string ⟨#[]⟩, .slice none 0 0, .int .i64 0]) 5 64 Tryz.underlying76 hi0 hz0 hz1 hz2 rfl (by omega) (.slice none 0 0) 0 [] (by rfl) own4q1 ⟨w3q1.heap.size, 0, none⟩ 1 1
    [.int .i64 opq1, .int .i64 numq1, .string ⟨textq1.toArray⟩, .slice kaq1 knq1 kcq1, .int .i64 at_q1] (by rfl) (by rfl) (news_cells _ _ _ _ rfl) (by simp [Value.oneCell']) (by omega) (by simp only [maxLen]; omega) (by omega) (by simp; omega) (w3q1.heap.size + 1) (by simp) (fun gq1 capq1 w5q1 hown5q1 hgrq1 hatq1 hgltq1 => ?_)
  have lgq1 : w.heap.size + 2 ≤ gq1 := (hown5q1.lt gq1 rfl).1
  have lownq1 : ∀ q ∈ ownL (.slice none 0 0), w.heap.size + 2 ≤ q ∧ q < w5m.heap.size := fun q hq => own.lt q (mem_ownL.1 hq)
  have kkq1 := Keep.grownBy hgrq1 (ownL (.slice none 0 0)) (fun k hk => mem_ownL.2 hk)
  have b5q1 := (b3q1.alloc (.cells #[.int .i64 opq1, .int .i64 numq1, .string ⟨textq1.toArray⟩, .slice kaq1 knq1 kcq1, .int .i64 at_q1] 100)).keep kkq1 (fun hq => by have := (lownq1 _ hq).1; omega)
  refine hK _ _ ⟨b5q1, ?_⟩
  clear hK K
  try simp only [Act.put, List.getElem_toArray, List.getElem_cons_succ, List.getElem_cons_zero, List.setIfInBounds_toArray, List.set_cons_zero, List.set_cons_succ]
  refine phase_take (i := 8) (v := .pointer (some ⟨w.heap.size + 1, 2, none⟩)) rfl (by kernel_rfl) (by omega) (by kernel_rfl) (by kernel_rfl) (by kernel_rfl) (fun _ _ _ h => h) ⟨by rfl, ?_⟩ (show Blk w5q1 (w.heap.size + 1) 78 [.int .i64 4, .string ⟨nb.toArray⟩, .slice none 0 0, .slice none 0 0, .slice none 0 0, .int .i64 p] from b5q1) ?_
  · intro wS hSw
    have s0 := Blk.cell hSw 2
    have sl := Blk.lt hSw
    simp only [List.getElem?_cons_zero, List.getElem?_cons_succ] at s0
    go_simp
  try simp only [Act.put, List.getElem_toArray, List.getElem_cons_succ, List.getElem_cons_zero, List.setIfInBounds_toArray, List.set_cons_zero, List.set_cons_succ]
  have c5q1 := b5q1.cell 2
  have f5q1 := b5q1.frozen 2
  have l5q1 := b5q1.lt
  simp only [List.getElem?_cons_zero, List.getElem?_cons_succ] at c5q1
  refine phase_late (i := 9) (by kernel_rfl) (by omega) rfl (by rfl) (fun K hK => ?_)
  go_simp
  refine hK _ _ ?_
  clear hK K
  try simp only [Act.put, List.getElem_toArray, List.getElem_cons_succ, List.getElem_cons_zero, List.setIfInBounds_toArray, List.set_cons_zero, List.set_cons_succ]
  have bX6q1 := b5q1.set 2 (.slice (some ⟨gq1, 0, none⟩) 1 capq1)
  simp only [List.set_cons_zero, List.set_cons_succ] at bX6q1
  have kSq1 := Keep.set w5q1 ⟨w.heap.size + 1, 2, none⟩ (.slice (some ⟨gq1, 0, none⟩) 1 capq1)
  have r6q1 := ((r3q1.ext ((Ext.refl _).alloc (.cells #[.int .i64 opq1, .int .i64 numq1, .string ⟨textq1.toArray⟩, .slice kaq1 knq1 kcq1, .int .i64 at_q1] 100))).keep kkq1 (fun q hq => by have := (lownq1 q hq).1; omega)).keep kSq1 (fun q hq => by simp only [List.mem_singleton] at hq; omega)
  have kAq1 : Keep (br :: (w.heap.size + 1) :: ownL (.slice none 0 0)) w5m (w5q1.setCell ⟨w.heap.size + 1, 2, none⟩ (.slice (some ⟨gq1, 0, none⟩) 1 capq1)) :=
    ((((Keep.refl _ _).drew.trans k3q1 (by simp)).alloc _).trans kkq1 (fun q hq => .inl (by simp [hq]))).trans kSq1 (by simp)
  have own6q1 := ownsRow_keep hown5q1 kSq1 (fun b hb _ hq => by simp only [List.mem_singleton] at hb; subst hb; simp only [Value.ownBlock, Option.some.injEq] at hq; omega)
  refine wpAny_done (by kernel_rfl) ?_ _
  clear c5q1 f5q1 hSx b3q1 own4q1
  have SM1 := C6.push (v := .slice none 0 0) r6q1 bX6q1 kAq1 (fun q hq => (lownq1 q hq).1)
  have HF1 : Hid (∀ x, Giv E (aft n (signR [61]) (aft n (nameR) (.ok us.tail))) x → ExIs _ (fun b => w5m.heap.size ≤ b ∧ b < w3q1.heap.size) x [.int .i64 opq1, .int .i64 numq1, .string ⟨textq1.toArray⟩, .slice kaq1 knq1 kcq1, .int .i64 at_q1]) := fun x hg =>
    ExIs.carry (Carry.keep kSq1 (fun b hb _ hf => by simp only [List.mem_singleton] at hb; omega) (fun b _ hf => hf)) _ _ (ExIs.carry (Carry.keep kkq1 (fun b hb _ hf => by have := (lownq1 b hb).2; omega) (fun b _ hf => hf)) _ _ (ExIs.carry (Carry.keep (Keep.ofExt ((Ext.refl _).alloc (.cells #[.int .i64 opq1, .int .i64 numq1, .string ⟨textq1.toArray⟩, .slice kaq1 knq1 kcq1, .int .i64 at_q1] 100)) : Keep [] _ _) (G := fun b => w5m.heap.size ≤ b ∧ b < w3q1.heap.size) (by simp) (fun b hlt hf => ⟨hf, hlt⟩)) _ _ (HXq1.out x hg)))
  have kQ1 := Keep.refl [br, w.heap.size, w.heap.size + 1] (w5q1.setCell ⟨w.heap.size + 1, 2, none⟩ (.slice (some ⟨gq1, 0, none⟩) 1 capq1))
  clear HXq1
  have kO1 := Keep.refl [br, w.heap.size, w.heap.size + 1] (w5q1.setCell ⟨w.heap.size + 1, 2, none⟩ (.slice (some ⟨gq1, 0, none⟩) 1 capq1))
  have kQ1 := Keep.refl [br, w.heap.size + 1, gq1, w.heap.size] (w5q1.setCell ⟨w.heap.size + 1, 2, none⟩ (.slice (some ⟨gq1, 0, none⟩) 1 capq1))
  go_wp2_with fail
  refine (rMust_any _ br n _ SM1.rd [116, 111]).mono ?_
  rintro e' w7m ⟨rfl, rN7, kN7⟩
  have C8 := SM1.call rN7 kN7
  have kQ1 := kQ1.trans kN7 (by simp)
  have kO1 := kO1.trans kN7 (by simp)
  have own := ownsRow_keep own6q1 kO1 (fun b hb _ hq => by have := (own6q1.lt b hq).1; simp only [List.mem_cons, List.not_mem_nil, or_false] at hb; omega)
  have lw2 := C8.loc.lt
  go_wp2_with fail
  have bX := C8.loc
  have rr := C8.rd
  have lX := C8.loc.lt
  have hwr : IntKind.i64.wrap ((d : Int) + 1) = (d : Int) + 1 := IntWalk.i64_in _ (by omega)
  have hSx : Blk w7m.drew (w.heap.size + 1) 78 [.int .i64 4, .string ⟨nb.toArray⟩, .slice (some ⟨gq1, 0, none⟩) 1 capq1, .slice none 0 0, .slice none 0 0, .int .i64 p] := bX
  refine phase_begin (fun w' => Blk w' (w.heap.size + 1) 78 [.int .i64 4, .string ⟨nb.toArray⟩, .slice (some ⟨gq1, 0, none⟩) 1 capq1, .slice none 0 0, .slice none 0 0, .int .i64 p]) 9 (by kernel_rfl) ?_
  refine phase_take (i := 0) (v := .pointer (some ⟨w.heap.size + 1, 2, none⟩)) rfl (by kernel_rfl) (by omega) (by kernel_rfl) (by kernel_rfl) (by kernel_rfl) (fun _ _ _ h => h) ⟨by rfl, ?_⟩ hSx ?_
  · intro wS hSw
    have s0 := Blk.cell hSw 2
    have sl := Blk.lt hSw
    simp only [List.getElem?_cons_zero, List.getElem?_cons_succ] at s0
    go_simp
  try simp only [Act.put, List.getElem_toArray, List.getElem_cons_succ, List.getElem_cons_zero, List.setIfInBounds_toArray, List.set_cons_zero, List.set_cons_succ]
  refine phase_take (i := 1) (v := .slice (some ⟨gq1, 0, none⟩) 1 capq1) rfl (by kernel_rfl) (by omega) (by kernel_rfl) (by kernel_rfl) (by kernel_rfl) (fun _ _ _ h => h) ⟨by rfl, ?_⟩ hSx ?_
  · intro wS hSw
    have s0 := Blk.cell hSw 2
    have sl := Blk.lt hSw
    simp only [List.getElem?_cons_zero, List.getElem?_cons_succ] at s0
    go_simp
  try simp only [Act.put, List.getElem_toArray, List.getElem_cons_succ, List.getElem_cons_zero, List.setIfInBounds_toArray, List.set_cons_zero, List.set_cons_succ]
  refine phase_take (i := 2) (v := .pointer (some ⟨br, 0, none⟩)) rfl (by kernel_rfl) (by omega) (by kernel_rfl) (by kernel_rfl) (by kernel_rfl) (fun _ _ _ h => h) ⟨by rfl, fun wS hSw => by go_simp⟩ hSx ?_
  try simp only [Act.put, List.getElem_toArray, List.getElem_cons_succ, List.getElem_cons_zero, List.setIfInBounds_toArray, List.set_cons_zero, List.set_cons_succ]
  refine phase_take (i := 3) (v := .int .i64 d) rfl (by kernel_rfl) (by omega) (by kernel_rfl) (by kernel_rfl) (by kernel_rfl) (fun _ _ _ h => h) ⟨by rfl, fun wS hSw => by go_simp⟩ hSx ?_
  try simp only [Act.put, List.getElem_toArray, List.getElem_cons_succ, List.getElem_cons_zero, List.setIfInBounds_toArray, List.set_cons_zero, List.set_cons_succ]
  refine phase_take (i := 4) (v := .int .i64 ((d : Int) + 1)) rfl (by kernel_rfl) (by omega) (by kernel_rfl) (by kernel_rfl) (by kernel_rfl) (fun _ _ _ h => h) ⟨by rfl, fun wS hSw => by go_simp⟩ hSx ?_
  try simp only [Act.put, List.getElem_toArray, List.getElem_cons_succ, List.getElem_cons_zero, List.setIfInBounds_toArray, List.set_cons_zero, List.set_cons_succ]
  refine phase_one (i := 5) (by kernel_rfl) (by omega) rfl (by rfl) (fun K hK => ?_)
  go_simp
  refine (HE.out _ br n (aft n (signR [116, 111]) (aft n (E) (aft n (signR [61]) (aft n (nameR) (.ok us.tail))))) trivial (rr.ext (Ext.refl _).drew)).mono ?_
  rintro e' w3q2 ⟨⟨vsq2, rfl, ⟨opq2, numq2, textq2, kaq2, knq2, kcq2, at_q2, rfl⟩, hxq2⟩, r3q2, k3q2⟩
  have b3q2 := hSx.keep k3q2 (by simp; omega)
  have HXq2 := hid hxq2
  clear hxq2
  refine hK _ _ ⟨b3q2, ?_⟩
  clear hK K
  try simp only [Act.put, List.getElem_toArray, List.getElem_cons_succ, List.getElem_cons_zero, List.setIfInBounds_toArray, List.set_cons_zero, List.set_cons_succ]
  refine phase_one (i := 6) (by kernel_rfl) (by omega) rfl (by rfl) (fun K hK => ?_)
  go_simp
  refine hK _ _ ⟨b3q2.alloc _, ?_⟩
  clear hK K
  try simp only [Act.put, List.getElem_toArray, List.getElem_cons_succ, List.getElem_cons_zero, List.setIfInBounds_toArray, List.set_cons_zero, List.set_cons_succ]
  have own4q2 := (ownsRow_keep own ((Keep.refl [br] _).drew.trans' k3q2) (fun b hb _ hq => by simp only [List.mem_singleton] at hb; subst hb; have := (own.lt _ hq).1; omega)).alloc (.cells #[.int .i64 opq2, .int .i64 numq2, .string ⟨textq2.toArray⟩, .slice kaq2 knq2 kcq2, .int .i64 at_q2] 100)
  have sz3q2 := k3q2.size
  simp only [World.size_drew] at sz3q2
  refine phase_one (i := 7) (by kernel_rfl) (by omega) rfl (by rfl) (fun K hK => ?_)
  refine wp_append_lies _ (.tmp 81) (.tmp 86) 76 (by rfl) (w.heap.size + 2) 100 i0 (.agg #[.int .i64 0, .int .i64 0, .string ⟨#[]⟩, .slice none 0 0, .int .i64 0]) 5 64 Tryz.underlying76 hi0 hz0 hz1 hz2 rfl (by omega) (.slice (some ⟨gq1, 0, none⟩) 1 capq1) 1 ([.int .i64 opq1, .int .i64 numq1, .string ⟨textq1.toArray⟩, .slice kaq1 knq1 kcq1, .int .i64 at_q1]) (by rfl) own4q2 ⟨w3q2.heap.size, 0, none⟩ 1 1
    [.int .i64 opq2, .int .i64 numq2, .string ⟨textq2.toArray⟩, .slice kaq2 knq2 kcq2, .int .i64 at_q2] (by rfl) (by rfl) (news_cells _ _ _ _ rfl) (by simp [Value.oneCell']) (by omega) (by simp only [maxLen]; omega) (by omega) (by simp; omega) (w3q2.heap.size + 1) (by simp) (fun gq2 capq2 w5q2 hown5q2 hgrq2 hatq2 hgltq2 => ?_)
  have lgq2 : w.heap.size + 2 ≤ gq2 := (hown5q2.lt gq2 rfl).1
  have lownq2 : ∀ q ∈ ownL (.slice (some ⟨gq1, 0, none⟩) 1 capq1), w.heap.size + 2 ≤ q ∧ q < w7m.heap.size := fun q hq => own.lt q (mem_ownL.1 hq)
  have kkq2 := Keep.grownBy hgrq2 (ownL (.slice (some ⟨gq1, 0, none⟩) 1 capq1)) (fun k hk => mem_ownL.2 hk)
  have b5q2 := (b3q2.alloc (.cells #[.int .i64 opq2, .int .i64 numq2, .string ⟨textq2.toArray⟩, .slice kaq2 knq2 kcq2, .int .i64 at_q2] 100)).keep kkq2 (fun hq => by have := (lownq2 _ hq).1; omega)
  refine hK _ _ ⟨b5q2, ?_⟩
  clear hK K
  try simp only [Act.put, List.getElem_toArray, List.getElem_cons_succ, List.getElem_cons_zero, List.setIfInBounds_toArray, List.set_cons_zero, List.set_cons_succ]
  refine phase_take (i := 8) (v := .pointer (some ⟨w.heap.size + 1, 2, none⟩)) rfl (by kernel_rfl) (by omega) (by kernel_rfl) (by kernel_rfl) (by kernel_rfl) (fun _ _ _ h => h) ⟨by rfl, ?_⟩ (show Blk w5q2 (w.heap.size + 1) 78 [.int .i64 4, .string ⟨nb.toArray⟩, .slice (some ⟨gq1, 0, none⟩) 1 capq1, .slice none 0 0, .slice none 0 0, .int .i64 p] from b5q2) ?_
  · intro wS hSw
    have s0 := Blk.cell hSw 2
    have sl := Blk.lt hSw
    simp only [List.getElem?_cons_zero, List.getElem?_cons_succ] at s0
    go_simp
  try simp only [Act.put, List.getElem_toArray, List.getElem_cons_succ, List.getElem_cons_zero, List.setIfInBounds_toArray, List.set_cons_zero, List.set_cons_succ]
  have c5q2 := b5q2.cell 2
  have f5q2 := b5q2.frozen 2
  have l5q2 := b5q2.lt
  simp only [List.getElem?_cons_zero, List.getElem?_cons_succ] at c5q2
  refine phase_late (i := 9) (by kernel_rfl) (by omega) rfl (by rfl) (fun K hK => ?_)
  go_simp
  refine hK _ _ ?_
  clear hK K
  try simp only [Act.put, List.getElem_toArray, List.getElem_cons_succ, List.getElem_cons_zero, List.setIfInBounds_toArray, List.set_cons_zero, List.set_cons_succ]
  have bX6q2 := b5q2.set 2 (.slice (some ⟨gq2, 0, none⟩) 2 capq2)
  simp only [List.set_cons_zero, List.set_cons_succ] at bX6q2
  have kSq2 := Keep.set w5q2 ⟨w.heap.size + 1, 2, none⟩ (.slice (some ⟨gq2, 0, none⟩) 2 capq2)
  have r6q2 := ((r3q2.ext ((Ext.refl _).alloc (.cells #[.int .i64 opq2, .int .i64 numq2, .string ⟨textq2.toArray⟩, .slice kaq2 knq2 kcq2, .int .i64 at_q2] 100))).keep kkq2 (fun q hq => by have := (lownq2 q hq).1; omega)).keep kSq2 (fun q hq => by simp only [List.mem_singleton] at hq; omega)
  have kAq2 : Keep (br :: (w.heap.size + 1) :: ownL (.slice (some ⟨gq1, 0, none⟩) 1 capq1)) w7m (w5q2.setCell ⟨w.heap.size + 1, 2, none⟩ (.slice (some ⟨gq2, 0, none⟩) 2 capq2)) :=
    ((((Keep.refl _ _).drew.trans k3q2 (by simp)).alloc _).trans kkq2 (fun q hq => .inl (by simp [hq]))).trans kSq2 (by simp)
  have own6q2 := ownsRow_keep hown5q2 kSq2 (fun b hb _ hq => by simp only [List.mem_singleton] at hb; subst hb; simp only [Value.ownBlock, Option.some.injEq] at hq; omega)
  refine wpAny_done (by kernel_rfl) ?_ _
  clear c5q2 f5q2 hSx b3q2 own4q2
  have SM2 := C8.push (v := .slice (some ⟨gq1, 0, none⟩) 1 capq1) r6q2 bX6q2 kAq2 (fun q hq => (lownq2 q hq).1)
  have HF2 : Hid (∀ x, Giv E (aft n (signR [116, 111]) (aft n (E) (aft n (signR [61]) (aft n (nameR) (.ok us.tail))))) x → ExIs _ (fun b => w7m.heap.size ≤ b ∧ b < w3q2.heap.size) x [.int .i64 opq2, .int .i64 numq2, .string ⟨textq2.toArray⟩, .slice kaq2 knq2 kcq2, .int .i64 at_q2]) := fun x hg =>
    ExIs.carry (Carry.keep kSq2 (fun b hb _ hf => by simp only [List.mem_singleton] at hb; omega) (fun b _ hf => hf)) _ _ (ExIs.carry (Carry.keep kkq2 (fun b hb _ hf => by have := (lownq2 b hb).2; omega) (fun b _ hf => hf)) _ _ (ExIs.carry (Carry.keep (Keep.ofExt ((Ext.refl _).alloc (.cells #[.int .i64 opq2, .int .i64 numq2, .string ⟨textq2.toArray⟩, .slice kaq2 knq2 kcq2, .int .i64 at_q2] 100)) : Keep [] _ _) (G := fun b => w7m.heap.size ≤ b ∧ b < w3q2.heap.size) (by simp) (fun b hlt hf => ⟨hf, hlt⟩)) _ _ (HXq2.out x hg)))
  have kQ2 := Keep.refl [br, w.heap.size, w.heap.size + 1] (w5q2.setCell ⟨w.heap.size + 1, 2, none⟩ (.slice (some ⟨gq2, 0, none⟩) 2 capq2))
  clear HXq2
  have kQ1 := kQ1.trans kAq2 (fun q hq => .inl (by simp [ownL, Value.ownBlock] at hq ⊢; omega))
  have kO2 := Keep.refl [br, w.heap.size, w.heap.size + 1] (w5q2.setCell ⟨w.heap.size + 1, 2, none⟩ (.slice (some ⟨gq2, 0, none⟩) 2 capq2))
  have kQ2 := Keep.refl [br, w.heap.size + 1, gq2, w.heap.size] (w5q2.setCell ⟨w.heap.size + 1, 2, none⟩ (.slice (some ⟨gq2, 0, none⟩) 2 capq2))
  have lC1 := SM2.loc.lt
  go_wp2_with fail
  refine (HB.out _ br n _ SM2.rd).mono ?_
  rintro e' w9b ⟨⟨bva1, bm1, bvc1, rfl, hbl⟩, rB1, kN9⟩
  have HBL1 := hid hbl
  clear hbl
  have lB1 := SM2.keep.size
  have C10 := SM2.call rB1 kN9
  have kQ1 := kQ1.trans kN9 (by simp)
  have kQ2 := kQ2.trans kN9 (by simp)
  have kO2 := kO2.trans kN9 (by simp)
  have kB1 := Keep.refl [br, w.heap.size, w.heap.size + 1] w9b
  have C11 := C10.set 3 (.slice bva1 bm1 bvc1)
  simp only [List.set_cons_zero, List.set_cons_succ] at C11
  have kQ1 := kQ1.setCell (p := ⟨w.heap.size + 1, 3, none⟩) (by simp) (.slice bva1 bm1 bvc1)
  have kQ2 := kQ2.setCell (p := ⟨w.heap.size + 1, 3, none⟩) (by simp) (.slice bva1 bm1 bvc1)
  have kO2 := kO2.setCell (p := ⟨w.heap.size + 1, 3, none⟩) (by simp) (.slice bva1 bm1 bvc1)
  have kB1 := kB1.setCell (p := ⟨w.heap.size + 1, 3, none⟩) (by simp) (.slice bva1 bm1 bvc1)
  obtain ⟨n0, n1, n2, n3, n4, n5, nf⟩ := C10.loc.sixR
  have lB := C10.loc.lt
  obtain ⟨l0, l1, l2, l3, l4, l5, lf⟩ := C11.loc.sixR
  obtain ⟨m0, m1, m2, m3, m4, m5, mf⟩ := C11.res.sixR
  have lr7 := C11.res.lt
  have lr8 := C11.loc.lt
  have bF := C11.res.put6 (.int .i64 4) (.string ⟨nb.toArray⟩) (.slice (some ⟨gq2, 0, none⟩) 2 capq2) (.slice bva1 bm1 bvc1) (.slice none 0 0) (.int .i64 p)
  have kF := Keep.put6 (w9b.setCell ⟨w.heap.size + 1, 3, none⟩ (.slice bva1 bm1 bvc1)) w.heap.size (.int .i64 4) (.string ⟨nb.toArray⟩) (.slice (some ⟨gq2, 0, none⟩) 2 capq2) (.slice bva1 bm1 bvc1) (.slice none 0 0) (.int .i64 p)
  obtain ⟨x0, x1, x2, x3, x4, x5, _⟩ := bF.sixR
  have kQ1 := kQ1.trans kF (by simp)
  have kQ2 := kQ2.trans kF (by simp)
  have kO2 := kO2.trans kF (by simp)
  have kB1 := kB1.trans kF (by simp)
  go_wp2_with fail
  refine bodyPost_ret (v := .agg #[.int .i64 4, .string ⟨nb.toArray⟩, .slice (some ⟨gq2, 0, none⟩) 2 capq2, .slice bva1 bm1 bvc1, .slice none 0 0, .int .i64 p]) (by simp [results, Tryz.results68, go_sem, x0, x1, x2, x3, x4, x5]) rfl ⟨⟨_, rfl, ⟨4, nb, _, 2, _, _, _, _, none, 0, 0, p, rfl⟩, fun x hg => ?_⟩, ?_, C11.keep.trans kF (by simp)⟩
  · obtain ⟨r, hg⟩ := giv_ok hg
    rw [HSQ.out] at hg
    have hg := show Giv (forR E B (headPlace us)) (.ok us.tail) x from ⟨_, r, rfl, hg⟩
    obtain ⟨nm, gN, hg⟩ := giv_sq n hg
    obtain ⟨_, _, hg⟩ := giv_sq n hg
    obtain ⟨y1, g1, hg⟩ := giv_sq n hg
    obtain ⟨_, _, hg⟩ := giv_sq n hg
    obtain ⟨y2, g2, hg⟩ := giv_sq n hg
    obtain ⟨bd1, gB1, hg⟩ := giv_sq n hg
    obtain rfl := giv_ret hg
    obtain rfl := HNM.out nm gN
    have ownF := ownsRow_keep own6q2 kO2 (fun b hb _ hq => by have := (own6q2.lt b hq).1; simp only [List.mem_cons, List.not_mem_nil, or_false] at hb; omega)
    have hy1 := ExIs.carry (Carry.keep kQ1 (G := (w.heap.size ≤ ·)) (fun b hb hlt hf => by have hf1 : (w5m).heap.size ≤ b := hf.1; have hf2 := hf.2; simp only [List.mem_cons, List.not_mem_nil, or_false] at hb; (first | omega | (rcases hatq1 with h | h <;> first | omega | (simp [Value.ownBlock] at h)))) (fun b _ hf => by have hf1 : (w5m).heap.size ≤ b := hf.1; show w.heap.size ≤ b; omega)) _ _ (HF1.out y1 g1)
    have hy2 := ExIs.carry (Carry.keep kQ2 (G := (w.heap.size ≤ ·)) (fun b hb hlt hf => by have hf1 : (w7m).heap.size ≤ b := hf.1; have hf2 := hf.2; simp only [List.mem_cons, List.not_mem_nil, or_false] at hb; (first | omega | (rcases hatq2 with h | h <;> first | omega | (have h3 := lownq2 gq2 (by simp [ownL, h]); omega)))) (fun b _ hf => by have hf1 : (w7m).heap.size ≤ b := hf.1; show w.heap.size ≤ b; omega)) _ _ (HF2.out y2 g2)
    have hbk1 := ((HBL1.out bd1 gB1).2).carry (Q' := fun ks => StsIs _ (w.heap.size ≤ ·) bd1 ks) (Carry.keep kB1 (G := (w.heap.size ≤ ·)) (fun b hb _ hf => by have hf1 : ((w5q2.setCell ⟨w.heap.size + 1, 2, none⟩ (.slice (some ⟨gq2, 0, none⟩) 2 capq2))).heap.size ≤ b := hf; simp only [List.mem_cons, List.not_mem_nil, or_false] at hb; omega) (fun b _ hf => by have hf1 : ((w5q2.setCell ⟨w.heap.size + 1, 2, none⟩ (.slice (some ⟨gq2, 0, none⟩) 2 capq2))).heap.size ≤ b := hf; show w.heap.size ≤ b; omega)) fun ks hk => StsIs.carry (Carry.keep kB1 (G := (w.heap.size ≤ ·)) (fun b hb _ hf => by have hf1 : ((w5q2.setCell ⟨w.heap.size + 1, 2, none⟩ (.slice (some ⟨gq2, 0, none⟩) 2 capq2))).heap.size ≤ b := hf; simp only [List.mem_cons, List.not_mem_nil, or_false] at hb; omega) (fun b _ hf => by have hf1 : ((w5q2.setCell ⟨w.heap.size + 1, 2, none⟩ (.slice (some ⟨gq2, 0, none⟩) 2 capq2))).heap.size ≤ b := hf; show w.heap.size ≤ b; omega)) _ _ hk
    simp only [StIs]
    exact ⟨_, _, _, by rw [HP.out, placeOf_sign HN2.out]; rfl, own_row2 ownF (fun b hb => by show w.heap.size ≤ b; omega) hy1 hy2, hbk1, st_row_none _ _ _ (by simp [StsIs])⟩
  · simp only [aft]
    rw [HSQ.out]
    show ReAt _ br n (aft n (forR E B (headPlace us)) (.ok us.tail))
    rw [aft_for]
    exact C11.rd.keep kF (by simp; omega)
end Go.Proofs.YtaehlakefgnfmaaGreatDoor
