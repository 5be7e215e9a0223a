/-
  DERIVED. THE WALKS of the document's reader's stmt, kind by kind (printed by gen_re11.py).
-/
import Derived.Test.YtaehlakefgnfmaaGreatDoorRe8
namespace Go.Proofs.YtaehlakefgnfmaaGreatDoor
set_option linter.unusedSimpArgs false
set_option linter.unusedVariables false
set_option maxRecDepth 100000
open Go.RowKit

theorem Blk.sixR {w : World} {b : Nat} {t : TypeId} {v0 v1 v2 v3 v4 v5 : Value} (h : Blk w b t [v0, v1, v2, v3, v4, v5]) :
    w.cell? ⟨b, 0, none⟩ = some v0 ∧ w.cell? ⟨b, 1, none⟩ = some v1 ∧ w.cell? ⟨b, 2, none⟩ = some v2 ∧ w.cell? ⟨b, 3, none⟩ = some v3 ∧ w.cell? ⟨b, 4, none⟩ = some v4 ∧ w.cell? ⟨b, 5, none⟩ = some v5 ∧ (∀ i, w.frozen? ⟨b, i, none⟩ = false) :=
  ⟨h.cell 0, h.cell 1, h.cell 2, h.cell 3, h.cell 4, h.cell 5, h.frozen⟩
/-- The statement under way: the reader, the result's block, the statement's block. -/
structure SmAt (w0 w : World) (br n : Nat) (S : Rz) (cs : List Value) : Prop where
  rd : ReAt w br n S
  res : Blk w w0.heap.size 78 [.int .i64 0, .string ⟨#[]⟩, .slice none 0 0, .slice none 0 0, .slice none 0 0, .int .i64 0]
  loc : Blk w (w0.heap.size + 1) 78 cs
  keep : Keep [br] w0 w
  lt : br < w0.heap.size
theorem SmAt.call {w0 w w' : World} {br n : Nat} {S S' : Rz} {cs : List Value} (h : SmAt w0 w br n S cs) (r : ReAt w' br n S') (k : Keep [br] w w') : SmAt w0 w' br n S' cs :=
  ⟨r, h.res.keep k (by have := h.lt; simp; omega), h.loc.keep k (by have := h.lt; simp; omega), h.keep.trans' k, h.lt⟩
theorem SmAt.set {w0 w : World} {br n : Nat} {S : Rz} {cs : List Value} (h : SmAt w0 w br n S cs) (i : Nat) (v : Value) : SmAt w0 (w.setCell ⟨w0.heap.size + 1, i, none⟩ v) br n S (cs.set i v) :=
  ⟨h.rd.set (by have := h.lt; omega) i v, h.res.setOther _ (by simp) v, h.loc.set i v, h.keep.setCell (.inr (by simp)) v, h.lt⟩
theorem SmAt.push {w0 w w' : World} {br n : Nat} {S S' : Rz} {cs cs' : List Value} {v : Value} (h : SmAt w0 w br n S cs) (r : ReAt w' br n S') (b : Blk w' (w0.heap.size + 1) 78 cs') (k : Keep (br :: (w0.heap.size + 1) :: ownL v) w w') (hv : ∀ q ∈ ownL v, w0.heap.size + 2 ≤ q) : SmAt w0 w' br n S' cs' :=
  ⟨r, h.res.keep k (fun hq => by
    have := h.lt
    simp only [List.mem_cons] at hq
    rcases hq with hq | hq | hq
    · omega
    · omega
    · have := hv _ hq; omega), b, h.keep.trans k (fun q hq => by
    simp only [List.mem_cons] at hq
    rcases hq with hq | hq | hq
    · exact .inl (by simp [hq])
    · right; omega
    · right; have := hv _ hq; omega), h.lt⟩
/-- A row of one's own holds one expression, or two. -/
theorem own_row1 {w : World} {base c : Nat} {F : Nat → Prop} {va : Option Addr} {x : Ex} {vs : List Value} (h : w.ownsRow base 100 5 (.slice va 1 c) 1 vs) (hF : ∀ b, base ≤ b → F b) (hx : ExIs w F x vs) : RowIs w F (.slice va 1 c) 1 (fun ks => ExsIs w F [x] ks) := by
  obtain ⟨a', c', hv, hc, hb, hn⟩ := owned_cells h
  cases hv
  refine ⟨va, c, vs, rfl, hn, fun i v hv => ?_, ?_⟩
  · obtain ⟨b, off, h1, h2⟩ := hc i v hv
    exact ⟨b, off, h1, hF b (hb _ h1), h2⟩
  · simp only [ExsIs]
    exact ⟨vs, [], by simp, hx, rfl⟩
theorem own_row2 {w : World} {base c : Nat} {F : Nat → Prop} {va : Option Addr} {x y : Ex} {vs us : List Value} (h : w.ownsRow base 100 5 (.slice va 2 c) 2 (vs ++ us)) (hF : ∀ b, base ≤ b → F b) (hx : ExIs w F x vs) (hy : ExIs w F y us) : RowIs w F (.slice va 2 c) 2 (fun ks => ExsIs w F [x, y] ks) := by
  obtain ⟨a', c', hv, hc, hb, hn⟩ := owned_cells h
  cases hv
  refine ⟨va, c, vs ++ us, rfl, hn, fun i v hv => ?_, ?_⟩
  · obtain ⟨b, off, h1, h2⟩ := hc i v hv
    exact ⟨b, off, h1, hF b (hb _ h1), h2⟩
  · simp only [ExsIs]
    exact ⟨vs, us, rfl, hx, us, [], by simp, hy, rfl⟩
theorem st_row_none (w : World) (F : Nat → Prop) (Q : List Value → Prop) (hQ : Q []) : RowIs w F (.slice none 0 0) 0 Q := ⟨none, 0, [], rfl, Nat.le_refl _, CellsIn.nil _ _ _, hQ⟩
def letR (E : Rd Ex) (p : Nat) : Rd St := sqR nameR (fun nm => sqR (signR [61]) (fun _ => sqR E (fun x => sqR (signR [59]) (fun _ => retR (.mk 1 nm [x] [] [] p)))))
theorem let_sq {E : Rd Ex} {B : Rd (List St)} {us : List Tok} (h : isSign [108, 101, 116] us = true) : stmtS E B us = letR E (headPlace us) us.tail := by
  unfold stmtS
  rw [if_pos h]
  simp only [name_sq, must_sq]
  rfl
theorem aft_let {n : Nat} {E : Rd Ex} {p : Nat} {S : Rz} : aft n (letR E p) S = aft n (signR [59]) (aft n (E) (aft n (signR [61]) (aft n (nameR) (S)))) :=
  aft_sq (F := fun S => aft n (signR [59]) (aft n (E) (aft n (signR [61]) (S)))) (fun _ S => aft_sq (F := fun S => aft n (signR [59]) (aft n (E) (S))) (fun _ S => aft_sq (F := fun S => aft n (signR [59]) (S)) (fun _ S => aft_sq (F := fun S => S) (fun _ S => aft_ret _ _ _) (fun _ _ => rfl)) (fun _ _ => rfl)) (fun _ _ => rfl)) (fun _ _ => rfl)
set_option maxHeartbeats 32000000 in
theorem rStmt_let (d : Nat) (hd : d ≤ 32) (E : Rd Ex) (hE : ExC Any 83 ((d : Int) + 1) E) (w : World) (br n : Nat) (us : List Tok) (hr : ReAt w br n (.ok us)) (B : Rd (List St)) (h0 : isSign [108, 101, 116] us = true) :
    Calls Tryz.prog 68 #[.pointer (some ⟨br, 0, none⟩), .int .i64 d] w (StPost w br n (.ok us) (stmtS E B)) := by
  obtain ⟨i0, hi0, hz0, hz1, hz2⟩ := info_parts Tryz.infoExpr
  have tt := fun (a b c d : Value) (w : World) => Tryz.tokText a b c d w
  have HN0 := hid h0
  have HE := hid hE
  have HSQ := hid (let_sq (E := E) (B := B) h0)
  clear h0 hE
  have hlt := hr.lt
  go_enter Tryz.func68, Tryz.ntmps68
  go_wp2_with fail
  refine (rPlace_any _ br n _ (hr.ext ((Ext.refl _).alloc _))).mono ?_
  rintro e' wP ⟨⟨p, rfl, hp⟩, mm, rfl⟩
  have HP := hid (hp us rfl)
  clear hp
  have A0 : SmAt w (((w.alloc (.cells #[.int .i64 0, .string ⟨#[]⟩, .slice none 0 0, .slice none 0 0, .slice none 0 0, .int .i64 0] 78)).drewN mm).alloc (.cells #[.int .i64 0, .string ⟨#[]⟩, .slice none 0 0, .slice none 0 0, .slice none 0 0, .int .i64 p] 78)) br n (.ok us) [.int .i64 0, .string ⟨#[]⟩, .slice none 0 0, .slice none 0 0, .slice none 0 0, .int .i64 p] :=
    ⟨((hr.ext ((Ext.refl _).alloc _)).drewN mm).ext ((Ext.refl _).alloc _), ((Blk.new w 78 [.int .i64 0, .string ⟨#[]⟩, .slice none 0 0, .slice none 0 0, .slice none 0 0, .int .i64 0]).drewN mm).alloc _, by
      have := Blk.new ((w.alloc (.cells #[.int .i64 0, .string ⟨#[]⟩, .slice none 0 0, .slice none 0 0, .slice none 0 0, .int .i64 0] 78)).drewN mm) 78 [.int .i64 0, .string ⟨#[]⟩, .slice none 0 0, .slice none 0 0, .slice none 0 0, .int .i64 p]
      have e : ((w.alloc (.cells #[.int .i64 0, .string ⟨#[]⟩, .slice none 0 0, .slice none 0 0, .slice none 0 0, .int .i64 0] 78)).drewN mm).heap.size = w.heap.size + 1 := by show (w.alloc _).heap.size = _; rw [World.size_alloc]
      rw [e] at this
      exact this, (((Keep.refl _ _).alloc _).trans' (Keep.drewN' _ _ mm)).alloc _, hlt⟩
  go_wp2_with fail
  refine (rTake_any _ br n _ A0.rd [108, 101, 116]).mono ?_
  rintro e' wT0 ⟨rfl, rT, kT⟩
  rw [show isS [108, 101, 116] (.ok us) = true from HN0.out]
  have B0 : SmAt w wT0 br n (.ok us.tail) [.int .i64 0, .string ⟨#[]⟩, .slice none 0 0, .slice none 0 0, .slice none 0 0, .int .i64 p] := A0.call (by
    have := rT
    rw [tkS, if_pos (show isSign [108, 101, 116] us = true from HN0.out)] at this
    exact this) kT
  clear rT kT A0
  have B1 := B0.set 0 (.int .i64 1)
  simp only [List.set_cons_zero, List.set_cons_succ] at B1
  obtain ⟨l0, l1, l2, l3, l4, l5, lf⟩ := B0.loc.sixR
  have lB := B0.loc.lt
  go_wp2_with fail
  refine (rName_any _ br n _ B1.rd).mono ?_
  rintro e' w2 ⟨⟨na, nb, nc, nd, rfl, hnm⟩, r2, k2⟩
  have HNM := hid hnm
  clear hnm l0 l1 l2 l3 l4 l5 lf
  have B2 := B1.call r2 k2
  have B3 := B2.set 1 (.string ⟨nb.toArray⟩)
  simp only [List.set_cons_zero, List.set_cons_succ] at B3
  obtain ⟨l0, l1, l2, l3, l4, l5, lf⟩ := B2.loc.sixR
  have lB2 := B2.loc.lt
  go_wp2_with fail
  refine (rMust_any _ br n _ B3.rd [61]).mono ?_
  rintro e' w4 ⟨rfl, r4, k4⟩
  clear l0 l1 l2 l3 l4 l5 lf
  have B4 := B3.call r4 k4
  have own : w4.ownsRow (w.heap.size + 2) 100 5 (.slice none 0 0) 0 [] := World.ownsRow_nil _ _ _ _
  have hm : (0 : Nat) ≤ 2048 := by omega
  have lw := B4.loc.lt
  have HP0 := HP
  go_wp2_with fail
  have bX := B4.loc
  have rr := B4.rd
  have lX := B4.loc.lt
  have hwr : IntKind.i64.wrap ((d : Int) + 1) = (d : Int) + 1 := IntWalk.i64_in _ (by omega)
  have hSx : Blk w4.drew (w.heap.size + 1) 78 [.int .i64 1, .string ⟨nb.toArray⟩, .slice none 0 0, .slice none 0 0, .slice none 0 0, .int .i64 p] := bX
  refine phase_begin (fun w' => Blk w' (w.heap.size + 1) 78 [.int .i64 1, .string ⟨nb.toArray⟩, .slice none 0 0, .slice none 0 0, .slice none 0 0, .int .i64 p]) 9 (by kernel_rfl) ?_
  refine phase_take (i := 0) (v := .pointer (some ⟨w.heap.size + 1, 2, none⟩)) rfl (by kernel_rfl) (by omega) (by kernel_rfl) (by kernel_rfl) (by kernel_rfl) (fun _ _ _ h => h) ⟨by rfl, ?_⟩ hSx ?_
  · intro wS hSw
    have s0 := Blk.cell hSw 2
    have sl := Blk.lt hSw
    simp only [List.getElem?_cons_zero, List.getElem?_cons_succ] at s0
    go_simp
  try simp only [Act.put, List.getElem_toArray, List.getElem_cons_succ, List.getElem_cons_zero, List.setIfInBounds_toArray, List.set_cons_zero, List.set_cons_succ]
  refine phase_take (i := 1) (v := .slice none 0 0) rfl (by kernel_rfl) (by omega) (by kernel_rfl) (by kernel_rfl) (by kernel_rfl) (fun _ _ _ h => h) ⟨by rfl, ?_⟩ hSx ?_
  · intro wS hSw
    have s0 := Blk.cell hSw 2
    have sl := Blk.lt hSw
    simp only [List.getElem?_cons_zero, List.getElem?_cons_succ] at s0
    go_simp
  try simp only [Act.put, List.getElem_toArray, List.getElem_cons_succ, List.getElem_cons_zero, List.setIfInBounds_toArray, List.set_cons_zero, List.set_cons_succ]
  refine phase_take (i := 2) (v := .pointer (some ⟨br, 0, none⟩)) rfl (by kernel_rfl) (by omega) (by kernel_rfl) (by kernel_rfl) (by kernel_rfl) (fun _ _ _ h => h) ⟨by rfl, fun wS hSw => by go_simp⟩ hSx ?_
  try simp only [Act.put, List.getElem_toArray, List.getElem_cons_succ, List.getElem_cons_zero, List.setIfInBounds_toArray, List.set_cons_zero, List.set_cons_succ]
  refine phase_take (i := 3) (v := .int .i64 d) rfl (by kernel_rfl) (by omega) (by kernel_rfl) (by kernel_rfl) (by kernel_rfl) (fun _ _ _ h => h) ⟨by rfl, fun wS hSw => by go_simp⟩ hSx ?_
  try simp only [Act.put, List.getElem_toArray, List.getElem_cons_succ, List.getElem_cons_zero, List.setIfInBounds_toArray, List.set_cons_zero, List.set_cons_succ]
  refine phase_take (i := 4) (v := .int .i64 ((d : Int) + 1)) rfl (by kernel_rfl) (by omega) (by kernel_rfl) (by kernel_rfl) (by kernel_rfl) (fun _ _ _ h => h) ⟨by rfl, fun wS hSw => by go_simp⟩ hSx ?_
  try simp only [Act.put, List.getElem_toArray, List.getElem_cons_succ, List.getElem_cons_zero, List.setIfInBounds_toArray, List.set_cons_zero, List.set_cons_succ]
  refine phase_one (i := 5) (by kernel_rfl) (by omega) rfl (by rfl) (fun K hK => ?_)
  go_simp
  refine (HE.out _ br n (aft n (signR [61]) (aft n nameR (.ok us.tail))) trivial (rr.ext (Ext.refl _).drew)).mono ?_
  rintro e' w3q1 ⟨⟨vsq1, rfl, ⟨opq1, numq1, textq1, kaq1, knq1, kcq1, at_q1, rfl⟩, hxq1⟩, r3q1, k3q1⟩
  have b3q1 := hSx.keep k3q1 (by simp; omega)
  have HXq1 := hid hxq1
  clear hxq1
  refine hK _ _ ⟨b3q1, ?_⟩
  clear hK K
  try simp only [Act.put, List.getElem_toArray, List.getElem_cons_succ, List.getElem_cons_zero, List.setIfInBounds_toArray, List.set_cons_zero, List.set_cons_succ]
  refine phase_one (i := 6) (by kernel_rfl) (by omega) rfl (by rfl) (fun K hK => ?_)
  go_simp
  refine hK _ _ ⟨b3q1.alloc _, ?_⟩
  clear hK K
  try simp only [Act.put, List.getElem_toArray, List.getElem_cons_succ, List.getElem_cons_zero, List.setIfInBounds_toArray, List.set_cons_zero, List.set_cons_succ]
  have own4q1 := (ownsRow_keep own ((Keep.refl [br] _).drew.trans' k3q1) (fun b hb _ hq => by simp only [List.mem_singleton] at hb; subst hb; have := (own.lt _ hq).1; omega)).alloc (.cells #[.int .i64 opq1, .int .i64 numq1, .string ⟨textq1.toArray⟩, .slice kaq1 knq1 kcq1, .int .i64 at_q1] 100)
  have sz3q1 := k3q1.size
  simp only [World.size_drew] at sz3q1
  refine phase_one (i := 7) (by kernel_rfl) (by omega) rfl (by rfl) (fun K hK => ?_)
  refine wp_append_lies _ (.tmp 24) (.tmp 29) 76 (by rfl) (w.heap.size + 2) 100 i0 (.agg #[.int .i64 0, .int .i64 0, .string ⟨#[]⟩, .slice none 0 0, .int .i64 0]) 5 64 Tryz.underlying76 hi0 hz0 hz1 hz2 rfl (by omega) (.slice none 0 0) 0 [] (by rfl) own4q1 ⟨w3q1.heap.size, 0, none⟩ 1 1
    [.int .i64 opq1, .int .i64 numq1, .string ⟨textq1.toArray⟩, .slice kaq1 knq1 kcq1, .int .i64 at_q1] (by rfl) (by rfl) (news_cells _ _ _ _ rfl) (by simp [Value.oneCell']) (by omega) (by simp only [maxLen]; omega) (by omega) (by simp; omega) (w3q1.heap.size + 1) (by simp) (fun gq1 capq1 w5q1 hown5q1 hgrq1 hatq1 hgltq1 => ?_)
  have lgq1 : w.heap.size + 2 ≤ gq1 := (hown5q1.lt gq1 rfl).1
  have lownq1 : ∀ q ∈ ownL (.slice none 0 0), w.heap.size + 2 ≤ q ∧ q < w4.heap.size := fun q hq => own.lt q (mem_ownL.1 hq)
  have kkq1 := Keep.grownBy hgrq1 (ownL (.slice none 0 0)) (fun k hk => mem_ownL.2 hk)
  have b5q1 := (b3q1.alloc (.cells #[.int .i64 opq1, .int .i64 numq1, .string ⟨textq1.toArray⟩, .slice kaq1 knq1 kcq1, .int .i64 at_q1] 100)).keep kkq1 (fun hq => by have := (lownq1 _ hq).1; omega)
  refine hK _ _ ⟨b5q1, ?_⟩
  clear hK K
  try simp only [Act.put, List.getElem_toArray, List.getElem_cons_succ, List.getElem_cons_zero, List.setIfInBounds_toArray, List.set_cons_zero, List.set_cons_succ]
  refine phase_take (i := 8) (v := .pointer (some ⟨w.heap.size + 1, 2, none⟩)) rfl (by kernel_rfl) (by omega) (by kernel_rfl) (by kernel_rfl) (by kernel_rfl) (fun _ _ _ h => h) ⟨by rfl, ?_⟩ (show Blk w5q1 (w.heap.size + 1) 78 [.int .i64 1, .string ⟨nb.toArray⟩, .slice none 0 0, .slice none 0 0, .slice none 0 0, .int .i64 p] from b5q1) ?_
  · intro wS hSw
    have s0 := Blk.cell hSw 2
    have sl := Blk.lt hSw
    simp only [List.getElem?_cons_zero, List.getElem?_cons_succ] at s0
    go_simp
  try simp only [Act.put, List.getElem_toArray, List.getElem_cons_succ, List.getElem_cons_zero, List.setIfInBounds_toArray, List.set_cons_zero, List.set_cons_succ]
  have c5q1 := b5q1.cell 2
  have f5q1 := b5q1.frozen 2
  have l5q1 := b5q1.lt
  simp only [List.getElem?_cons_zero, List.getElem?_cons_succ] at c5q1
  refine phase_late (i := 9) (by kernel_rfl) (by omega) rfl (by rfl) (fun K hK => ?_)
  go_simp
  refine hK _ _ ?_
  clear hK K
  try simp only [Act.put, List.getElem_toArray, List.getElem_cons_succ, List.getElem_cons_zero, List.setIfInBounds_toArray, List.set_cons_zero, List.set_cons_succ]
  have bX6q1 := b5q1.set 2 (.slice (some ⟨gq1, 0, none⟩) 1 capq1)
  simp only [List.set_cons_zero, List.set_cons_succ] at bX6q1
  have kSq1 := Keep.set w5q1 ⟨w.heap.size + 1, 2, none⟩ (.slice (some ⟨gq1, 0, none⟩) 1 capq1)
  have r6q1 := ((r3q1.ext ((Ext.refl _).alloc (.cells #[.int .i64 opq1, .int .i64 numq1, .string ⟨textq1.toArray⟩, .slice kaq1 knq1 kcq1, .int .i64 at_q1] 100))).keep kkq1 (fun q hq => by have := (lownq1 q hq).1; omega)).keep kSq1 (fun q hq => by simp only [List.mem_singleton] at hq; omega)
  have kAq1 : Keep (br :: (w.heap.size + 1) :: ownL (.slice none 0 0)) w4 (w5q1.setCell ⟨w.heap.size + 1, 2, none⟩ (.slice (some ⟨gq1, 0, none⟩) 1 capq1)) :=
    ((((Keep.refl _ _).drew.trans k3q1 (by simp)).alloc _).trans kkq1 (fun q hq => .inl (by simp [hq]))).trans kSq1 (by simp)
  have own6q1 := ownsRow_keep hown5q1 kSq1 (fun b hb _ hq => by simp only [List.mem_singleton] at hb; subst hb; simp only [Value.ownBlock, Option.some.injEq] at hq; omega)
  refine wpAny_done (by kernel_rfl) ?_ _
  clear c5q1 f5q1 hSx b3q1 own4q1
  have SM1 := B4.push (v := .slice none 0 0) r6q1 bX6q1 kAq1 (fun q hq => (lownq1 q hq).1)
  have HF1 : Hid (∀ x, Giv E (aft n (signR [61]) (aft n nameR (.ok us.tail))) x → ExIs _ (fun b => w4.heap.size ≤ b ∧ b < w3q1.heap.size) x [.int .i64 opq1, .int .i64 numq1, .string ⟨textq1.toArray⟩, .slice kaq1 knq1 kcq1, .int .i64 at_q1]) := fun x hg =>
    ExIs.carry (Carry.keep kSq1 (fun b hb _ hf => by simp only [List.mem_singleton] at hb; omega) (fun b _ hf => hf)) _ _ (ExIs.carry (Carry.keep kkq1 (fun b hb _ hf => by have := (lownq1 b hb).2; omega) (fun b _ hf => hf)) _ _ (ExIs.carry (Carry.keep (Keep.ofExt ((Ext.refl _).alloc (.cells #[.int .i64 opq1, .int .i64 numq1, .string ⟨textq1.toArray⟩, .slice kaq1 knq1 kcq1, .int .i64 at_q1] 100)) : Keep [] _ _) (G := fun b => w4.heap.size ≤ b ∧ b < w3q1.heap.size) (by simp) (fun b hlt hf => ⟨hf, hlt⟩)) _ _ (HXq1.out x hg)))
  have kQ1 := Keep.refl [br, w.heap.size, w.heap.size + 1] (w5q1.setCell ⟨w.heap.size + 1, 2, none⟩ (.slice (some ⟨gq1, 0, none⟩) 1 capq1))
  clear HXq1
  go_wp2_with fail
  refine (rMust_any _ br n _ SM1.rd [59]).mono ?_
  rintro e' w7 ⟨rfl, r7, k7⟩
  have B7 := SM1.call r7 k7
  have kQ := kQ1.trans k7 (by simp)
  have C7 := B7.loc
  obtain ⟨l0, l1, l2, l3, l4, l5, lf⟩ := C7.sixR
  obtain ⟨m0, m1, m2, m3, m4, m5, mf⟩ := B7.res.sixR
  have lr7 := B7.res.lt
  have bF := B7.res.put6 (.int .i64 1) (.string ⟨nb.toArray⟩) (.slice (some ⟨gq1, 0, none⟩) 1 capq1) (.slice none 0 0) (.slice none 0 0) (.int .i64 p)
  have kF := Keep.put6 w7 w.heap.size (.int .i64 1) (.string ⟨nb.toArray⟩) (.slice (some ⟨gq1, 0, none⟩) 1 capq1) (.slice none 0 0) (.slice none 0 0) (.int .i64 p)
  obtain ⟨x0, x1, x2, x3, x4, x5, _⟩ := bF.sixR
  have kQF := kQ.trans kF (by simp)
  have ownF := ownsRow_keep own6q1 kQF (fun b hb _ hq => by have := (own6q1.lt b hq).1; simp only [List.mem_cons, List.not_mem_nil, or_false] at hb; omega)
  go_wp2_with fail
  refine bodyPost_ret (v := .agg #[.int .i64 1, .string ⟨nb.toArray⟩, .slice (some ⟨gq1, 0, none⟩) 1 capq1, .slice none 0 0, .slice none 0 0, .int .i64 p]) (by simp [results, Tryz.results68, go_sem, x0, x1, x2, x3, x4, x5]) rfl ⟨⟨_, rfl, ⟨1, nb, _, 1, _, none, 0, 0, none, 0, 0, p, rfl⟩, fun x hg => ?_⟩, ?_, B7.keep.trans kF (by simp)⟩
  · obtain ⟨r, hg⟩ := giv_ok hg
    rw [HSQ.out] at hg
    have hg := show Giv (letR E (headPlace us)) (.ok us.tail) x from ⟨_, r, rfl, hg⟩
    obtain ⟨nm, g1, hg⟩ := giv_sq n hg
    obtain ⟨_, _, hg⟩ := giv_sq n hg
    obtain ⟨y, g2, hg⟩ := giv_sq n hg
    obtain ⟨_, _, hg⟩ := giv_sq n hg
    obtain rfl := giv_ret hg
    obtain rfl := HNM.out nm g1
    have hy := ExIs.carry (Carry.keep kQF (G := (w.heap.size ≤ ·)) (fun b hb _ hf => by have hf1 : w4.heap.size ≤ b := hf.1; simp only [List.mem_cons, List.not_mem_nil, or_false] at hb; omega) (fun b _ hf => by have hf1 : w4.heap.size ≤ b := hf.1; show w.heap.size ≤ b; omega)) _ _ (HF1.out y g2)
    simp only [StIs]
    exact ⟨_, _, _, by rw [HP.out, placeOf_sign HN0.out]; rfl, own_row1 ownF (fun b hb => by show w.heap.size ≤ b; omega) hy, st_row_none _ _ _ (by simp [StsIs]), st_row_none _ _ _ (by simp [StsIs])⟩
  · simp only [aft]
    rw [HSQ.out]
    show ReAt _ br n (aft n (letR E (headPlace us)) (.ok us.tail))
    rw [aft_let]
    exact B7.rd.keep kF (by simp; omega)
end Go.Proofs.YtaehlakefgnfmaaGreatDoor
