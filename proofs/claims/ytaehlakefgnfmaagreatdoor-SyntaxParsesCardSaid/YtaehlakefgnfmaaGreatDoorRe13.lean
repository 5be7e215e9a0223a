/-
  DERIVED. THE WALK of the document's reader's plain (printed by gen_re13.py).
-/
import Derived.Test.YtaehlakefgnfmaaGreatDoorRe11
namespace Go.Proofs.YtaehlakefgnfmaaGreatDoor
set_option linter.unusedSimpArgs false
set_option linter.unusedVariables false
set_option maxRecDepth 100000
open Go.RowKit

/-- The same in plain: the reader, the result's block, the statement's block. -/
structure PmAt (w0 w : World) (br n : Nat) (S : Rz) (cs : List Value) : Prop where
  rd : ReAt w br n S
  res : Blk w (w0.heap.size + 1) 78 [.int .i64 0, .string ⟨#[]⟩, .slice none 0 0, .slice none 0 0, .slice none 0 0, .int .i64 0]
  loc : Blk w (w0.heap.size) 78 cs
  keep : Keep [br] w0 w
  lt : br < w0.heap.size
theorem PmAt.call {w0 w w' : World} {br n : Nat} {S S' : Rz} {cs : List Value} (h : PmAt w0 w br n S cs) (r : ReAt w' br n S') (k : Keep [br] w w') : PmAt w0 w' br n S' cs :=
  ⟨r, h.res.keep k (by have := h.lt; simp; omega), h.loc.keep k (by have := h.lt; simp; omega), h.keep.trans' k, h.lt⟩
theorem PmAt.set {w0 w : World} {br n : Nat} {S : Rz} {cs : List Value} (h : PmAt w0 w br n S cs) (i : Nat) (v : Value) : PmAt w0 (w.setCell ⟨w0.heap.size, i, none⟩ v) br n S (cs.set i v) :=
  ⟨h.rd.set (by have := h.lt; omega) i v, h.res.setOther _ (by simp) v, h.loc.set i v, h.keep.setCell (.inr (by simp)) v, h.lt⟩
theorem PmAt.push {w0 w w' : World} {br n : Nat} {S S' : Rz} {cs cs' : List Value} {v : Value} (h : PmAt w0 w br n S cs) (r : ReAt w' br n S') (b : Blk w' (w0.heap.size) 78 cs') (k : Keep (br :: (w0.heap.size) :: ownL v) w w') (hv : ∀ q ∈ ownL v, w0.heap.size + 2 ≤ q) : PmAt w0 w' br n S' cs' :=
  ⟨r, h.res.keep k (fun hq => by
    have := h.lt
    simp only [List.mem_cons] at hq
    rcases hq with hq | hq | hq
    · omega
    · omega
    · have := hv _ hq; omega), b, h.keep.trans k (fun q hq => by
    simp only [List.mem_cons] at hq
    rcases hq with hq | hq | hq
    · exact .inl (by simp [hq])
    · right; omega
    · right; have := hv _ hq; omega), h.lt⟩
def doR (E : Rd Ex) (p : Nat) : Rd St := sqR E (fun x => sqR (signR [59]) (fun _ => retR (.mk 8 [] [x] [] [] p)))
theorem aft_doR {n : Nat} {E : Rd Ex} {p : Nat} {S : Rz} : aft n (doR E p) S = aft n (signR [59]) (aft n (E) (S)) :=
  aft_sq (F := fun S => aft n (signR [59]) (S)) (fun _ S => aft_sq (F := fun S => S) (fun _ S => aft_ret _ _ _) (fun _ _ => rfl)) (fun _ _ => rfl)
def setR (E : Rd Ex) (p : Nat) : Rd St := sqR nameR (fun nm => sqR (signR [61]) (fun _ => sqR E (fun x => sqR (signR [59]) (fun _ => retR (.mk 2 nm [x] [] [] p)))))
theorem aft_setR {n : Nat} {E : Rd Ex} {p : Nat} {S : Rz} : aft n (setR E p) S = aft n (signR [59]) (aft n (E) (aft n (signR [61]) (aft n (nameR) (S)))) :=
  aft_sq (F := fun S => aft n (signR [59]) (aft n (E) (aft n (signR [61]) (S)))) (fun _ S => aft_sq (F := fun S => aft n (signR [59]) (aft n (E) (S))) (fun _ S => aft_sq (F := fun S => aft n (signR [59]) (S)) (fun _ S => aft_sq (F := fun S => S) (fun _ S => aft_ret _ _ _) (fun _ _ => rfl)) (fun _ _ => rfl)) (fun _ _ => rfl)) (fun _ _ => rfl)
set_option maxHeartbeats 32000000 in
theorem rPlain_k (d : Nat) (hd0 : d ≤ 32) (E : Rd Ex) (hE : ExC Any 83 ((d : Int) + 1) E) (w : World) (br n : Nat) (t t' : Tok) (r : List Tok) (hr : ReAt w br n (.ok (t :: t' :: r))) (hk : t.kind ≠ 1) (p : Nat) :
    Calls Tryz.prog 84 #[.pointer (some ⟨br, 0, none⟩), .agg #[.int .i64 0, .string ⟨#[]⟩, .slice none 0 0, .slice none 0 0, .slice none 0 0, .int .i64 p], .int .i64 d] w (StPost w br n (.ok (t :: t' :: r)) (doR E p)) := by
  obtain ⟨i0, hi0, hz0, hz1, hz2⟩ := info_parts Tryz.infoExpr
  have hwr0 : IntKind.i64.wrap ((d : Int) + 1) = (d : Int) + 1 := IntWalk.i64_in _ (by omega)
  have HE := hid hE
  clear hE
  have hlt := hr.lt
  have B0 : PmAt w ((w.alloc (.cells #[.int .i64 8, .string ⟨#[]⟩, .slice none 0 0, .slice none 0 0, .slice none 0 0, .int .i64 p] 78)).alloc (.cells #[.int .i64 0, .string ⟨#[]⟩, .slice none 0 0, .slice none 0 0, .slice none 0 0, .int .i64 0] 78)) br n (.ok (t :: t' :: r)) [.int .i64 8, .string ⟨#[]⟩, .slice none 0 0, .slice none 0 0, .slice none 0 0, .int .i64 p] :=
    ⟨(hr.ext ((Ext.refl _).alloc _)).ext ((Ext.refl _).alloc _), by
      have := Blk.new (w.alloc (.cells #[.int .i64 8, .string ⟨#[]⟩, .slice none 0 0, .slice none 0 0, .slice none 0 0, .int .i64 p] 78)) 78 [.int .i64 0, .string ⟨#[]⟩, .slice none 0 0, .slice none 0 0, .slice none 0 0, .int .i64 0]
      rw [World.size_alloc] at this
      exact this, (Blk.new w 78 [.int .i64 8, .string ⟨#[]⟩, .slice none 0 0, .slice none 0 0, .slice none 0 0, .int .i64 p]).alloc _, ((Keep.refl _ _).alloc _).alloc _, hlt⟩
  obtain ⟨rto, hraw⟩ := hr.raw
  clear hraw
  obtain ⟨rto, hraw⟩ := B0.rd.raw
  obtain ⟨tb, toff, rlen, rcap, rk, q1, q2, q3, q4, q5, rb, d0, d1, d2, d3, _, hnx⟩ := hraw.cons
  obtain ⟨c0, c1, c2, c3, c4, cf⟩ := rb.fiveR
  obtain ⟨d5, d6⟩ := hnx t' r rfl
  have hk' : rlen = rk + 1 + (r.length + 1) := by have := q4; unfold Hid at this; simpa using this
  clear q4 hnx
  have hd : decide ((rk : Int) + 1 < (rlen : Int)) = true := by simp; omega
  have hdk : (rk : Int) + 1 < (rlen : Int) := by omega
  have hwk : IntKind.i64.wrap ((rk : Int) + 1) = (rk : Int) + 1 := IntWalk.i64_in _ (by omega)
  have htn : ((rk : Int) + 1).toNat = rk + 1 := by omega
  have hrk0 : (0 : Int) ≤ (rk : Int) + 1 := by omega
  clear hk'
  have hki : ((t.kind : Int) == 1) = false := by simp; omega
  go_enter Tryz.func84, Tryz.ntmps84
  go_wp2_with fail
  go_quiet (fail)
  have B1 := B0.call (B0.rd.drewN nq) (Keep.drewN' _ _ nq)
  clear c0 c1 c2 c3 c4 cf hd d0 d1 d2 d3 d5 d6 hki hdk hwk htn hrk0 hk
  have lwP := B1.res.lt
  have own : World.ownsRow (((w.alloc (.cells #[.int .i64 8, .string ⟨#[]⟩, .slice none 0 0, .slice none 0 0, .slice none 0 0, .int .i64 p] 78)).alloc (.cells #[.int .i64 0, .string ⟨#[]⟩, .slice none 0 0, .slice none 0 0, .slice none 0 0, .int .i64 0] 78)).drewN nq) (w.heap.size + 2) 100 5 (.slice none 0 0) 0 [] := World.ownsRow_nil _ _ _ _
  have lw1 := B1.loc.lt
  go_wp2_with fail
  have bX := B1.loc
  have rr := B1.rd
  have lX := B1.loc.lt
  have hwr : IntKind.i64.wrap ((d : Int) + 1) = (d : Int) + 1 := IntWalk.i64_in _ (by omega)
  have hSx : Blk (((w.alloc (.cells #[.int .i64 8, .string ⟨#[]⟩, .slice none 0 0, .slice none 0 0, .slice none 0 0, .int .i64 p] 78)).alloc (.cells #[.int .i64 0, .string ⟨#[]⟩, .slice none 0 0, .slice none 0 0, .slice none 0 0, .int .i64 0] 78)).drewN nq).drew (w.heap.size) 78 [.int .i64 8, .string ⟨#[]⟩, .slice none 0 0, .slice none 0 0, .slice none 0 0, .int .i64 p] := bX
  refine phase_begin (fun w' => Blk w' (w.heap.size) 78 [.int .i64 8, .string ⟨#[]⟩, .slice none 0 0, .slice none 0 0, .slice none 0 0, .int .i64 p]) 9 (by kernel_rfl) ?_
  refine phase_take (i := 0) (v := .pointer (some ⟨w.heap.size, 2, none⟩)) rfl (by kernel_rfl) (by omega) (by kernel_rfl) (by kernel_rfl) (by kernel_rfl) (fun _ _ _ h => h) ⟨by rfl, ?_⟩ hSx ?_
  · intro wS hSw
    have s0 := Blk.cell hSw 2
    have sl := Blk.lt hSw
    simp only [List.getElem?_cons_zero, List.getElem?_cons_succ] at s0
    go_simp
  try simp only [Act.put, List.getElem_toArray, List.getElem_cons_succ, List.getElem_cons_zero, List.setIfInBounds_toArray, List.set_cons_zero, List.set_cons_succ]
  refine phase_take (i := 1) (v := .slice none 0 0) rfl (by kernel_rfl) (by omega) (by kernel_rfl) (by kernel_rfl) (by kernel_rfl) (fun _ _ _ h => h) ⟨by rfl, ?_⟩ hSx ?_
  · intro wS hSw
    have s0 := Blk.cell hSw 2
    have sl := Blk.lt hSw
    simp only [List.getElem?_cons_zero, List.getElem?_cons_succ] at s0
    go_simp
  try simp only [Act.put, List.getElem_toArray, List.getElem_cons_succ, List.getElem_cons_zero, List.setIfInBounds_toArray, List.set_cons_zero, List.set_cons_succ]
  refine phase_take (i := 2) (v := .pointer (some ⟨br, 0, none⟩)) rfl (by kernel_rfl) (by omega) (by kernel_rfl) (by kernel_rfl) (by kernel_rfl) (fun _ _ _ h => h) ⟨by rfl, fun wS hSw => by go_simp⟩ hSx ?_
  try simp only [Act.put, List.getElem_toArray, List.getElem_cons_succ, List.getElem_cons_zero, List.setIfInBounds_toArray, List.set_cons_zero, List.set_cons_succ]
  refine phase_take (i := 3) (v := .int .i64 d) rfl (by kernel_rfl) (by omega) (by kernel_rfl) (by kernel_rfl) (by kernel_rfl) (fun _ _ _ h => h) ⟨by rfl, fun wS hSw => by go_simp⟩ hSx ?_
  try simp only [Act.put, List.getElem_toArray, List.getElem_cons_succ, List.getElem_cons_zero, List.setIfInBounds_toArray, List.set_cons_zero, List.set_cons_succ]
  refine phase_take (i := 4) (v := .int .i64 ((d : Int) + 1)) rfl (by kernel_rfl) (by omega) (by kernel_rfl) (by kernel_rfl) (by kernel_rfl) (fun _ _ _ h => h) ⟨by rfl, fun wS hSw => by go_simp⟩ hSx ?_
  try simp only [Act.put, List.getElem_toArray, List.getElem_cons_succ, List.getElem_cons_zero, List.setIfInBounds_toArray, List.set_cons_zero, List.set_cons_succ]
  refine phase_one (i := 5) (by kernel_rfl) (by omega) rfl (by rfl) (fun K hK => ?_)
  go_simp
  refine (HE.out _ br n (.ok (t :: t' :: r)) trivial (rr.ext (Ext.refl _).drew)).mono ?_
  rintro e' w3q1 ⟨⟨vsq1, rfl, ⟨opq1, numq1, textq1, kaq1, knq1, kcq1, at_q1, rfl⟩, hxq1⟩, r3q1, k3q1⟩
  have b3q1 := hSx.keep k3q1 (by simp; omega)
  have HXq1 := hid hxq1
  clear hxq1
  refine hK _ _ ⟨b3q1, ?_⟩
  clear hK K
  try simp only [Act.put, List.getElem_toArray, List.getElem_cons_succ, List.getElem_cons_zero, List.setIfInBounds_toArray, List.set_cons_zero, List.set_cons_succ]
  refine phase_one (i := 6) (by kernel_rfl) (by omega) rfl (by rfl) (fun K hK => ?_)
  go_simp
  refine hK _ _ ⟨b3q1.alloc _, ?_⟩
  clear hK K
  try simp only [Act.put, List.getElem_toArray, List.getElem_cons_succ, List.getElem_cons_zero, List.setIfInBounds_toArray, List.set_cons_zero, List.set_cons_succ]
  have own4q1 := (ownsRow_keep own ((Keep.refl [br] _).drew.trans' k3q1) (fun b hb _ hq => by simp only [List.mem_singleton] at hb; subst hb; have := (own.lt _ hq).1; omega)).alloc (.cells #[.int .i64 opq1, .int .i64 numq1, .string ⟨textq1.toArray⟩, .slice kaq1 knq1 kcq1, .int .i64 at_q1] 100)
  have sz3q1 := k3q1.size
  simp only [World.size_drew] at sz3q1
  refine phase_one (i := 7) (by kernel_rfl) (by omega) rfl (by rfl) (fun K hK => ?_)
  refine wp_append_lies _ (.tmp 78) (.tmp 83) 76 (by rfl) (w.heap.size + 2) 100 i0 (.agg #[.int .i64 0, .int .i64 0, .string ⟨#[]⟩, .slice none 0 0, .int .i64 0]) 5 64 Tryz.underlying76 hi0 hz0 hz1 hz2 rfl (by omega) (.slice none 0 0) 0 [] (by rfl) own4q1 ⟨w3q1.heap.size, 0, none⟩ 1 1
    [.int .i64 opq1, .int .i64 numq1, .string ⟨textq1.toArray⟩, .slice kaq1 knq1 kcq1, .int .i64 at_q1] (by rfl) (by rfl) (news_cells _ _ _ _ rfl) (by simp [Value.oneCell']) (by omega) (by simp only [maxLen]; omega) (by omega) (by simp; omega) (w3q1.heap.size + 1) (by simp) (fun gq1 capq1 w5q1 hown5q1 hgrq1 hatq1 hgltq1 => ?_)
  have lgq1 : w.heap.size + 2 ≤ gq1 := (hown5q1.lt gq1 rfl).1
  have lownq1 : ∀ q ∈ ownL (.slice none 0 0), w.heap.size + 2 ≤ q ∧ q < (((w.alloc (.cells #[.int .i64 8, .string ⟨#[]⟩, .slice none 0 0, .slice none 0 0, .slice none 0 0, .int .i64 p] 78)).alloc (.cells #[.int .i64 0, .string ⟨#[]⟩, .slice none 0 0, .slice none 0 0, .slice none 0 0, .int .i64 0] 78)).drewN nq).heap.size := fun q hq => own.lt q (mem_ownL.1 hq)
  have kkq1 := Keep.grownBy hgrq1 (ownL (.slice none 0 0)) (fun k hk => mem_ownL.2 hk)
  have b5q1 := (b3q1.alloc (.cells #[.int .i64 opq1, .int .i64 numq1, .string ⟨textq1.toArray⟩, .slice kaq1 knq1 kcq1, .int .i64 at_q1] 100)).keep kkq1 (fun hq => by have := (lownq1 _ hq).1; omega)
  refine hK _ _ ⟨b5q1, ?_⟩
  clear hK K
  try simp only [Act.put, List.getElem_toArray, List.getElem_cons_succ, List.getElem_cons_zero, List.setIfInBounds_toArray, List.set_cons_zero, List.set_cons_succ]
  refine phase_take (i := 8) (v := .pointer (some ⟨w.heap.size, 2, none⟩)) rfl (by kernel_rfl) (by omega) (by kernel_rfl) (by kernel_rfl) (by kernel_rfl) (fun _ _ _ h => h) ⟨by rfl, ?_⟩ (show Blk w5q1 (w.heap.size) 78 [.int .i64 8, .string ⟨#[]⟩, .slice none 0 0, .slice none 0 0, .slice none 0 0, .int .i64 p] from b5q1) ?_
  · intro wS hSw
    have s0 := Blk.cell hSw 2
    have sl := Blk.lt hSw
    simp only [List.getElem?_cons_zero, List.getElem?_cons_succ] at s0
    go_simp
  try simp only [Act.put, List.getElem_toArray, List.getElem_cons_succ, List.getElem_cons_zero, List.setIfInBounds_toArray, List.set_cons_zero, List.set_cons_succ]
  have c5q1 := b5q1.cell 2
  have f5q1 := b5q1.frozen 2
  have l5q1 := b5q1.lt
  simp only [List.getElem?_cons_zero, List.getElem?_cons_succ] at c5q1
  refine phase_late (i := 9) (by kernel_rfl) (by omega) rfl (by rfl) (fun K hK => ?_)
  go_simp
  refine hK _ _ ?_
  clear hK K
  try simp only [Act.put, List.getElem_toArray, List.getElem_cons_succ, List.getElem_cons_zero, List.setIfInBounds_toArray, List.set_cons_zero, List.set_cons_succ]
  have bX6q1 := b5q1.set 2 (.slice (some ⟨gq1, 0, none⟩) 1 capq1)
  simp only [List.set_cons_zero, List.set_cons_succ] at bX6q1
  have kSq1 := Keep.set w5q1 ⟨w.heap.size, 2, none⟩ (.slice (some ⟨gq1, 0, none⟩) 1 capq1)
  have r6q1 := ((r3q1.ext ((Ext.refl _).alloc (.cells #[.int .i64 opq1, .int .i64 numq1, .string ⟨textq1.toArray⟩, .slice kaq1 knq1 kcq1, .int .i64 at_q1] 100))).keep kkq1 (fun q hq => by have := (lownq1 q hq).1; omega)).keep kSq1 (fun q hq => by simp only [List.mem_singleton] at hq; omega)
  have kAq1 : Keep (br :: (w.heap.size) :: ownL (.slice none 0 0)) (((w.alloc (.cells #[.int .i64 8, .string ⟨#[]⟩, .slice none 0 0, .slice none 0 0, .slice none 0 0, .int .i64 p] 78)).alloc (.cells #[.int .i64 0, .string ⟨#[]⟩, .slice none 0 0, .slice none 0 0, .slice none 0 0, .int .i64 0] 78)).drewN nq) (w5q1.setCell ⟨w.heap.size, 2, none⟩ (.slice (some ⟨gq1, 0, none⟩) 1 capq1)) :=
    ((((Keep.refl _ _).drew.trans k3q1 (by simp)).alloc _).trans kkq1 (fun q hq => .inl (by simp [hq]))).trans kSq1 (by simp)
  have own6q1 := ownsRow_keep hown5q1 kSq1 (fun b hb _ hq => by simp only [List.mem_singleton] at hb; subst hb; simp only [Value.ownBlock, Option.some.injEq] at hq; omega)
  refine wpAny_done (by kernel_rfl) ?_ _
  clear c5q1 f5q1 hSx b3q1 own4q1
  have SM1 := B1.push (v := .slice none 0 0) r6q1 bX6q1 kAq1 (fun q hq => (lownq1 q hq).1)
  have HF1 : Hid (∀ x, Giv E (.ok (t :: t' :: r)) x → ExIs _ (fun b => (((w.alloc (.cells #[.int .i64 8, .string ⟨#[]⟩, .slice none 0 0, .slice none 0 0, .slice none 0 0, .int .i64 p] 78)).alloc (.cells #[.int .i64 0, .string ⟨#[]⟩, .slice none 0 0, .slice none 0 0, .slice none 0 0, .int .i64 0] 78)).drewN nq).heap.size ≤ b ∧ b < w3q1.heap.size) x [.int .i64 opq1, .int .i64 numq1, .string ⟨textq1.toArray⟩, .slice kaq1 knq1 kcq1, .int .i64 at_q1]) := fun x hg =>
    ExIs.carry (Carry.keep kSq1 (fun b hb _ hf => by simp only [List.mem_singleton] at hb; omega) (fun b _ hf => hf)) _ _ (ExIs.carry (Carry.keep kkq1 (fun b hb _ hf => by have := (lownq1 b hb).2; omega) (fun b _ hf => hf)) _ _ (ExIs.carry (Carry.keep (Keep.ofExt ((Ext.refl _).alloc (.cells #[.int .i64 opq1, .int .i64 numq1, .string ⟨textq1.toArray⟩, .slice kaq1 knq1 kcq1, .int .i64 at_q1] 100)) : Keep [] _ _) (G := fun b => (((w.alloc (.cells #[.int .i64 8, .string ⟨#[]⟩, .slice none 0 0, .slice none 0 0, .slice none 0 0, .int .i64 p] 78)).alloc (.cells #[.int .i64 0, .string ⟨#[]⟩, .slice none 0 0, .slice none 0 0, .slice none 0 0, .int .i64 0] 78)).drewN nq).heap.size ≤ b ∧ b < w3q1.heap.size) (by simp) (fun b hlt hf => ⟨hf, hlt⟩)) _ _ (HXq1.out x hg)))
  have kQ1 := Keep.refl [br, (w.heap.size + 1), w.heap.size] (w5q1.setCell ⟨w.heap.size, 2, none⟩ (.slice (some ⟨gq1, 0, none⟩) 1 capq1))
  clear HXq1
  have kO1 := Keep.refl [br, (w.heap.size + 1), w.heap.size] (w5q1.setCell ⟨w.heap.size, 2, none⟩ (.slice (some ⟨gq1, 0, none⟩) 1 capq1))
  have kQ1 := Keep.refl [br, w.heap.size, gq1, (w.heap.size + 1)] (w5q1.setCell ⟨w.heap.size, 2, none⟩ (.slice (some ⟨gq1, 0, none⟩) 1 capq1))
  go_wp2_with fail
  refine (rMust_any _ br n _ SM1.rd [59]).mono ?_
  rintro e' w1m ⟨rfl, rN1, kN1⟩
  have C2 := SM1.call rN1 kN1
  have kQ1 := kQ1.trans kN1 (by simp)
  have kO1 := kO1.trans kN1 (by simp)
  obtain ⟨l0, l1, l2, l3, l4, l5, lf⟩ := C2.loc.sixR
  obtain ⟨m0, m1, m2, m3, m4, m5, mf⟩ := C2.res.sixR
  have lr7 := C2.res.lt
  have lr8 := C2.loc.lt
  have bF := C2.res.put6 (.int .i64 8) (.string ⟨#[]⟩) (.slice (some ⟨gq1, 0, none⟩) 1 capq1) (.slice none 0 0) (.slice none 0 0) (.int .i64 p)
  have kF := Keep.put6 w1m (w.heap.size + 1) (.int .i64 8) (.string ⟨#[]⟩) (.slice (some ⟨gq1, 0, none⟩) 1 capq1) (.slice none 0 0) (.slice none 0 0) (.int .i64 p)
  obtain ⟨x0, x1, x2, x3, x4, x5, _⟩ := bF.sixR
  have kQ1 := kQ1.trans kF (by simp)
  have kO1 := kO1.trans kF (by simp)
  go_wp2_with fail
  refine bodyPost_ret (v := .agg #[.int .i64 8, .string ⟨#[]⟩, .slice (some ⟨gq1, 0, none⟩) 1 capq1, .slice none 0 0, .slice none 0 0, .int .i64 p]) (by simp [results, Tryz.results84, go_sem, x0, x1, x2, x3, x4, x5]) rfl ⟨⟨_, rfl, ⟨8, [], _, 1, _, none, 0, 0, none, 0, 0, p, rfl⟩, fun x hg => ?_⟩, ?_, C2.keep.trans kF (by simp)⟩
  · obtain ⟨y1, g1, hg⟩ := giv_sq n (show Giv (sqR E _) (.ok (t :: t' :: r)) x from hg)
    obtain ⟨_, _, hg⟩ := giv_sq n hg
    obtain rfl := giv_ret hg
    have ownF := ownsRow_keep own6q1 kO1 (fun b hb _ hq => by have := (own6q1.lt b hq).1; simp only [List.mem_cons, List.not_mem_nil, or_false] at hb; omega)
    have hdsz : w.heap.size + 2 ≤ ((((w.alloc (.cells #[.int .i64 8, .string ⟨#[]⟩, .slice none 0 0, .slice none 0 0, .slice none 0 0, .int .i64 p] 78)).alloc (.cells #[.int .i64 0, .string ⟨#[]⟩, .slice none 0 0, .slice none 0 0, .slice none 0 0, .int .i64 0] 78)).drewN nq)).heap.size := by have := lwP; omega
    have hy1 := ExIs.carry (Carry.keep kQ1 (G := (w.heap.size ≤ ·)) (fun b hb hlt hf => by have hf1 : ((((w.alloc (.cells #[.int .i64 8, .string ⟨#[]⟩, .slice none 0 0, .slice none 0 0, .slice none 0 0, .int .i64 p] 78)).alloc (.cells #[.int .i64 0, .string ⟨#[]⟩, .slice none 0 0, .slice none 0 0, .slice none 0 0, .int .i64 0] 78)).drewN nq)).heap.size ≤ b := hf.1; have hf2 := hf.2; simp only [List.mem_cons, List.not_mem_nil, or_false] at hb; (first | omega | (rcases hatq1 with h | h <;> first | omega | (simp [Value.ownBlock] at h)))) (fun b _ hf => by have hf1 : ((((w.alloc (.cells #[.int .i64 8, .string ⟨#[]⟩, .slice none 0 0, .slice none 0 0, .slice none 0 0, .int .i64 p] 78)).alloc (.cells #[.int .i64 0, .string ⟨#[]⟩, .slice none 0 0, .slice none 0 0, .slice none 0 0, .int .i64 0] 78)).drewN nq)).heap.size ≤ b := hf.1; show w.heap.size ≤ b; omega)) _ _ (HF1.out y1 g1)
    simp only [StIs]
    exact ⟨_, _, _, rfl, own_row1 ownF (fun b hb => by show w.heap.size ≤ b; omega) hy1, st_row_none _ _ _ (by simp [StsIs]), st_row_none _ _ _ (by simp [StsIs])⟩
  · rw [aft_doR]
    exact C2.rd.keep kF (by simp; omega)
set_option maxHeartbeats 32000000 in
theorem rPlain_k2 (d : Nat) (hd0 : d ≤ 32) (E : Rd Ex) (hE : ExC Any 83 ((d : Int) + 1) E) (w : World) (br n : Nat) (t t' : Tok) (r : List Tok) (hr : ReAt w br n (.ok (t :: t' :: r))) (hk : t.kind = 1) (hk2 : t'.kind ≠ 4) (p : Nat) :
    Calls Tryz.prog 84 #[.pointer (some ⟨br, 0, none⟩), .agg #[.int .i64 0, .string ⟨#[]⟩, .slice none 0 0, .slice none 0 0, .slice none 0 0, .int .i64 p], .int .i64 d] w (StPost w br n (.ok (t :: t' :: r)) (doR E p)) := by
  obtain ⟨i0, hi0, hz0, hz1, hz2⟩ := info_parts Tryz.infoExpr
  have hwr0 : IntKind.i64.wrap ((d : Int) + 1) = (d : Int) + 1 := IntWalk.i64_in _ (by omega)
  have HE := hid hE
  clear hE
  have hlt := hr.lt
  have B0 : PmAt w ((w.alloc (.cells #[.int .i64 8, .string ⟨#[]⟩, .slice none 0 0, .slice none 0 0, .slice none 0 0, .int .i64 p] 78)).alloc (.cells #[.int .i64 0, .string ⟨#[]⟩, .slice none 0 0, .slice none 0 0, .slice none 0 0, .int .i64 0] 78)) br n (.ok (t :: t' :: r)) [.int .i64 8, .string ⟨#[]⟩, .slice none 0 0, .slice none 0 0, .slice none 0 0, .int .i64 p] :=
    ⟨(hr.ext ((Ext.refl _).alloc _)).ext ((Ext.refl _).alloc _), by
      have := Blk.new (w.alloc (.cells #[.int .i64 8, .string ⟨#[]⟩, .slice none 0 0, .slice none 0 0, .slice none 0 0, .int .i64 p] 78)) 78 [.int .i64 0, .string ⟨#[]⟩, .slice none 0 0, .slice none 0 0, .slice none 0 0, .int .i64 0]
      rw [World.size_alloc] at this
      exact this, (Blk.new w 78 [.int .i64 8, .string ⟨#[]⟩, .slice none 0 0, .slice none 0 0, .slice none 0 0, .int .i64 p]).alloc _, ((Keep.refl _ _).alloc _).alloc _, hlt⟩
  obtain ⟨rto, hraw⟩ := hr.raw
  clear hraw
  obtain ⟨rto, hraw⟩ := B0.rd.raw
  obtain ⟨tb, toff, rlen, rcap, rk, q1, q2, q3, q4, q5, rb, d0, d1, d2, d3, _, hnx⟩ := hraw.cons
  obtain ⟨c0, c1, c2, c3, c4, cf⟩ := rb.fiveR
  obtain ⟨d5, d6⟩ := hnx t' r rfl
  have hk' : rlen = rk + 1 + (r.length + 1) := by have := q4; unfold Hid at this; simpa using this
  clear q4 hnx
  have hd : decide ((rk : Int) + 1 < (rlen : Int)) = true := by simp; omega
  have hdk : (rk : Int) + 1 < (rlen : Int) := by omega
  have hwk : IntKind.i64.wrap ((rk : Int) + 1) = (rk : Int) + 1 := IntWalk.i64_in _ (by omega)
  have htn : ((rk : Int) + 1).toNat = rk + 1 := by omega
  have hrk0 : (0 : Int) ≤ (rk : Int) + 1 := by omega
  clear hk'
  have hki : ((t.kind : Int) == 1) = true := by rw [hk]; rfl
  have hki2 : ((t'.kind : Int) == 4) = false := by simp; omega
  go_enter Tryz.func84, Tryz.ntmps84
  go_wp2_with fail
  go_quiet (fail)
  have B1 := B0.call (B0.rd.drewN nq) (Keep.drewN' _ _ nq)
  clear c0 c1 c2 c3 c4 cf hd d0 d1 d2 d3 d5 d6 hki hki2 hdk hwk htn hrk0 hk hk2
  have lwP := B1.res.lt
  have own : World.ownsRow (((w.alloc (.cells #[.int .i64 8, .string ⟨#[]⟩, .slice none 0 0, .slice none 0 0, .slice none 0 0, .int .i64 p] 78)).alloc (.cells #[.int .i64 0, .string ⟨#[]⟩, .slice none 0 0, .slice none 0 0, .slice none 0 0, .int .i64 0] 78)).drewN nq) (w.heap.size + 2) 100 5 (.slice none 0 0) 0 [] := World.ownsRow_nil _ _ _ _
  have lw1 := B1.loc.lt
  go_wp2_with fail
  have bX := B1.loc
  have rr := B1.rd
  have lX := B1.loc.lt
  have hwr : IntKind.i64.wrap ((d : Int) + 1) = (d : Int) + 1 := IntWalk.i64_in _ (by omega)
  have hSx : Blk (((w.alloc (.cells #[.int .i64 8, .string ⟨#[]⟩, .slice none 0 0, .slice none 0 0, .slice none 0 0, .int .i64 p] 78)).alloc (.cells #[.int .i64 0, .string ⟨#[]⟩, .slice none 0 0, .slice none 0 0, .slice none 0 0, .int .i64 0] 78)).drewN nq).drew (w.heap.size) 78 [.int .i64 8, .string ⟨#[]⟩, .slice none 0 0, .slice none 0 0, .slice none 0 0, .int .i64 p] := bX
  refine phase_begin (fun w' => Blk w' (w.heap.size) 78 [.int .i64 8, .string ⟨#[]⟩, .slice none 0 0, .slice none 0 0, .slice none 0 0, .int .i64 p]) 9 (by kernel_rfl) ?_
  refine phase_take (i := 0) (v := .pointer (some ⟨w.heap.size, 2, none⟩)) rfl (by kernel_rfl) (by omega) (by kernel_rfl) (by kernel_rfl) (by kernel_rfl) (fun _ _ _ h => h) ⟨by rfl, ?_⟩ hSx ?_
  · intro wS hSw
    have s0 := Blk.cell hSw 2
    have sl := Blk.lt hSw
    simp only [List.getElem?_cons_zero, List.getElem?_cons_succ] at s0
    go_simp
  try simp only [Act.put, List.getElem_toArray, List.getElem_cons_succ, List.getElem_cons_zero, List.setIfInBounds_toArray, List.set_cons_zero, List.set_cons_succ]
  refine phase_take (i := 1) (v := .slice none 0 0) rfl (by kernel_rfl) (by omega) (by kernel_rfl) (by kernel_rfl) (by kernel_rfl) (fun _ _ _ h => h) ⟨by rfl, ?_⟩ hSx ?_
  · intro wS hSw
    have s0 := Blk.cell hSw 2
    have sl := Blk.lt hSw
    simp only [List.getElem?_cons_zero, List.getElem?_cons_succ] at s0
    go_simp
  try simp only [Act.put, List.getElem_toArray, List.getElem_cons_succ, List.getElem_cons_zero, List.setIfInBounds_toArray, List.set_cons_zero, List.set_cons_succ]
  refine phase_take (i := 2) (v := .pointer (some ⟨br, 0, none⟩)) rfl (by kernel_rfl) (by omega) (by kernel_rfl) (by kernel_rfl) (by kernel_rfl) (fun _ _ _ h => h) ⟨by rfl, fun wS hSw => by go_simp⟩ hSx ?_
  try simp only [Act.put, List.getElem_toArray, List.getElem_cons_succ, List.getElem_cons_zero, List.setIfInBounds_toArray, List.set_cons_zero, List.set_cons_succ]
  refine phase_take (i := 3) (v := .int .i64 d) rfl (by kernel_rfl) (by omega) (by kernel_rfl) (by kernel_rfl) (by kernel_rfl) (fun _ _ _ h => h) ⟨by rfl, fun wS hSw => by go_simp⟩ hSx ?_
  try simp only [Act.put, List.getElem_toArray, List.getElem_cons_succ, List.getElem_cons_zero, List.setIfInBounds_toArray, List.set_cons_zero, List.set_cons_succ]
  refine phase_take (i := 4) (v := .int .i64 ((d : Int) + 1)) rfl (by kernel_rfl) (by omega) (by kernel_rfl) (by kernel_rfl) (by kernel_rfl) (fun _ _ _ h => h) ⟨by rfl, fun wS hSw => by go_simp⟩ hSx ?_
  try simp only [Act.put, List.getElem_toArray, List.getElem_cons_succ, List.getElem_cons_zero, List.setIfInBounds_toArray, List.set_cons_zero, List.set_cons_succ]
  refine phase_one (i := 5) (by kernel_rfl) (by omega) rfl (by rfl) (fun K hK => ?_)
  go_simp
  refine (HE.out _ br n (.ok (t :: t' :: r)) trivial (rr.ext (Ext.refl _).drew)).mono ?_
  rintro e' w3q1 ⟨⟨vsq1, rfl, ⟨opq1, numq1, textq1, kaq1, knq1, kcq1, at_q1, rfl⟩, hxq1⟩, r3q1, k3q1⟩
  have b3q1 := hSx.keep k3q1 (by simp; omega)
  have HXq1 := hid hxq1
  clear hxq1
  refine hK _ _ ⟨b3q1, ?_⟩
  clear hK K
  try simp only [Act.put, List.getElem_toArray, List.getElem_cons_succ, List.getElem_cons_zero, List.setIfInBounds_toArray, List.set_cons_zero, List.set_cons_succ]
  refine phase_one (i := 6) (by kernel_rfl) (by omega) rfl (by rfl) (fun K hK => ?_)
  go_simp
  refine hK _ _ ⟨b3q1.alloc _, ?_⟩
  clear hK K
  try simp only [Act.put, List.getElem_toArray, List.getElem_cons_succ, List.getElem_cons_zero, List.setIfInBounds_toArray, List.set_cons_zero, List.set_cons_succ]
  have own4q1 := (ownsRow_keep own ((Keep.refl [br] _).drew.trans' k3q1) (fun b hb _ hq => by simp only [List.mem_singleton] at hb; subst hb; have := (own.lt _ hq).1; omega)).alloc (.cells #[.int .i64 opq1, .int .i64 numq1, .string ⟨textq1.toArray⟩, .slice kaq1 knq1 kcq1, .int .i64 at_q1] 100)
  have sz3q1 := k3q1.size
  simp only [World.size_drew] at sz3q1
  refine phase_one (i := 7) (by kernel_rfl) (by omega) rfl (by rfl) (fun K hK => ?_)
  refine wp_append_lies _ (.tmp 78) (.tmp 83) 76 (by rfl) (w.heap.size + 2) 100 i0 (.agg #[.int .i64 0, .int .i64 0, .string ⟨#[]⟩, .slice none 0 0, .int .i64 0]) 5 64 Tryz.underlying76 hi0 hz0 hz1 hz2 rfl (by omega) (.slice none 0 0) 0 [] (by rfl) own4q1 ⟨w3q1.heap.size, 0, none⟩ 1 1
    [.int .i64 opq1, .int .i64 numq1, .string ⟨textq1.toArray⟩, .slice kaq1 knq1 kcq1, .int .i64 at_q1] (by rfl) (by rfl) (news_cells _ _ _ _ rfl) (by simp [Value.oneCell']) (by omega) (by simp only [maxLen]; omega) (by omega) (by simp; omega) (w3q1.heap.size + 1) (by simp) (fun gq1 capq1 w5q1 hown5q1 hgrq1 hatq1 hgltq1 => ?_)
  have lgq1 : w.heap.size + 2 ≤ gq1 := (hown5q1.lt gq1 rfl).1
  have lownq1 : ∀ q ∈ ownL (.slice none 0 0), w.heap.size + 2 ≤ q ∧ q < (((w.alloc (.cells #[.int .i64 8, .string ⟨#[]⟩, .slice none 0 0, .slice none 0 0, .slice none 0 0, .int .i64 p] 78)).alloc (.cells #[.int .i64 0, .string ⟨#[]⟩, .slice none 0 0, .slice none 0 0, .slice none 0 0, .int .i64 0] 78)).drewN nq).heap.size := fun q hq => own.lt q (mem_ownL.1 hq)
  have kkq1 := Keep.grownBy hgrq1 (ownL (.slice none 0 0)) (fun k hk => mem_ownL.2 hk)
  have b5q1 := (b3q1.alloc (.cells #[.int .i64 opq1, .int .i64 numq1, .string ⟨textq1.toArray⟩, .slice kaq1 knq1 kcq1, .int .i64 at_q1] 100)).keep kkq1 (fun hq => by have := (lownq1 _ hq).1; omega)
  refine hK _ _ ⟨b5q1, ?_⟩
  clear hK K
  try simp only [Act.put, List.getElem_toArray, List.getElem_cons_succ, List.getElem_cons_zero, List.setIfInBounds_toArray, List.set_cons_zero, List.set_cons_succ]
  refine phase_take (i := 8) (v := .pointer (some ⟨w.heap.size, 2, none⟩)) rfl (by kernel_rfl) (by omega) (by kernel_rfl) (by kernel_rfl) (by kernel_rfl) (fun _ _ _ h => h) ⟨by rfl, ?_⟩ (show Blk w5q1 (w.heap.size) 78 [.int .i64 8, .string ⟨#[]⟩, .slice none 0 0, .slice none 0 0, .slice none 0 0, .int .i64 p] from b5q1) ?_
  · intro wS hSw
    have s0 := Blk.cell hSw 2
    have sl := Blk.lt hSw
    simp only [List.getElem?_cons_zero, List.getElem?_cons_succ] at s0
    go_simp
  try simp only [Act.put, List.getElem_toArray, List.getElem_cons_succ, List.getElem_cons_zero, List.setIfInBounds_toArray, List.set_cons_zero, List.set_cons_succ]
  have c5q1 := b5q1.cell 2
  have f5q1 := b5q1.frozen 2
  have l5q1 := b5q1.lt
  simp only [List.getElem?_cons_zero, List.getElem?_cons_succ] at c5q1
  refine phase_late (i := 9) (by kernel_rfl) (by omega) rfl (by rfl) (fun K hK => ?_)
  go_simp
  refine hK _ _ ?_
  clear hK K
  try simp only [Act.put, List.getElem_toArray, List.getElem_cons_succ, List.getElem_cons_zero, List.setIfInBounds_toArray, List.set_cons_zero, List.set_cons_succ]
  have bX6q1 := b5q1.set 2 (.slice (some ⟨gq1, 0, none⟩) 1 capq1)
  simp only [List.set_cons_zero, List.set_cons_succ] at bX6q1
  have kSq1 := Keep.set w5q1 ⟨w.heap.size, 2, none⟩ (.slice (some ⟨gq1, 0, none⟩) 1 capq1)
  have r6q1 := ((r3q1.ext ((Ext.refl _).alloc (.cells #[.int .i64 opq1, .int .i64 numq1, .string ⟨textq1.toArray⟩, .slice kaq1 knq1 kcq1, .int .i64 at_q1] 100))).keep kkq1 (fun q hq => by have := (lownq1 q hq).1; omega)).keep kSq1 (fun q hq => by simp only [List.mem_singleton] at hq; omega)
  have kAq1 : Keep (br :: (w.heap.size) :: ownL (.slice none 0 0)) (((w.alloc (.cells #[.int .i64 8, .string ⟨#[]⟩, .slice none 0 0, .slice none 0 0, .slice none 0 0, .int .i64 p] 78)).alloc (.cells #[.int .i64 0, .string ⟨#[]⟩, .slice none 0 0, .slice none 0 0, .slice none 0 0, .int .i64 0] 78)).drewN nq) (w5q1.setCell ⟨w.heap.size, 2, none⟩ (.slice (some ⟨gq1, 0, none⟩) 1 capq1)) :=
    ((((Keep.refl _ _).drew.trans k3q1 (by simp)).alloc _).trans kkq1 (fun q hq => .inl (by simp [hq]))).trans kSq1 (by simp)
  have own6q1 := ownsRow_keep hown5q1 kSq1 (fun b hb _ hq => by simp only [List.mem_singleton] at hb; subst hb; simp only [Value.ownBlock, Option.some.injEq] at hq; omega)
  refine wpAny_done (by kernel_rfl) ?_ _
  clear c5q1 f5q1 hSx b3q1 own4q1
  have SM1 := B1.push (v := .slice none 0 0) r6q1 bX6q1 kAq1 (fun q hq => (lownq1 q hq).1)
  have HF1 : Hid (∀ x, Giv E (.ok (t :: t' :: r)) x → ExIs _ (fun b => (((w.alloc (.cells #[.int .i64 8, .string ⟨#[]⟩, .slice none 0 0, .slice none 0 0, .slice none 0 0, .int .i64 p] 78)).alloc (.cells #[.int .i64 0, .string ⟨#[]⟩, .slice none 0 0, .slice none 0 0, .slice none 0 0, .int .i64 0] 78)).drewN nq).heap.size ≤ b ∧ b < w3q1.heap.size) x [.int .i64 opq1, .int .i64 numq1, .string ⟨textq1.toArray⟩, .slice kaq1 knq1 kcq1, .int .i64 at_q1]) := fun x hg =>
    ExIs.carry (Carry.keep kSq1 (fun b hb _ hf => by simp only [List.mem_singleton] at hb; omega) (fun b _ hf => hf)) _ _ (ExIs.carry (Carry.keep kkq1 (fun b hb _ hf => by have := (lownq1 b hb).2; omega) (fun b _ hf => hf)) _ _ (ExIs.carry (Carry.keep (Keep.ofExt ((Ext.refl _).alloc (.cells #[.int .i64 opq1, .int .i64 numq1, .string ⟨textq1.toArray⟩, .slice kaq1 knq1 kcq1, .int .i64 at_q1] 100)) : Keep [] _ _) (G := fun b => (((w.alloc (.cells #[.int .i64 8, .string ⟨#[]⟩, .slice none 0 0, .slice none 0 0, .slice none 0 0, .int .i64 p] 78)).alloc (.cells #[.int .i64 0, .string ⟨#[]⟩, .slice none 0 0, .slice none 0 0, .slice none 0 0, .int .i64 0] 78)).drewN nq).heap.size ≤ b ∧ b < w3q1.heap.size) (by simp) (fun b hlt hf => ⟨hf, hlt⟩)) _ _ (HXq1.out x hg)))
  have kQ1 := Keep.refl [br, (w.heap.size + 1), w.heap.size] (w5q1.setCell ⟨w.heap.size, 2, none⟩ (.slice (some ⟨gq1, 0, none⟩) 1 capq1))
  clear HXq1
  have kO1 := Keep.refl [br, (w.heap.size + 1), w.heap.size] (w5q1.setCell ⟨w.heap.size, 2, none⟩ (.slice (some ⟨gq1, 0, none⟩) 1 capq1))
  have kQ1 := Keep.refl [br, w.heap.size, gq1, (w.heap.size + 1)] (w5q1.setCell ⟨w.heap.size, 2, none⟩ (.slice (some ⟨gq1, 0, none⟩) 1 capq1))
  go_wp2_with fail
  refine (rMust_any _ br n _ SM1.rd [59]).mono ?_
  rintro e' w1m ⟨rfl, rN1, kN1⟩
  have C2 := SM1.call rN1 kN1
  have kQ1 := kQ1.trans kN1 (by simp)
  have kO1 := kO1.trans kN1 (by simp)
  obtain ⟨l0, l1, l2, l3, l4, l5, lf⟩ := C2.loc.sixR
  obtain ⟨m0, m1, m2, m3, m4, m5, mf⟩ := C2.res.sixR
  have lr7 := C2.res.lt
  have lr8 := C2.loc.lt
  have bF := C2.res.put6 (.int .i64 8) (.string ⟨#[]⟩) (.slice (some ⟨gq1, 0, none⟩) 1 capq1) (.slice none 0 0) (.slice none 0 0) (.int .i64 p)
  have kF := Keep.put6 w1m (w.heap.size + 1) (.int .i64 8) (.string ⟨#[]⟩) (.slice (some ⟨gq1, 0, none⟩) 1 capq1) (.slice none 0 0) (.slice none 0 0) (.int .i64 p)
  obtain ⟨x0, x1, x2, x3, x4, x5, _⟩ := bF.sixR
  have kQ1 := kQ1.trans kF (by simp)
  have kO1 := kO1.trans kF (by simp)
  go_wp2_with fail
  refine bodyPost_ret (v := .agg #[.int .i64 8, .string ⟨#[]⟩, .slice (some ⟨gq1, 0, none⟩) 1 capq1, .slice none 0 0, .slice none 0 0, .int .i64 p]) (by simp [results, Tryz.results84, go_sem, x0, x1, x2, x3, x4, x5]) rfl ⟨⟨_, rfl, ⟨8, [], _, 1, _, none, 0, 0, none, 0, 0, p, rfl⟩, fun x hg => ?_⟩, ?_, C2.keep.trans kF (by simp)⟩
  · obtain ⟨y1, g1, hg⟩ := giv_sq n (show Giv (sqR E _) (.ok (t :: t' :: r)) x from hg)
    obtain ⟨_, _, hg⟩ := giv_sq n hg
    obtain rfl := giv_ret hg
    have ownF := ownsRow_keep own6q1 kO1 (fun b hb _ hq => by have := (own6q1.lt b hq).1; simp only [List.mem_cons, List.not_mem_nil, or_false] at hb; omega)
    have hdsz : w.heap.size + 2 ≤ ((((w.alloc (.cells #[.int .i64 8, .string ⟨#[]⟩, .slice none 0 0, .slice none 0 0, .slice none 0 0, .int .i64 p] 78)).alloc (.cells #[.int .i64 0, .string ⟨#[]⟩, .slice none 0 0, .slice none 0 0, .slice none 0 0, .int .i64 0] 78)).drewN nq)).heap.size := by have := lwP; omega
    have hy1 := ExIs.carry (Carry.keep kQ1 (G := (w.heap.size ≤ ·)) (fun b hb hlt hf => by have hf1 : ((((w.alloc (.cells #[.int .i64 8, .string ⟨#[]⟩, .slice none 0 0, .slice none 0 0, .slice none 0 0, .int .i64 p] 78)).alloc (.cells #[.int .i64 0, .string ⟨#[]⟩, .slice none 0 0, .slice none 0 0, .slice none 0 0, .int .i64 0] 78)).drewN nq)).heap.size ≤ b := hf.1; have hf2 := hf.2; simp only [List.mem_cons, List.not_mem_nil, or_false] at hb; (first | omega | (rcases hatq1 with h | h <;> first | omega | (simp [Value.ownBlock] at h)))) (fun b _ hf => by have hf1 : ((((w.alloc (.cells #[.int .i64 8, .string ⟨#[]⟩, .slice none 0 0, .slice none 0 0, .slice none 0 0, .int .i64 p] 78)).alloc (.cells #[.int .i64 0, .string ⟨#[]⟩, .slice none 0 0, .slice none 0 0, .slice none 0 0, .int .i64 0] 78)).drewN nq)).heap.size ≤ b := hf.1; show w.heap.size ≤ b; omega)) _ _ (HF1.out y1 g1)
    simp only [StIs]
    exact ⟨_, _, _, rfl, own_row1 ownF (fun b hb => by show w.heap.size ≤ b; omega) hy1, st_row_none _ _ _ (by simp [StsIs]), st_row_none _ _ _ (by simp [StsIs])⟩
  · rw [aft_doR]
    exact C2.rd.keep kF (by simp; omega)
set_option maxHeartbeats 32000000 in
theorem rPlain_k3 (d : Nat) (hd0 : d ≤ 32) (E : Rd Ex) (hE : ExC Any 83 ((d : Int) + 1) E) (w : World) (br n : Nat) (t t' : Tok) (r : List Tok) (hr : ReAt w br n (.ok (t :: t' :: r))) (hk : t.kind = 1) (hk2 : t'.kind = 4) (hx : (t'.text == [61]) = false) (p : Nat) :
    Calls Tryz.prog 84 #[.pointer (some ⟨br, 0, none⟩), .agg #[.int .i64 0, .string ⟨#[]⟩, .slice none 0 0, .slice none 0 0, .slice none 0 0, .int .i64 p], .int .i64 d] w (StPost w br n (.ok (t :: t' :: r)) (doR E p)) := by
  obtain ⟨i0, hi0, hz0, hz1, hz2⟩ := info_parts Tryz.infoExpr
  have hwr0 : IntKind.i64.wrap ((d : Int) + 1) = (d : Int) + 1 := IntWalk.i64_in _ (by omega)
  have HE := hid hE
  clear hE
  have hlt := hr.lt
  have B0 : PmAt w ((w.alloc (.cells #[.int .i64 8, .string ⟨#[]⟩, .slice none 0 0, .slice none 0 0, .slice none 0 0, .int .i64 p] 78)).alloc (.cells #[.int .i64 0, .string ⟨#[]⟩, .slice none 0 0, .slice none 0 0, .slice none 0 0, .int .i64 0] 78)) br n (.ok (t :: t' :: r)) [.int .i64 8, .string ⟨#[]⟩, .slice none 0 0, .slice none 0 0, .slice none 0 0, .int .i64 p] :=
    ⟨(hr.ext ((Ext.refl _).alloc _)).ext ((Ext.refl _).alloc _), by
      have := Blk.new (w.alloc (.cells #[.int .i64 8, .string ⟨#[]⟩, .slice none 0 0, .slice none 0 0, .slice none 0 0, .int .i64 p] 78)) 78 [.int .i64 0, .string ⟨#[]⟩, .slice none 0 0, .slice none 0 0, .slice none 0 0, .int .i64 0]
      rw [World.size_alloc] at this
      exact this, (Blk.new w 78 [.int .i64 8, .string ⟨#[]⟩, .slice none 0 0, .slice none 0 0, .slice none 0 0, .int .i64 p]).alloc _, ((Keep.refl _ _).alloc _).alloc _, hlt⟩
  obtain ⟨rto, hraw⟩ := hr.raw
  clear hraw
  obtain ⟨rto, hraw⟩ := B0.rd.raw
  obtain ⟨tb, toff, rlen, rcap, rk, q1, q2, q3, q4, q5, rb, d0, d1, d2, d3, _, hnx⟩ := hraw.cons
  obtain ⟨c0, c1, c2, c3, c4, cf⟩ := rb.fiveR
  obtain ⟨d5, d6⟩ := hnx t' r rfl
  have hk' : rlen = rk + 1 + (r.length + 1) := by have := q4; unfold Hid at this; simpa using this
  clear q4 hnx
  have hd : decide ((rk : Int) + 1 < (rlen : Int)) = true := by simp; omega
  have hdk : (rk : Int) + 1 < (rlen : Int) := by omega
  have hwk : IntKind.i64.wrap ((rk : Int) + 1) = (rk : Int) + 1 := IntWalk.i64_in _ (by omega)
  have htn : ((rk : Int) + 1).toNat = rk + 1 := by omega
  have hrk0 : (0 : Int) ≤ (rk : Int) + 1 := by omega
  clear hk'
  have hki : ((t.kind : Int) == 1) = true := by rw [hk]; rfl
  have hki2 : ((t'.kind : Int) == 4) = true := by rw [hk2]; rfl
  go_enter Tryz.func84, Tryz.ntmps84
  go_wp2_with fail
  go_quiet (fail)
  have B1 := B0.call (B0.rd.drewN nq) (Keep.drewN' _ _ nq)
  clear c0 c1 c2 c3 c4 cf hd d0 d1 d2 d3 d5 d6 hki hki2 hdk hwk htn hrk0 hk hk2 hx
  have lwP := B1.res.lt
  have own : World.ownsRow (((w.alloc (.cells #[.int .i64 8, .string ⟨#[]⟩, .slice none 0 0, .slice none 0 0, .slice none 0 0, .int .i64 p] 78)).alloc (.cells #[.int .i64 0, .string ⟨#[]⟩, .slice none 0 0, .slice none 0 0, .slice none 0 0, .int .i64 0] 78)).drewN nq) (w.heap.size + 2) 100 5 (.slice none 0 0) 0 [] := World.ownsRow_nil _ _ _ _
  have lw1 := B1.loc.lt
  go_wp2_with fail
  have bX := B1.loc
  have rr := B1.rd
  have lX := B1.loc.lt
  have hwr : IntKind.i64.wrap ((d : Int) + 1) = (d : Int) + 1 := IntWalk.i64_in _ (by omega)
  have hSx : Blk (((w.alloc (.cells #[.int .i64 8, .string ⟨#[]⟩, .slice none 0 0, .slice none 0 0, .slice none 0 0, .int .i64 p] 78)).alloc (.cells #[.int .i64 0, .string ⟨#[]⟩, .slice none 0 0, .slice none 0 0, .slice none 0 0, .int .i64 0] 78)).drewN nq).drew (w.heap.size) 78 [.int .i64 8, .string ⟨#[]⟩, .slice none 0 0, .slice none 0 0, .slice none 0 0, .int .i64 p] := bX
  refine phase_begin (fun w' => Blk w' (w.heap.size) 78 [.int .i64 8, .string ⟨#[]⟩, .slice none 0 0, .slice none 0 0, .slice none 0 0, .int .i64 p]) 9 (by kernel_rfl) ?_
  refine phase_take (i := 0) (v := .pointer (some ⟨w.heap.size, 2, none⟩)) rfl (by kernel_rfl) (by omega) (by kernel_rfl) (by kernel_rfl) (by kernel_rfl) (fun _ _ _ h => h) ⟨by rfl, ?_⟩ hSx ?_
  · intro wS hSw
    have s0 := Blk.cell hSw 2
    have sl := Blk.lt hSw
    simp only [List.getElem?_cons_zero, List.getElem?_cons_succ] at s0
    go_simp
  try simp only [Act.put, List.getElem_toArray, List.getElem_cons_succ, List.getElem_cons_zero, List.setIfInBounds_toArray, List.set_cons_zero, List.set_cons_succ]
  refine phase_take (i := 1) (v := .slice none 0 0) rfl (by kernel_rfl) (by omega) (by kernel_rfl) (by kernel_rfl) (by kernel_rfl) (fun _ _ _ h => h) ⟨by rfl, ?_⟩ hSx ?_
  · intro wS hSw
    have s0 := Blk.cell hSw 2
    have sl := Blk.lt hSw
    simp only [List.getElem?_cons_zero, List.getElem?_cons_succ] at s0
    go_simp
  try simp only [Act.put, List.getElem_toArray, List.getElem_cons_succ, List.getElem_cons_zero, List.setIfInBounds_toArray, List.set_cons_zero, List.set_cons_succ]
  refine phase_take (i := 2) (v := .pointer (some ⟨br, 0, none⟩)) rfl (by kernel_rfl) (by omega) (by kernel_rfl) (by kernel_rfl) (by kernel_rfl) (fun _ _ _ h => h) ⟨by rfl, fun wS hSw => by go_simp⟩ hSx ?_
  try simp only [Act.put, List.getElem_toArray, List.getElem_cons_succ, List.getElem_cons_zero, List.setIfInBounds_toArray, List.set_cons_zero, List.set_cons_succ]
  refine phase_take (i := 3) (v := .int .i64 d) rfl (by kernel_rfl) (by omega) (by kernel_rfl) (by kernel_rfl) (by kernel_rfl) (fun _ _ _ h => h) ⟨by rfl, fun wS hSw => by go_simp⟩ hSx ?_
  try simp only [Act.put, List.getElem_toArray, List.getElem_cons_succ, List.getElem_cons_zero, List.setIfInBounds_toArray, List.set_cons_zero, List.set_cons_succ]
  refine phase_take (i := 4) (v := .int .i64 ((d : Int) + 1)) rfl (by kernel_rfl) (by omega) (by kernel_rfl) (by kernel_rfl) (by kernel_rfl) (fun _ _ _ h => h) ⟨by rfl, fun wS hSw => by go_simp⟩ hSx ?_
  try simp only [Act.put, List.getElem_toArray, List.getElem_cons_succ, List.getElem_cons_zero, List.setIfInBounds_toArray, List.set_cons_zero, List.set_cons_succ]
  refine phase_one (i := 5) (by kernel_rfl) (by omega) rfl (by rfl) (fun K hK => ?_)
  go_simp
  refine (HE.out _ br n (.ok (t :: t' :: r)) trivial (rr.ext (Ext.refl _).drew)).mono ?_
  rintro e' w3q1 ⟨⟨vsq1, rfl, ⟨opq1, numq1, textq1, kaq1, knq1, kcq1, at_q1, rfl⟩, hxq1⟩, r3q1, k3q1⟩
  have b3q1 := hSx.keep k3q1 (by simp; omega)
  have HXq1 := hid hxq1
  clear hxq1
  refine hK _ _ ⟨b3q1, ?_⟩
  clear hK K
  try simp only [Act.put, List.getElem_toArray, List.getElem_cons_succ, List.getElem_cons_zero, List.setIfInBounds_toArray, List.set_cons_zero, List.set_cons_succ]
  refine phase_one (i := 6) (by kernel_rfl) (by omega) rfl (by rfl) (fun K hK => ?_)
  go_simp
  refine hK _ _ ⟨b3q1.alloc _, ?_⟩
  clear hK K
  try simp only [Act.put, List.getElem_toArray, List.getElem_cons_succ, List.getElem_cons_zero, List.setIfInBounds_toArray, List.set_cons_zero, List.set_cons_succ]
  have own4q1 := (ownsRow_keep own ((Keep.refl [br] _).drew.trans' k3q1) (fun b hb _ hq => by simp only [List.mem_singleton] at hb; subst hb; have := (own.lt _ hq).1; omega)).alloc (.cells #[.int .i64 opq1, .int .i64 numq1, .string ⟨textq1.toArray⟩, .slice kaq1 knq1 kcq1, .int .i64 at_q1] 100)
  have sz3q1 := k3q1.size
  simp only [World.size_drew] at sz3q1
  refine phase_one (i := 7) (by kernel_rfl) (by omega) rfl (by rfl) (fun K hK => ?_)
  refine wp_append_lies _ (.tmp 78) (.tmp 83) 76 (by rfl) (w.heap.size + 2) 100 i0 (.agg #[.int .i64 0, .int .i64 0, .string ⟨#[]⟩, .slice none 0 0, .int .i64 0]) 5 64 Tryz.underlying76 hi0 hz0 hz1 hz2 rfl (by omega) (.slice none 0 0) 0 [] (by rfl) own4q1 ⟨w3q1.heap.size, 0, none⟩ 1 1
    [.int .i64 opq1, .int .i64 numq1, .string ⟨textq1.toArray⟩, .slice kaq1 knq1 kcq1, .int .i64 at_q1] (by rfl) (by rfl) (news_cells _ _ _ _ rfl) (by simp [Value.oneCell']) (by omega) (by simp only [maxLen]; omega) (by omega) (by simp; omega) (w3q1.heap.size + 1) (by simp) (fun gq1 capq1 w5q1 hown5q1 hgrq1 hatq1 hgltq1 => ?_)
  have lgq1 : w.heap.size + 2 ≤ gq1 := (hown5q1.lt gq1 rfl).1
  have lownq1 : ∀ q ∈ ownL (.slice none 0 0), w.heap.size + 2 ≤ q ∧ q < (((w.alloc (.cells #[.int .i64 8, .string ⟨#[]⟩, .slice none 0 0, .slice none 0 0, .slice none 0 0, .int .i64 p] 78)).alloc (.cells #[.int .i64 0, .string ⟨#[]⟩, .slice none 0 0, .slice none 0 0, .slice none 0 0, .int .i64 0] 78)).drewN nq).heap.size := fun q hq => own.lt q (mem_ownL.1 hq)
  have kkq1 := Keep.grownBy hgrq1 (ownL (.slice none 0 0)) (fun k hk => mem_ownL.2 hk)
  have b5q1 := (b3q1.alloc (.cells #[.int .i64 opq1, .int .i64 numq1, .string ⟨textq1.toArray⟩, .slice kaq1 knq1 kcq1, .int .i64 at_q1] 100)).keep kkq1 (fun hq => by have := (lownq1 _ hq).1; omega)
  refine hK _ _ ⟨b5q1, ?_⟩
  clear hK K
  try simp only [Act.put, List.getElem_toArray, List.getElem_cons_succ, List.getElem_cons_zero, List.setIfInBounds_toArray, List.set_cons_zero, List.set_cons_succ]
  refine phase_take (i := 8) (v := .pointer (some ⟨w.heap.size, 2, none⟩)) rfl (by kernel_rfl) (by omega) (by kernel_rfl) (by kernel_rfl) (by kernel_rfl) (fun _ _ _ h => h) ⟨by rfl, ?_⟩ (show Blk w5q1 (w.heap.size) 78 [.int .i64 8, .string ⟨#[]⟩, .slice none 0 0, .slice none 0 0, .slice none 0 0, .int .i64 p] from b5q1) ?_
  · intro wS hSw
    have s0 := Blk.cell hSw 2
    have sl := Blk.lt hSw
    simp only [List.getElem?_cons_zero, List.getElem?_cons_succ] at s0
    go_simp
  try simp only [Act.put, List.getElem_toArray, List.getElem_cons_succ, List.getElem_cons_zero, List.setIfInBounds_toArray, List.set_cons_zero, List.set_cons_succ]
  have c5q1 := b5q1.cell 2
  have f5q1 := b5q1.frozen 2
  have l5q1 := b5q1.lt
  simp only [List.getElem?_cons_zero, List.getElem?_cons_succ] at c5q1
  refine phase_late (i := 9) (by kernel_rfl) (by omega) rfl (by rfl) (fun K hK => ?_)
  go_simp
  refine hK _ _ ?_
  clear hK K
  try simp only [Act.put, List.getElem_toArray, List.getElem_cons_succ, List.getElem_cons_zero, List.setIfInBounds_toArray, List.set_cons_zero, List.set_cons_succ]
  have bX6q1 := b5q1.set 2 (.slice (some ⟨gq1, 0, none⟩) 1 capq1)
  simp only [List.set_cons_zero, List.set_cons_succ] at bX6q1
  have kSq1 := Keep.set w5q1 ⟨w.heap.size, 2, none⟩ (.slice (some ⟨gq1, 0, none⟩) 1 capq1)
  have r6q1 := ((r3q1.ext ((Ext.refl _).alloc (.cells #[.int .i64 opq1, .int .i64 numq1, .string ⟨textq1.toArray⟩, .slice kaq1 knq1 kcq1, .int .i64 at_q1] 100))).keep kkq1 (fun q hq => by have := (lownq1 q hq).1; omega)).keep kSq1 (fun q hq => by simp only [List.mem_singleton] at hq; omega)
  have kAq1 : Keep (br :: (w.heap.size) :: ownL (.slice none 0 0)) (((w.alloc (.cells #[.int .i64 8, .string ⟨#[]⟩, .slice none 0 0, .slice none 0 0, .slice none 0 0, .int .i64 p] 78)).alloc (.cells #[.int .i64 0, .string ⟨#[]⟩, .slice none 0 0, .slice none 0 0, .slice none 0 0, .int .i64 0] 78)).drewN nq) (w5q1.setCell ⟨w.heap.size, 2, none⟩ (.slice (some ⟨gq1, 0, none⟩) 1 capq1)) :=
    ((((Keep.refl _ _).drew.trans k3q1 (by simp)).alloc _).trans kkq1 (fun q hq => .inl (by simp [hq]))).trans kSq1 (by simp)
  have own6q1 := ownsRow_keep hown5q1 kSq1 (fun b hb _ hq => by simp only [List.mem_singleton] at hb; subst hb; simp only [Value.ownBlock, Option.some.injEq] at hq; omega)
  refine wpAny_done (by kernel_rfl) ?_ _
  clear c5q1 f5q1 hSx b3q1 own4q1
  have SM1 := B1.push (v := .slice none 0 0) r6q1 bX6q1 kAq1 (fun q hq => (lownq1 q hq).1)
  have HF1 : Hid (∀ x, Giv E (.ok (t :: t' :: r)) x → ExIs _ (fun b => (((w.alloc (.cells #[.int .i64 8, .string ⟨#[]⟩, .slice none 0 0, .slice none 0 0, .slice none 0 0, .int .i64 p] 78)).alloc (.cells #[.int .i64 0, .string ⟨#[]⟩, .slice none 0 0, .slice none 0 0, .slice none 0 0, .int .i64 0] 78)).drewN nq).heap.size ≤ b ∧ b < w3q1.heap.size) x [.int .i64 opq1, .int .i64 numq1, .string ⟨textq1.toArray⟩, .slice kaq1 knq1 kcq1, .int .i64 at_q1]) := fun x hg =>
    ExIs.carry (Carry.keep kSq1 (fun b hb _ hf => by simp only [List.mem_singleton] at hb; omega) (fun b _ hf => hf)) _ _ (ExIs.carry (Carry.keep kkq1 (fun b hb _ hf => by have := (lownq1 b hb).2; omega) (fun b _ hf => hf)) _ _ (ExIs.carry (Carry.keep (Keep.ofExt ((Ext.refl _).alloc (.cells #[.int .i64 opq1, .int .i64 numq1, .string ⟨textq1.toArray⟩, .slice kaq1 knq1 kcq1, .int .i64 at_q1] 100)) : Keep [] _ _) (G := fun b => (((w.alloc (.cells #[.int .i64 8, .string ⟨#[]⟩, .slice none 0 0, .slice none 0 0, .slice none 0 0, .int .i64 p] 78)).alloc (.cells #[.int .i64 0, .string ⟨#[]⟩, .slice none 0 0, .slice none 0 0, .slice none 0 0, .int .i64 0] 78)).drewN nq).heap.size ≤ b ∧ b < w3q1.heap.size) (by simp) (fun b hlt hf => ⟨hf, hlt⟩)) _ _ (HXq1.out x hg)))
  have kQ1 := Keep.refl [br, (w.heap.size + 1), w.heap.size] (w5q1.setCell ⟨w.heap.size, 2, none⟩ (.slice (some ⟨gq1, 0, none⟩) 1 capq1))
  clear HXq1
  have kO1 := Keep.refl [br, (w.heap.size + 1), w.heap.size] (w5q1.setCell ⟨w.heap.size, 2, none⟩ (.slice (some ⟨gq1, 0, none⟩) 1 capq1))
  have kQ1 := Keep.refl [br, w.heap.size, gq1, (w.heap.size + 1)] (w5q1.setCell ⟨w.heap.size, 2, none⟩ (.slice (some ⟨gq1, 0, none⟩) 1 capq1))
  go_wp2_with fail
  refine (rMust_any _ br n _ SM1.rd [59]).mono ?_
  rintro e' w1m ⟨rfl, rN1, kN1⟩
  have C2 := SM1.call rN1 kN1
  have kQ1 := kQ1.trans kN1 (by simp)
  have kO1 := kO1.trans kN1 (by simp)
  obtain ⟨l0, l1, l2, l3, l4, l5, lf⟩ := C2.loc.sixR
  obtain ⟨m0, m1, m2, m3, m4, m5, mf⟩ := C2.res.sixR
  have lr7 := C2.res.lt
  have lr8 := C2.loc.lt
  have bF := C2.res.put6 (.int .i64 8) (.string ⟨#[]⟩) (.slice (some ⟨gq1, 0, none⟩) 1 capq1) (.slice none 0 0) (.slice none 0 0) (.int .i64 p)
  have kF := Keep.put6 w1m (w.heap.size + 1) (.int .i64 8) (.string ⟨#[]⟩) (.slice (some ⟨gq1, 0, none⟩) 1 capq1) (.slice none 0 0) (.slice none 0 0) (.int .i64 p)
  obtain ⟨x0, x1, x2, x3, x4, x5, _⟩ := bF.sixR
  have kQ1 := kQ1.trans kF (by simp)
  have kO1 := kO1.trans kF (by simp)
  go_wp2_with fail
  refine bodyPost_ret (v := .agg #[.int .i64 8, .string ⟨#[]⟩, .slice (some ⟨gq1, 0, none⟩) 1 capq1, .slice none 0 0, .slice none 0 0, .int .i64 p]) (by simp [results, Tryz.results84, go_sem, x0, x1, x2, x3, x4, x5]) rfl ⟨⟨_, rfl, ⟨8, [], _, 1, _, none, 0, 0, none, 0, 0, p, rfl⟩, fun x hg => ?_⟩, ?_, C2.keep.trans kF (by simp)⟩
  · obtain ⟨y1, g1, hg⟩ := giv_sq n (show Giv (sqR E _) (.ok (t :: t' :: r)) x from hg)
    obtain ⟨_, _, hg⟩ := giv_sq n hg
    obtain rfl := giv_ret hg
    have ownF := ownsRow_keep own6q1 kO1 (fun b hb _ hq => by have := (own6q1.lt b hq).1; simp only [List.mem_cons, List.not_mem_nil, or_false] at hb; omega)
    have hdsz : w.heap.size + 2 ≤ ((((w.alloc (.cells #[.int .i64 8, .string ⟨#[]⟩, .slice none 0 0, .slice none 0 0, .slice none 0 0, .int .i64 p] 78)).alloc (.cells #[.int .i64 0, .string ⟨#[]⟩, .slice none 0 0, .slice none 0 0, .slice none 0 0, .int .i64 0] 78)).drewN nq)).heap.size := by have := lwP; omega
    have hy1 := ExIs.carry (Carry.keep kQ1 (G := (w.heap.size ≤ ·)) (fun b hb hlt hf => by have hf1 : ((((w.alloc (.cells #[.int .i64 8, .string ⟨#[]⟩, .slice none 0 0, .slice none 0 0, .slice none 0 0, .int .i64 p] 78)).alloc (.cells #[.int .i64 0, .string ⟨#[]⟩, .slice none 0 0, .slice none 0 0, .slice none 0 0, .int .i64 0] 78)).drewN nq)).heap.size ≤ b := hf.1; have hf2 := hf.2; simp only [List.mem_cons, List.not_mem_nil, or_false] at hb; (first | omega | (rcases hatq1 with h | h <;> first | omega | (simp [Value.ownBlock] at h)))) (fun b _ hf => by have hf1 : ((((w.alloc (.cells #[.int .i64 8, .string ⟨#[]⟩, .slice none 0 0, .slice none 0 0, .slice none 0 0, .int .i64 p] 78)).alloc (.cells #[.int .i64 0, .string ⟨#[]⟩, .slice none 0 0, .slice none 0 0, .slice none 0 0, .int .i64 0] 78)).drewN nq)).heap.size ≤ b := hf.1; show w.heap.size ≤ b; omega)) _ _ (HF1.out y1 g1)
    simp only [StIs]
    exact ⟨_, _, _, rfl, own_row1 ownF (fun b hb => by show w.heap.size ≤ b; omega) hy1, st_row_none _ _ _ (by simp [StsIs]), st_row_none _ _ _ (by simp [StsIs])⟩
  · rw [aft_doR]
    exact C2.rd.keep kF (by simp; omega)
set_option maxHeartbeats 32000000 in
theorem rPlain_set (d : Nat) (hd0 : d ≤ 32) (E : Rd Ex) (hE : ExC Any 83 ((d : Int) + 1) E) (w : World) (br n : Nat) (t t' : Tok) (r : List Tok) (hr : ReAt w br n (.ok (t :: t' :: r))) (hk : t.kind = 1) (hk2 : t'.kind = 4) (hx : (t'.text == [61]) = true) (p : Nat) :
    Calls Tryz.prog 84 #[.pointer (some ⟨br, 0, none⟩), .agg #[.int .i64 0, .string ⟨#[]⟩, .slice none 0 0, .slice none 0 0, .slice none 0 0, .int .i64 p], .int .i64 d] w (StPost w br n (.ok (t :: t' :: r)) (setR E p)) := by
  obtain ⟨i0, hi0, hz0, hz1, hz2⟩ := info_parts Tryz.infoExpr
  have hwr0 : IntKind.i64.wrap ((d : Int) + 1) = (d : Int) + 1 := IntWalk.i64_in _ (by omega)
  have HE := hid hE
  clear hE
  have tt := fun (a b c d : Value) (w : World) => Tryz.tokText a b c d w
  have hlt := hr.lt
  have B0 : PmAt w ((w.alloc (.cells #[.int .i64 8, .string ⟨#[]⟩, .slice none 0 0, .slice none 0 0, .slice none 0 0, .int .i64 p] 78)).alloc (.cells #[.int .i64 0, .string ⟨#[]⟩, .slice none 0 0, .slice none 0 0, .slice none 0 0, .int .i64 0] 78)) br n (.ok (t :: t' :: r)) [.int .i64 8, .string ⟨#[]⟩, .slice none 0 0, .slice none 0 0, .slice none 0 0, .int .i64 p] :=
    ⟨(hr.ext ((Ext.refl _).alloc _)).ext ((Ext.refl _).alloc _), by
      have := Blk.new (w.alloc (.cells #[.int .i64 8, .string ⟨#[]⟩, .slice none 0 0, .slice none 0 0, .slice none 0 0, .int .i64 p] 78)) 78 [.int .i64 0, .string ⟨#[]⟩, .slice none 0 0, .slice none 0 0, .slice none 0 0, .int .i64 0]
      rw [World.size_alloc] at this
      exact this, (Blk.new w 78 [.int .i64 8, .string ⟨#[]⟩, .slice none 0 0, .slice none 0 0, .slice none 0 0, .int .i64 p]).alloc _, ((Keep.refl _ _).alloc _).alloc _, hlt⟩
  obtain ⟨rto, hraw⟩ := hr.raw
  clear hraw
  obtain ⟨rto, hraw⟩ := B0.rd.raw
  obtain ⟨tb, toff, rlen, rcap, rk, q1, q2, q3, q4, q5, rb, d0, d1, d2, d3, _, hnx⟩ := hraw.cons
  obtain ⟨c0, c1, c2, c3, c4, cf⟩ := rb.fiveR
  obtain ⟨d5, d6⟩ := hnx t' r rfl
  have hk' : rlen = rk + 1 + (r.length + 1) := by have := q4; unfold Hid at this; simpa using this
  clear q4 hnx
  have hd : decide ((rk : Int) + 1 < (rlen : Int)) = true := by simp; omega
  have hdk : (rk : Int) + 1 < (rlen : Int) := by omega
  have hwk : IntKind.i64.wrap ((rk : Int) + 1) = (rk : Int) + 1 := IntWalk.i64_in _ (by omega)
  have htn : ((rk : Int) + 1).toNat = rk + 1 := by omega
  have hrk0 : (0 : Int) ≤ (rk : Int) + 1 := by omega
  clear hk'
  have hki : ((t.kind : Int) == 1) = true := by rw [hk]; rfl
  have hki2 : ((t'.kind : Int) == 4) = true := by rw [hk2]; rfl
  go_enter Tryz.func84, Tryz.ntmps84
  go_wp2_with fail
  go_quiet (fail)
  have B1 := B0.call (B0.rd.drewN nq) (Keep.drewN' _ _ nq)
  clear c0 c1 c2 c3 c4 cf hd d0 d1 d2 d3 d5 d6 hki hki2 hdk hwk htn hrk0 hk hk2 hx
  have C1 := B1.set 0 (.int .i64 2)
  simp only [List.set_cons_zero, List.set_cons_succ] at C1
  obtain ⟨l0, l1, l2, l3, l4, l5, lf⟩ := B1.loc.sixR
  have lB := B1.loc.lt
  go_wp2_with fail
  refine (rName_any _ br n _ C1.rd).mono ?_
  rintro e' w2n ⟨⟨na, nb, nc, nd, rfl, hnm⟩, rN, kN⟩
  have HNM := hid hnm
  clear hnm
  clear l0 l1 l2 l3 l4 l5 lf lB
  have C3 := C1.call rN kN
  have C4 := C3.set 1 (.string ⟨nb.toArray⟩)
  simp only [List.set_cons_zero, List.set_cons_succ] at C4
  obtain ⟨l0, l1, l2, l3, l4, l5, lf⟩ := C3.loc.sixR
  have lB := C3.loc.lt
  go_wp2_with fail
  refine (rMust_any _ br n _ C4.rd [61]).mono ?_
  rintro e' w5m ⟨rfl, rN5, kN5⟩
  clear l0 l1 l2 l3 l4 l5 lf lB
  have C6 := C4.call rN5 kN5
  have lwP := C6.res.lt
  have own : World.ownsRow w5m (w.heap.size + 2) 100 5 (.slice none 0 0) 0 [] := World.ownsRow_nil _ _ _ _
  have lw1 := C6.loc.lt
  go_wp2_with fail
  have bX := C6.loc
  have rr := C6.rd
  have lX := C6.loc.lt
  have hwr : IntKind.i64.wrap ((d : Int) + 1) = (d : Int) + 1 := IntWalk.i64_in _ (by omega)
  have hSx : Blk w5m.drew (w.heap.size) 78 [.int .i64 2, .string ⟨nb.toArray⟩, .slice none 0 0, .slice none 0 0, .slice none 0 0, .int .i64 p] := bX
  refine phase_begin (fun w' => Blk w' (w.heap.size) 78 [.int .i64 2, .string ⟨nb.toArray⟩, .slice none 0 0, .slice none 0 0, .slice none 0 0, .int .i64 p]) 9 (by kernel_rfl) ?_
  refine phase_take (i := 0) (v := .pointer (some ⟨w.heap.size, 2, none⟩)) rfl (by kernel_rfl) (by omega) (by kernel_rfl) (by kernel_rfl) (by kernel_rfl) (fun _ _ _ h => h) ⟨by rfl, ?_⟩ hSx ?_
  · intro wS hSw
    have s0 := Blk.cell hSw 2
    have sl := Blk.lt hSw
    simp only [List.getElem?_cons_zero, List.getElem?_cons_succ] at s0
    go_simp
  try simp only [Act.put, List.getElem_toArray, List.getElem_cons_succ, List.getElem_cons_zero, List.setIfInBounds_toArray, List.set_cons_zero, List.set_cons_succ]
  refine phase_take (i := 1) (v := .slice none 0 0) rfl (by kernel_rfl) (by omega) (by kernel_rfl) (by kernel_rfl) (by kernel_rfl) (fun _ _ _ h => h) ⟨by rfl, ?_⟩ hSx ?_
  · intro wS hSw
    have s0 := Blk.cell hSw 2
    have sl := Blk.lt hSw
    simp only [List.getElem?_cons_zero, List.getElem?_cons_succ] at s0
    go_simp
  try simp only [Act.put, List.getElem_toArray, List.getElem_cons_succ, List.getElem_cons_zero, List.setIfInBounds_toArray, List.set_cons_zero, List.set_cons_succ]
  refine phase_take (i := 2) (v := .pointer (some ⟨br, 0, none⟩)) rfl (by kernel_rfl) (by omega) (by kernel_rfl) (by kernel_rfl) (by kernel_rfl) (fun _ _ _ h => h) ⟨by rfl, fun wS hSw => by go_simp⟩ hSx ?_
  try simp only [Act.put, List.getElem_toArray, List.getElem_cons_succ, List.getElem_cons_zero, List.setIfInBounds_toArray, List.set_cons_zero, List.set_cons_succ]
  refine phase_take (i := 3) (v := .int .i64 d) rfl (by kernel_rfl) (by omega) (by kernel_rfl) (by kernel_rfl) (by kernel_rfl) (fun _ _ _ h => h) ⟨by rfl, fun wS hSw => by go_simp⟩ hSx ?_
  try simp only [Act.put, List.getElem_toArray, List.getElem_cons_succ, List.getElem_cons_zero, List.setIfInBounds_toArray, List.set_cons_zero, List.set_cons_succ]
  refine phase_take (i := 4) (v := .int .i64 ((d : Int) + 1)) rfl (by kernel_rfl) (by omega) (by kernel_rfl) (by kernel_rfl) (by kernel_rfl) (fun _ _ _ h => h) ⟨by rfl, fun wS hSw => by go_simp⟩ hSx ?_
  try simp only [Act.put, List.getElem_toArray, List.getElem_cons_succ, List.getElem_cons_zero, List.setIfInBounds_toArray, List.set_cons_zero, List.set_cons_succ]
  refine phase_one (i := 5) (by kernel_rfl) (by omega) rfl (by rfl) (fun K hK => ?_)
  go_simp
  refine (HE.out _ br n (aft n (signR [61]) (aft n (nameR) (.ok (t :: t' :: r)))) trivial (rr.ext (Ext.refl _).drew)).mono ?_
  rintro e' w3q1 ⟨⟨vsq1, rfl, ⟨opq1, numq1, textq1, kaq1, knq1, kcq1, at_q1, rfl⟩, hxq1⟩, r3q1, k3q1⟩
  have b3q1 := hSx.keep k3q1 (by simp; omega)
  have HXq1 := hid hxq1
  clear hxq1
  refine hK _ _ ⟨b3q1, ?_⟩
  clear hK K
  try simp only [Act.put, List.getElem_toArray, List.getElem_cons_succ, List.getElem_cons_zero, List.setIfInBounds_toArray, List.set_cons_zero, List.set_cons_succ]
  refine phase_one (i := 6) (by kernel_rfl) (by omega) rfl (by rfl) (fun K hK => ?_)
  go_simp
  refine hK _ _ ⟨b3q1.alloc _, ?_⟩
  clear hK K
  try simp only [Act.put, List.getElem_toArray, List.getElem_cons_succ, List.getElem_cons_zero, List.setIfInBounds_toArray, List.set_cons_zero, List.set_cons_succ]
  have own4q1 := (ownsRow_keep own ((Keep.refl [br] _).drew.trans' k3q1) (fun b hb _ hq => by simp only [List.mem_singleton] at hb; subst hb; have := (own.lt _ hq).1; omega)).alloc (.cells #[.int .i64 opq1, .int .i64 numq1, .string ⟨textq1.toArray⟩, .slice kaq1 knq1 kcq1, .int .i64 at_q1] 100)
  have sz3q1 := k3q1.size
  simp only [World.size_drew] at sz3q1
  refine phase_one (i := 7) (by kernel_rfl) (by omega) rfl (by rfl) (fun K hK => ?_)
  refine wp_append_lies _ (.tmp 78) (.tmp 83) 76 (by rfl) (w.heap.size + 2) 100 i0 (.agg #[.int .i64 0, .int .i64 0, .string ⟨#[]⟩, .slice none 0 0, .int .i64 0]) 5 64 Tryz.underlying76 hi0 hz0 hz1 hz2 rfl (by omega) (.slice none 0 0) 0 [] (by rfl) own4q1 ⟨w3q1.heap.size, 0, none⟩ 1 1
    [.int .i64 opq1, .int .i64 numq1, .string ⟨textq1.toArray⟩, .slice kaq1 knq1 kcq1, .int .i64 at_q1] (by rfl) (by rfl) (news_cells _ _ _ _ rfl) (by simp [Value.oneCell']) (by omega) (by simp only [maxLen]; omega) (by omega) (by simp; omega) (w3q1.heap.size + 1) (by simp) (fun gq1 capq1 w5q1 hown5q1 hgrq1 hatq1 hgltq1 => ?_)
  have lgq1 : w.heap.size + 2 ≤ gq1 := (hown5q1.lt gq1 rfl).1
  have lownq1 : ∀ q ∈ ownL (.slice none 0 0), w.heap.size + 2 ≤ q ∧ q < w5m.heap.size := fun q hq => own.lt q (mem_ownL.1 hq)
  have kkq1 := Keep.grownBy hgrq1 (ownL (.slice none 0 0)) (fun k hk => mem_ownL.2 hk)
  have b5q1 := (b3q1.alloc (.cells #[.int .i64 opq1, .int .i64 numq1, .string ⟨textq1.toArray⟩, .slice kaq1 knq1 kcq1, .int .i64 at_q1] 100)).keep kkq1 (fun hq => by have := (lownq1 _ hq).1; omega)
  refine hK _ _ ⟨b5q1, ?_⟩
  clear hK K
  try simp only [Act.put, List.getElem_toArray, List.getElem_cons_succ, List.getElem_cons_zero, List.setIfInBounds_toArray, List.set_cons_zero, List.set_cons_succ]
  refine phase_take (i := 8) (v := .pointer (some ⟨w.heap.size, 2, none⟩)) rfl (by kernel_rfl) (by omega) (by kernel_rfl) (by kernel_rfl) (by kernel_rfl) (fun _ _ _ h => h) ⟨by rfl, ?_⟩ (show Blk w5q1 (w.heap.size) 78 [.int .i64 2, .string ⟨nb.toArray⟩, .slice none 0 0, .slice none 0 0, .slice none 0 0, .int .i64 p] from b5q1) ?_
  · intro wS hSw
    have s0 := Blk.cell hSw 2
    have sl := Blk.lt hSw
    simp only [List.getElem?_cons_zero, List.getElem?_cons_succ] at s0
    go_simp
  try simp only [Act.put, List.getElem_toArray, List.getElem_cons_succ, List.getElem_cons_zero, List.setIfInBounds_toArray, List.set_cons_zero, List.set_cons_succ]
  have c5q1 := b5q1.cell 2
  have f5q1 := b5q1.frozen 2
  have l5q1 := b5q1.lt
  simp only [List.getElem?_cons_zero, List.getElem?_cons_succ] at c5q1
  refine phase_late (i := 9) (by kernel_rfl) (by omega) rfl (by rfl) (fun K hK => ?_)
  go_simp
  refine hK _ _ ?_
  clear hK K
  try simp only [Act.put, List.getElem_toArray, List.getElem_cons_succ, List.getElem_cons_zero, List.setIfInBounds_toArray, List.set_cons_zero, List.set_cons_succ]
  have bX6q1 := b5q1.set 2 (.slice (some ⟨gq1, 0, none⟩) 1 capq1)
  simp only [List.set_cons_zero, List.set_cons_succ] at bX6q1
  have kSq1 := Keep.set w5q1 ⟨w.heap.size, 2, none⟩ (.slice (some ⟨gq1, 0, none⟩) 1 capq1)
  have r6q1 := ((r3q1.ext ((Ext.refl _).alloc (.cells #[.int .i64 opq1, .int .i64 numq1, .string ⟨textq1.toArray⟩, .slice kaq1 knq1 kcq1, .int .i64 at_q1] 100))).keep kkq1 (fun q hq => by have := (lownq1 q hq).1; omega)).keep kSq1 (fun q hq => by simp only [List.mem_singleton] at hq; omega)
  have kAq1 : Keep (br :: (w.heap.size) :: ownL (.slice none 0 0)) w5m (w5q1.setCell ⟨w.heap.size, 2, none⟩ (.slice (some ⟨gq1, 0, none⟩) 1 capq1)) :=
    ((((Keep.refl _ _).drew.trans k3q1 (by simp)).alloc _).trans kkq1 (fun q hq => .inl (by simp [hq]))).trans kSq1 (by simp)
  have own6q1 := ownsRow_keep hown5q1 kSq1 (fun b hb _ hq => by simp only [List.mem_singleton] at hb; subst hb; simp only [Value.ownBlock, Option.some.injEq] at hq; omega)
  refine wpAny_done (by kernel_rfl) ?_ _
  clear c5q1 f5q1 hSx b3q1 own4q1
  have SM1 := C6.push (v := .slice none 0 0) r6q1 bX6q1 kAq1 (fun q hq => (lownq1 q hq).1)
  have HF1 : Hid (∀ x, Giv E (aft n (signR [61]) (aft n (nameR) (.ok (t :: t' :: r)))) x → ExIs _ (fun b => w5m.heap.size ≤ b ∧ b < w3q1.heap.size) x [.int .i64 opq1, .int .i64 numq1, .string ⟨textq1.toArray⟩, .slice kaq1 knq1 kcq1, .int .i64 at_q1]) := fun x hg =>
    ExIs.carry (Carry.keep kSq1 (fun b hb _ hf => by simp only [List.mem_singleton] at hb; omega) (fun b _ hf => hf)) _ _ (ExIs.carry (Carry.keep kkq1 (fun b hb _ hf => by have := (lownq1 b hb).2; omega) (fun b _ hf => hf)) _ _ (ExIs.carry (Carry.keep (Keep.ofExt ((Ext.refl _).alloc (.cells #[.int .i64 opq1, .int .i64 numq1, .string ⟨textq1.toArray⟩, .slice kaq1 knq1 kcq1, .int .i64 at_q1] 100)) : Keep [] _ _) (G := fun b => w5m.heap.size ≤ b ∧ b < w3q1.heap.size) (by simp) (fun b hlt hf => ⟨hf, hlt⟩)) _ _ (HXq1.out x hg)))
  have kQ1 := Keep.refl [br, (w.heap.size + 1), w.heap.size] (w5q1.setCell ⟨w.heap.size, 2, none⟩ (.slice (some ⟨gq1, 0, none⟩) 1 capq1))
  clear HXq1
  have kO1 := Keep.refl [br, (w.heap.size + 1), w.heap.size] (w5q1.setCell ⟨w.heap.size, 2, none⟩ (.slice (some ⟨gq1, 0, none⟩) 1 capq1))
  have kQ1 := Keep.refl [br, w.heap.size, gq1, (w.heap.size + 1)] (w5q1.setCell ⟨w.heap.size, 2, none⟩ (.slice (some ⟨gq1, 0, none⟩) 1 capq1))
  go_wp2_with fail
  refine (rMust_any _ br n _ SM1.rd [59]).mono ?_
  rintro e' w7m ⟨rfl, rN7, kN7⟩
  have C8 := SM1.call rN7 kN7
  have kQ1 := kQ1.trans kN7 (by simp)
  have kO1 := kO1.trans kN7 (by simp)
  obtain ⟨l0, l1, l2, l3, l4, l5, lf⟩ := C8.loc.sixR
  obtain ⟨m0, m1, m2, m3, m4, m5, mf⟩ := C8.res.sixR
  have lr7 := C8.res.lt
  have lr8 := C8.loc.lt
  have bF := C8.res.put6 (.int .i64 2) (.string ⟨nb.toArray⟩) (.slice (some ⟨gq1, 0, none⟩) 1 capq1) (.slice none 0 0) (.slice none 0 0) (.int .i64 p)
  have kF := Keep.put6 w7m (w.heap.size + 1) (.int .i64 2) (.string ⟨nb.toArray⟩) (.slice (some ⟨gq1, 0, none⟩) 1 capq1) (.slice none 0 0) (.slice none 0 0) (.int .i64 p)
  obtain ⟨x0, x1, x2, x3, x4, x5, _⟩ := bF.sixR
  have kQ1 := kQ1.trans kF (by simp)
  have kO1 := kO1.trans kF (by simp)
  go_wp2_with fail
  refine bodyPost_ret (v := .agg #[.int .i64 2, .string ⟨nb.toArray⟩, .slice (some ⟨gq1, 0, none⟩) 1 capq1, .slice none 0 0, .slice none 0 0, .int .i64 p]) (by simp [results, Tryz.results84, go_sem, x0, x1, x2, x3, x4, x5]) rfl ⟨⟨_, rfl, ⟨2, nb, _, 1, _, none, 0, 0, none, 0, 0, p, rfl⟩, fun x hg => ?_⟩, ?_, C8.keep.trans kF (by simp)⟩
  · obtain ⟨nm, gN, hg⟩ := giv_sq n (show Giv (sqR nameR _) (.ok (t :: t' :: r)) x from hg)
    obtain ⟨_, _, hg⟩ := giv_sq n hg
    obtain ⟨y1, g1, hg⟩ := giv_sq n hg
    obtain ⟨_, _, hg⟩ := giv_sq n hg
    obtain rfl := giv_ret hg
    obtain rfl := HNM.out nm gN
    have ownF := ownsRow_keep own6q1 kO1 (fun b hb _ hq => by have := (own6q1.lt b hq).1; simp only [List.mem_cons, List.not_mem_nil, or_false] at hb; omega)
    have hdsz : w.heap.size + 2 ≤ (w5m).heap.size := by have := lwP; omega
    have hy1 := ExIs.carry (Carry.keep kQ1 (G := (w.heap.size ≤ ·)) (fun b hb hlt hf => by have hf1 : (w5m).heap.size ≤ b := hf.1; have hf2 := hf.2; simp only [List.mem_cons, List.not_mem_nil, or_false] at hb; (first | omega | (rcases hatq1 with h | h <;> first | omega | (simp [Value.ownBlock] at h)))) (fun b _ hf => by have hf1 : (w5m).heap.size ≤ b := hf.1; show w.heap.size ≤ b; omega)) _ _ (HF1.out y1 g1)
    simp only [StIs]
    exact ⟨_, _, _, rfl, own_row1 ownF (fun b hb => by show w.heap.size ≤ b; omega) hy1, st_row_none _ _ _ (by simp [StsIs]), st_row_none _ _ _ (by simp [StsIs])⟩
  · rw [aft_setR]
    exact C8.rd.keep kF (by simp; omega)
set_option maxHeartbeats 32000000 in
theorem rPlain_nil (d : Nat) (hd0 : d ≤ 32) (E : Rd Ex) (hE : ExC Any 83 ((d : Int) + 1) E) (w : World) (br n : Nat) (hr : ReAt w br n (.ok [])) (p : Nat) :
    Calls Tryz.prog 84 #[.pointer (some ⟨br, 0, none⟩), .agg #[.int .i64 0, .string ⟨#[]⟩, .slice none 0 0, .slice none 0 0, .slice none 0 0, .int .i64 p], .int .i64 d] w (StPost w br n (.ok []) (doR E p)) := by
  obtain ⟨i0, hi0, hz0, hz1, hz2⟩ := info_parts Tryz.infoExpr
  have hwr0 : IntKind.i64.wrap ((d : Int) + 1) = (d : Int) + 1 := IntWalk.i64_in _ (by omega)
  have HE := hid hE
  clear hE
  have hlt := hr.lt
  have B0 : PmAt w ((w.alloc (.cells #[.int .i64 8, .string ⟨#[]⟩, .slice none 0 0, .slice none 0 0, .slice none 0 0, .int .i64 p] 78)).alloc (.cells #[.int .i64 0, .string ⟨#[]⟩, .slice none 0 0, .slice none 0 0, .slice none 0 0, .int .i64 0] 78)) br n (.ok []) [.int .i64 8, .string ⟨#[]⟩, .slice none 0 0, .slice none 0 0, .slice none 0 0, .int .i64 p] :=
    ⟨(hr.ext ((Ext.refl _).alloc _)).ext ((Ext.refl _).alloc _), by
      have := Blk.new (w.alloc (.cells #[.int .i64 8, .string ⟨#[]⟩, .slice none 0 0, .slice none 0 0, .slice none 0 0, .int .i64 p] 78)) 78 [.int .i64 0, .string ⟨#[]⟩, .slice none 0 0, .slice none 0 0, .slice none 0 0, .int .i64 0]
      rw [World.size_alloc] at this
      exact this, (Blk.new w 78 [.int .i64 8, .string ⟨#[]⟩, .slice none 0 0, .slice none 0 0, .slice none 0 0, .int .i64 p]).alloc _, ((Keep.refl _ _).alloc _).alloc _, hlt⟩
  obtain ⟨rto, hraw⟩ := hr.raw
  obtain ⟨ra, rlen, rcap, _, _, rb⟩ := hraw.nil
  obtain ⟨c0, c1, c2, c3, c4, cf⟩ := rb.fiveR
  have hd : decide ((rlen : Int) + 1 < (rlen : Int)) = false := by simp; omega
  go_enter Tryz.func84, Tryz.ntmps84
  go_wp2_with fail
  go_quiet (fail)
  have B1 := B0.call (B0.rd.drewN nq) (Keep.drewN' _ _ nq)
  clear c0 c1 c2 c3 c4 cf hd
  have lwP := B1.res.lt
  have own : World.ownsRow (((w.alloc (.cells #[.int .i64 8, .string ⟨#[]⟩, .slice none 0 0, .slice none 0 0, .slice none 0 0, .int .i64 p] 78)).alloc (.cells #[.int .i64 0, .string ⟨#[]⟩, .slice none 0 0, .slice none 0 0, .slice none 0 0, .int .i64 0] 78)).drewN nq) (w.heap.size + 2) 100 5 (.slice none 0 0) 0 [] := World.ownsRow_nil _ _ _ _
  have lw1 := B1.loc.lt
  go_wp2_with fail
  have bX := B1.loc
  have rr := B1.rd
  have lX := B1.loc.lt
  have hwr : IntKind.i64.wrap ((d : Int) + 1) = (d : Int) + 1 := IntWalk.i64_in _ (by omega)
  have hSx : Blk (((w.alloc (.cells #[.int .i64 8, .string ⟨#[]⟩, .slice none 0 0, .slice none 0 0, .slice none 0 0, .int .i64 p] 78)).alloc (.cells #[.int .i64 0, .string ⟨#[]⟩, .slice none 0 0, .slice none 0 0, .slice none 0 0, .int .i64 0] 78)).drewN nq).drew (w.heap.size) 78 [.int .i64 8, .string ⟨#[]⟩, .slice none 0 0, .slice none 0 0, .slice none 0 0, .int .i64 p] := bX
  refine phase_begin (fun w' => Blk w' (w.heap.size) 78 [.int .i64 8, .string ⟨#[]⟩, .slice none 0 0, .slice none 0 0, .slice none 0 0, .int .i64 p]) 9 (by kernel_rfl) ?_
  refine phase_take (i := 0) (v := .pointer (some ⟨w.heap.size, 2, none⟩)) rfl (by kernel_rfl) (by omega) (by kernel_rfl) (by kernel_rfl) (by kernel_rfl) (fun _ _ _ h => h) ⟨by rfl, ?_⟩ hSx ?_
  · intro wS hSw
    have s0 := Blk.cell hSw 2
    have sl := Blk.lt hSw
    simp only [List.getElem?_cons_zero, List.getElem?_cons_succ] at s0
    go_simp
  try simp only [Act.put, List.getElem_toArray, List.getElem_cons_succ, List.getElem_cons_zero, List.setIfInBounds_toArray, List.set_cons_zero, List.set_cons_succ]
  refine phase_take (i := 1) (v := .slice none 0 0) rfl (by kernel_rfl) (by omega) (by kernel_rfl) (by kernel_rfl) (by kernel_rfl) (fun _ _ _ h => h) ⟨by rfl, ?_⟩ hSx ?_
  · intro wS hSw
    have s0 := Blk.cell hSw 2
    have sl := Blk.lt hSw
    simp only [List.getElem?_cons_zero, List.getElem?_cons_succ] at s0
    go_simp
  try simp only [Act.put, List.getElem_toArray, List.getElem_cons_succ, List.getElem_cons_zero, List.setIfInBounds_toArray, List.set_cons_zero, List.set_cons_succ]
  refine phase_take (i := 2) (v := .pointer (some ⟨br, 0, none⟩)) rfl (by kernel_rfl) (by omega) (by kernel_rfl) (by kernel_rfl) (by kernel_rfl) (fun _ _ _ h => h) ⟨by rfl, fun wS hSw => by go_simp⟩ hSx ?_
  try simp only [Act.put, List.getElem_toArray, List.getElem_cons_succ, List.getElem_cons_zero, List.setIfInBounds_toArray, List.set_cons_zero, List.set_cons_succ]
  refine phase_take (i := 3) (v := .int .i64 d) rfl (by kernel_rfl) (by omega) (by kernel_rfl) (by kernel_rfl) (by kernel_rfl) (fun _ _ _ h => h) ⟨by rfl, fun wS hSw => by go_simp⟩ hSx ?_
  try simp only [Act.put, List.getElem_toArray, List.getElem_cons_succ, List.getElem_cons_zero, List.setIfInBounds_toArray, List.set_cons_zero, List.set_cons_succ]
  refine phase_take (i := 4) (v := .int .i64 ((d : Int) + 1)) rfl (by kernel_rfl) (by omega) (by kernel_rfl) (by kernel_rfl) (by kernel_rfl) (fun _ _ _ h => h) ⟨by rfl, fun wS hSw => by go_simp⟩ hSx ?_
  try simp only [Act.put, List.getElem_toArray, List.getElem_cons_succ, List.getElem_cons_zero, List.setIfInBounds_toArray, List.set_cons_zero, List.set_cons_succ]
  refine phase_one (i := 5) (by kernel_rfl) (by omega) rfl (by rfl) (fun K hK => ?_)
  go_simp
  refine (HE.out _ br n (.ok []) trivial (rr.ext (Ext.refl _).drew)).mono ?_
  rintro e' w3q1 ⟨⟨vsq1, rfl, ⟨opq1, numq1, textq1, kaq1, knq1, kcq1, at_q1, rfl⟩, hxq1⟩, r3q1, k3q1⟩
  have b3q1 := hSx.keep k3q1 (by simp; omega)
  have HXq1 := hid hxq1
  clear hxq1
  refine hK _ _ ⟨b3q1, ?_⟩
  clear hK K
  try simp only [Act.put, List.getElem_toArray, List.getElem_cons_succ, List.getElem_cons_zero, List.setIfInBounds_toArray, List.set_cons_zero, List.set_cons_succ]
  refine phase_one (i := 6) (by kernel_rfl) (by omega) rfl (by rfl) (fun K hK => ?_)
  go_simp
  refine hK _ _ ⟨b3q1.alloc _, ?_⟩
  clear hK K
  try simp only [Act.put, List.getElem_toArray, List.getElem_cons_succ, List.getElem_cons_zero, List.setIfInBounds_toArray, List.set_cons_zero, List.set_cons_succ]
  have own4q1 := (ownsRow_keep own ((Keep.refl [br] _).drew.trans' k3q1) (fun b hb _ hq => by simp only [List.mem_singleton] at hb; subst hb; have := (own.lt _ hq).1; omega)).alloc (.cells #[.int .i64 opq1, .int .i64 numq1, .string ⟨textq1.toArray⟩, .slice kaq1 knq1 kcq1, .int .i64 at_q1] 100)
  have sz3q1 := k3q1.size
  simp only [World.size_drew] at sz3q1
  refine phase_one (i := 7) (by kernel_rfl) (by omega) rfl (by rfl) (fun K hK => ?_)
  refine wp_append_lies _ (.tmp 78) (.tmp 83) 76 (by rfl) (w.heap.size + 2) 100 i0 (.agg #[.int .i64 0, .int .i64 0, .string ⟨#[]⟩, .slice none 0 0, .int .i64 0]) 5 64 Tryz.underlying76 hi0 hz0 hz1 hz2 rfl (by omega) (.slice none 0 0) 0 [] (by rfl) own4q1 ⟨w3q1.heap.size, 0, none⟩ 1 1
    [.int .i64 opq1, .int .i64 numq1, .string ⟨textq1.toArray⟩, .slice kaq1 knq1 kcq1, .int .i64 at_q1] (by rfl) (by rfl) (news_cells _ _ _ _ rfl) (by simp [Value.oneCell']) (by omega) (by simp only [maxLen]; omega) (by omega) (by simp; omega) (w3q1.heap.size + 1) (by simp) (fun gq1 capq1 w5q1 hown5q1 hgrq1 hatq1 hgltq1 => ?_)
  have lgq1 : w.heap.size + 2 ≤ gq1 := (hown5q1.lt gq1 rfl).1
  have lownq1 : ∀ q ∈ ownL (.slice none 0 0), w.heap.size + 2 ≤ q ∧ q < (((w.alloc (.cells #[.int .i64 8, .string ⟨#[]⟩, .slice none 0 0, .slice none 0 0, .slice none 0 0, .int .i64 p] 78)).alloc (.cells #[.int .i64 0, .string ⟨#[]⟩, .slice none 0 0, .slice none 0 0, .slice none 0 0, .int .i64 0] 78)).drewN nq).heap.size := fun q hq => own.lt q (mem_ownL.1 hq)
  have kkq1 := Keep.grownBy hgrq1 (ownL (.slice none 0 0)) (fun k hk => mem_ownL.2 hk)
  have b5q1 := (b3q1.alloc (.cells #[.int .i64 opq1, .int .i64 numq1, .string ⟨textq1.toArray⟩, .slice kaq1 knq1 kcq1, .int .i64 at_q1] 100)).keep kkq1 (fun hq => by have := (lownq1 _ hq).1; omega)
  refine hK _ _ ⟨b5q1, ?_⟩
  clear hK K
  try simp only [Act.put, List.getElem_toArray, List.getElem_cons_succ, List.getElem_cons_zero, List.setIfInBounds_toArray, List.set_cons_zero, List.set_cons_succ]
  refine phase_take (i := 8) (v := .pointer (some ⟨w.heap.size, 2, none⟩)) rfl (by kernel_rfl) (by omega) (by kernel_rfl) (by kernel_rfl) (by kernel_rfl) (fun _ _ _ h => h) ⟨by rfl, ?_⟩ (show Blk w5q1 (w.heap.size) 78 [.int .i64 8, .string ⟨#[]⟩, .slice none 0 0, .slice none 0 0, .slice none 0 0, .int .i64 p] from b5q1) ?_
  · intro wS hSw
    have s0 := Blk.cell hSw 2
    have sl := Blk.lt hSw
    simp only [List.getElem?_cons_zero, List.getElem?_cons_succ] at s0
    go_simp
  try simp only [Act.put, List.getElem_toArray, List.getElem_cons_succ, List.getElem_cons_zero, List.setIfInBounds_toArray, List.set_cons_zero, List.set_cons_succ]
  have c5q1 := b5q1.cell 2
  have f5q1 := b5q1.frozen 2
  have l5q1 := b5q1.lt
  simp only [List.getElem?_cons_zero, List.getElem?_cons_succ] at c5q1
  refine phase_late (i := 9) (by kernel_rfl) (by omega) rfl (by rfl) (fun K hK => ?_)
  go_simp
  refine hK _ _ ?_
  clear hK K
  try simp only [Act.put, List.getElem_toArray, List.getElem_cons_succ, List.getElem_cons_zero, List.setIfInBounds_toArray, List.set_cons_zero, List.set_cons_succ]
  have bX6q1 := b5q1.set 2 (.slice (some ⟨gq1, 0, none⟩) 1 capq1)
  simp only [List.set_cons_zero, List.set_cons_succ] at bX6q1
  have kSq1 := Keep.set w5q1 ⟨w.heap.size, 2, none⟩ (.slice (some ⟨gq1, 0, none⟩) 1 capq1)
  have r6q1 := ((r3q1.ext ((Ext.refl _).alloc (.cells #[.int .i64 opq1, .int .i64 numq1, .string ⟨textq1.toArray⟩, .slice kaq1 knq1 kcq1, .int .i64 at_q1] 100))).keep kkq1 (fun q hq => by have := (lownq1 q hq).1; omega)).keep kSq1 (fun q hq => by simp only [List.mem_singleton] at hq; omega)
  have kAq1 : Keep (br :: (w.heap.size) :: ownL (.slice none 0 0)) (((w.alloc (.cells #[.int .i64 8, .string ⟨#[]⟩, .slice none 0 0, .slice none 0 0, .slice none 0 0, .int .i64 p] 78)).alloc (.cells #[.int .i64 0, .string ⟨#[]⟩, .slice none 0 0, .slice none 0 0, .slice none 0 0, .int .i64 0] 78)).drewN nq) (w5q1.setCell ⟨w.heap.size, 2, none⟩ (.slice (some ⟨gq1, 0, none⟩) 1 capq1)) :=
    ((((Keep.refl _ _).drew.trans k3q1 (by simp)).alloc _).trans kkq1 (fun q hq => .inl (by simp [hq]))).trans kSq1 (by simp)
  have own6q1 := ownsRow_keep hown5q1 kSq1 (fun b hb _ hq => by simp only [List.mem_singleton] at hb; subst hb; simp only [Value.ownBlock, Option.some.injEq] at hq; omega)
  refine wpAny_done (by kernel_rfl) ?_ _
  clear c5q1 f5q1 hSx b3q1 own4q1
  have SM1 := B1.push (v := .slice none 0 0) r6q1 bX6q1 kAq1 (fun q hq => (lownq1 q hq).1)
  have HF1 : Hid (∀ x, Giv E (.ok []) x → ExIs _ (fun b => (((w.alloc (.cells #[.int .i64 8, .string ⟨#[]⟩, .slice none 0 0, .slice none 0 0, .slice none 0 0, .int .i64 p] 78)).alloc (.cells #[.int .i64 0, .string ⟨#[]⟩, .slice none 0 0, .slice none 0 0, .slice none 0 0, .int .i64 0] 78)).drewN nq).heap.size ≤ b ∧ b < w3q1.heap.size) x [.int .i64 opq1, .int .i64 numq1, .string ⟨textq1.toArray⟩, .slice kaq1 knq1 kcq1, .int .i64 at_q1]) := fun x hg =>
    ExIs.carry (Carry.keep kSq1 (fun b hb _ hf => by simp only [List.mem_singleton] at hb; omega) (fun b _ hf => hf)) _ _ (ExIs.carry (Carry.keep kkq1 (fun b hb _ hf => by have := (lownq1 b hb).2; omega) (fun b _ hf => hf)) _ _ (ExIs.carry (Carry.keep (Keep.ofExt ((Ext.refl _).alloc (.cells #[.int .i64 opq1, .int .i64 numq1, .string ⟨textq1.toArray⟩, .slice kaq1 knq1 kcq1, .int .i64 at_q1] 100)) : Keep [] _ _) (G := fun b => (((w.alloc (.cells #[.int .i64 8, .string ⟨#[]⟩, .slice none 0 0, .slice none 0 0, .slice none 0 0, .int .i64 p] 78)).alloc (.cells #[.int .i64 0, .string ⟨#[]⟩, .slice none 0 0, .slice none 0 0, .slice none 0 0, .int .i64 0] 78)).drewN nq).heap.size ≤ b ∧ b < w3q1.heap.size) (by simp) (fun b hlt hf => ⟨hf, hlt⟩)) _ _ (HXq1.out x hg)))
  have kQ1 := Keep.refl [br, (w.heap.size + 1), w.heap.size] (w5q1.setCell ⟨w.heap.size, 2, none⟩ (.slice (some ⟨gq1, 0, none⟩) 1 capq1))
  clear HXq1
  have kO1 := Keep.refl [br, (w.heap.size + 1), w.heap.size] (w5q1.setCell ⟨w.heap.size, 2, none⟩ (.slice (some ⟨gq1, 0, none⟩) 1 capq1))
  have kQ1 := Keep.refl [br, w.heap.size, gq1, (w.heap.size + 1)] (w5q1.setCell ⟨w.heap.size, 2, none⟩ (.slice (some ⟨gq1, 0, none⟩) 1 capq1))
  go_wp2_with fail
  refine (rMust_any _ br n _ SM1.rd [59]).mono ?_
  rintro e' w1m ⟨rfl, rN1, kN1⟩
  have C2 := SM1.call rN1 kN1
  have kQ1 := kQ1.trans kN1 (by simp)
  have kO1 := kO1.trans kN1 (by simp)
  obtain ⟨l0, l1, l2, l3, l4, l5, lf⟩ := C2.loc.sixR
  obtain ⟨m0, m1, m2, m3, m4, m5, mf⟩ := C2.res.sixR
  have lr7 := C2.res.lt
  have lr8 := C2.loc.lt
  have bF := C2.res.put6 (.int .i64 8) (.string ⟨#[]⟩) (.slice (some ⟨gq1, 0, none⟩) 1 capq1) (.slice none 0 0) (.slice none 0 0) (.int .i64 p)
  have kF := Keep.put6 w1m (w.heap.size + 1) (.int .i64 8) (.string ⟨#[]⟩) (.slice (some ⟨gq1, 0, none⟩) 1 capq1) (.slice none 0 0) (.slice none 0 0) (.int .i64 p)
  obtain ⟨x0, x1, x2, x3, x4, x5, _⟩ := bF.sixR
  have kQ1 := kQ1.trans kF (by simp)
  have kO1 := kO1.trans kF (by simp)
  go_wp2_with fail
  refine bodyPost_ret (v := .agg #[.int .i64 8, .string ⟨#[]⟩, .slice (some ⟨gq1, 0, none⟩) 1 capq1, .slice none 0 0, .slice none 0 0, .int .i64 p]) (by simp [results, Tryz.results84, go_sem, x0, x1, x2, x3, x4, x5]) rfl ⟨⟨_, rfl, ⟨8, [], _, 1, _, none, 0, 0, none, 0, 0, p, rfl⟩, fun x hg => ?_⟩, ?_, C2.keep.trans kF (by simp)⟩
  · obtain ⟨y1, g1, hg⟩ := giv_sq n (show Giv (sqR E _) (.ok []) x from hg)
    obtain ⟨_, _, hg⟩ := giv_sq n hg
    obtain rfl := giv_ret hg
    have ownF := ownsRow_keep own6q1 kO1 (fun b hb _ hq => by have := (own6q1.lt b hq).1; simp only [List.mem_cons, List.not_mem_nil, or_false] at hb; omega)
    have hdsz : w.heap.size + 2 ≤ ((((w.alloc (.cells #[.int .i64 8, .string ⟨#[]⟩, .slice none 0 0, .slice none 0 0, .slice none 0 0, .int .i64 p] 78)).alloc (.cells #[.int .i64 0, .string ⟨#[]⟩, .slice none 0 0, .slice none 0 0, .slice none 0 0, .int .i64 0] 78)).drewN nq)).heap.size := by have := lwP; omega
    have hy1 := ExIs.carry (Carry.keep kQ1 (G := (w.heap.size ≤ ·)) (fun b hb hlt hf => by have hf1 : ((((w.alloc (.cells #[.int .i64 8, .string ⟨#[]⟩, .slice none 0 0, .slice none 0 0, .slice none 0 0, .int .i64 p] 78)).alloc (.cells #[.int .i64 0, .string ⟨#[]⟩, .slice none 0 0, .slice none 0 0, .slice none 0 0, .int .i64 0] 78)).drewN nq)).heap.size ≤ b := hf.1; have hf2 := hf.2; simp only [List.mem_cons, List.not_mem_nil, or_false] at hb; (first | omega | (rcases hatq1 with h | h <;> first | omega | (simp [Value.ownBlock] at h)))) (fun b _ hf => by have hf1 : ((((w.alloc (.cells #[.int .i64 8, .string ⟨#[]⟩, .slice none 0 0, .slice none 0 0, .slice none 0 0, .int .i64 p] 78)).alloc (.cells #[.int .i64 0, .string ⟨#[]⟩, .slice none 0 0, .slice none 0 0, .slice none 0 0, .int .i64 0] 78)).drewN nq)).heap.size ≤ b := hf.1; show w.heap.size ≤ b; omega)) _ _ (HF1.out y1 g1)
    simp only [StIs]
    exact ⟨_, _, _, rfl, own_row1 ownF (fun b hb => by show w.heap.size ≤ b; omega) hy1, st_row_none _ _ _ (by simp [StsIs]), st_row_none _ _ _ (by simp [StsIs])⟩
  · rw [aft_doR]
    exact C2.rd.keep kF (by simp; omega)
set_option maxHeartbeats 32000000 in
theorem rPlain_one (d : Nat) (hd0 : d ≤ 32) (E : Rd Ex) (hE : ExC Any 83 ((d : Int) + 1) E) (w : World) (br n : Nat) (t : Tok) (hr : ReAt w br n (.ok [t])) (p : Nat) :
    Calls Tryz.prog 84 #[.pointer (some ⟨br, 0, none⟩), .agg #[.int .i64 0, .string ⟨#[]⟩, .slice none 0 0, .slice none 0 0, .slice none 0 0, .int .i64 p], .int .i64 d] w (StPost w br n (.ok [t]) (doR E p)) := by
  obtain ⟨i0, hi0, hz0, hz1, hz2⟩ := info_parts Tryz.infoExpr
  have hwr0 : IntKind.i64.wrap ((d : Int) + 1) = (d : Int) + 1 := IntWalk.i64_in _ (by omega)
  have HE := hid hE
  clear hE
  have hlt := hr.lt
  have B0 : PmAt w ((w.alloc (.cells #[.int .i64 8, .string ⟨#[]⟩, .slice none 0 0, .slice none 0 0, .slice none 0 0, .int .i64 p] 78)).alloc (.cells #[.int .i64 0, .string ⟨#[]⟩, .slice none 0 0, .slice none 0 0, .slice none 0 0, .int .i64 0] 78)) br n (.ok [t]) [.int .i64 8, .string ⟨#[]⟩, .slice none 0 0, .slice none 0 0, .slice none 0 0, .int .i64 p] :=
    ⟨(hr.ext ((Ext.refl _).alloc _)).ext ((Ext.refl _).alloc _), by
      have := Blk.new (w.alloc (.cells #[.int .i64 8, .string ⟨#[]⟩, .slice none 0 0, .slice none 0 0, .slice none 0 0, .int .i64 p] 78)) 78 [.int .i64 0, .string ⟨#[]⟩, .slice none 0 0, .slice none 0 0, .slice none 0 0, .int .i64 0]
      rw [World.size_alloc] at this
      exact this, (Blk.new w 78 [.int .i64 8, .string ⟨#[]⟩, .slice none 0 0, .slice none 0 0, .slice none 0 0, .int .i64 p]).alloc _, ((Keep.refl _ _).alloc _).alloc _, hlt⟩
  obtain ⟨rto, hraw⟩ := hr.raw
  obtain ⟨tb, toff, rlen, rcap, rk, q1, q2, q3, q4, q5, rb, d0, d1, d2, d3, _, hnx⟩ := hraw.cons
  obtain ⟨c0, c1, c2, c3, c4, cf⟩ := rb.fiveR
  have hk' : rlen = rk + 1 := by have := q4; unfold Hid at this; simpa using this
  clear q4 hnx
  have hd : decide ((rk : Int) + 1 < (rlen : Int)) = false := by simp; omega
  go_enter Tryz.func84, Tryz.ntmps84
  go_wp2_with fail
  go_quiet (fail)
  have B1 := B0.call (B0.rd.drewN nq) (Keep.drewN' _ _ nq)
  clear c0 c1 c2 c3 c4 cf hd d0 d1 d2 d3
  have lwP := B1.res.lt
  have own : World.ownsRow (((w.alloc (.cells #[.int .i64 8, .string ⟨#[]⟩, .slice none 0 0, .slice none 0 0, .slice none 0 0, .int .i64 p] 78)).alloc (.cells #[.int .i64 0, .string ⟨#[]⟩, .slice none 0 0, .slice none 0 0, .slice none 0 0, .int .i64 0] 78)).drewN nq) (w.heap.size + 2) 100 5 (.slice none 0 0) 0 [] := World.ownsRow_nil _ _ _ _
  have lw1 := B1.loc.lt
  go_wp2_with fail
  have bX := B1.loc
  have rr := B1.rd
  have lX := B1.loc.lt
  have hwr : IntKind.i64.wrap ((d : Int) + 1) = (d : Int) + 1 := IntWalk.i64_in _ (by omega)
  have hSx : Blk (((w.alloc (.cells #[.int .i64 8, .string ⟨#[]⟩, .slice none 0 0, .slice none 0 0, .slice none 0 0, .int .i64 p] 78)).alloc (.cells #[.int .i64 0, .string ⟨#[]⟩, .slice none 0 0, .slice none 0 0, .slice none 0 0, .int .i64 0] 78)).drewN nq).drew (w.heap.size) 78 [.int .i64 8, .string ⟨#[]⟩, .slice none 0 0, .slice none 0 0, .slice none 0 0, .int .i64 p] := bX
  refine phase_begin (fun w' => Blk w' (w.heap.size) 78 [.int .i64 8, .string ⟨#[]⟩, .slice none 0 0, .slice none 0 0, .slice none 0 0, .int .i64 p]) 9 (by kernel_rfl) ?_
  refine phase_take (i := 0) (v := .pointer (some ⟨w.heap.size, 2, none⟩)) rfl (by kernel_rfl) (by omega) (by kernel_rfl) (by kernel_rfl) (by kernel_rfl) (fun _ _ _ h => h) ⟨by rfl, ?_⟩ hSx ?_
  · intro wS hSw
    have s0 := Blk.cell hSw 2
    have sl := Blk.lt hSw
    simp only [List.getElem?_cons_zero, List.getElem?_cons_succ] at s0
    go_simp
  try simp only [Act.put, List.getElem_toArray, List.getElem_cons_succ, List.getElem_cons_zero, List.setIfInBounds_toArray, List.set_cons_zero, List.set_cons_succ]
  refine phase_take (i := 1) (v := .slice none 0 0) rfl (by kernel_rfl) (by omega) (by kernel_rfl) (by kernel_rfl) (by kernel_rfl) (fun _ _ _ h => h) ⟨by rfl, ?_⟩ hSx ?_
  · intro wS hSw
    have s0 := Blk.cell hSw 2
    have sl := Blk.lt hSw
    simp only [List.getElem?_cons_zero, List.getElem?_cons_succ] at s0
    go_simp
  try simp only [Act.put, List.getElem_toArray, List.getElem_cons_succ, List.getElem_cons_zero, List.setIfInBounds_toArray, List.set_cons_zero, List.set_cons_succ]
  refine phase_take (i := 2) (v := .pointer (some ⟨br, 0, none⟩)) rfl (by kernel_rfl) (by omega) (by kernel_rfl) (by kernel_rfl) (by kernel_rfl) (fun _ _ _ h => h) ⟨by rfl, fun wS hSw => by go_simp⟩ hSx ?_
  try simp only [Act.put, List.getElem_toArray, List.getElem_cons_succ, List.getElem_cons_zero, List.setIfInBounds_toArray, List.set_cons_zero, List.set_cons_succ]
  refine phase_take (i := 3) (v := .int .i64 d) rfl (by kernel_rfl) (by omega) (by kernel_rfl) (by kernel_rfl) (by kernel_rfl) (fun _ _ _ h => h) ⟨by rfl, fun wS hSw => by go_simp⟩ hSx ?_
  try simp only [Act.put, List.getElem_toArray, List.getElem_cons_succ, List.getElem_cons_zero, List.setIfInBounds_toArray, List.set_cons_zero, List.set_cons_succ]
  refine phase_take (i := 4) (v := .int .i64 ((d : Int) + 1)) rfl (by kernel_rfl) (by omega) (by kernel_rfl) (by kernel_rfl) (by kernel_rfl) (fun _ _ _ h => h) ⟨by rfl, fun wS hSw => by go_simp⟩ hSx ?_
  try simp only [Act.put, List.getElem_toArray, List.getElem_cons_succ, List.getElem_cons_zero, List.setIfInBounds_toArray, List.set_cons_zero, List.set_cons_succ]
  refine phase_one (i := 5) (by kernel_rfl) (by omega) rfl (by rfl) (fun K hK => ?_)
  go_simp
  refine (HE.out _ br n (.ok [t]) trivial (rr.ext (Ext.refl _).drew)).mono ?_
  rintro e' w3q1 ⟨⟨vsq1, rfl, ⟨opq1, numq1, textq1, kaq1, knq1, kcq1, at_q1, rfl⟩, hxq1⟩, r3q1, k3q1⟩
  have b3q1 := hSx.keep k3q1 (by simp; omega)
  have HXq1 := hid hxq1
  clear hxq1
  refine hK _ _ ⟨b3q1, ?_⟩
  clear hK K
  try simp only [Act.put, List.getElem_toArray, List.getElem_cons_succ, List.getElem_cons_zero, List.setIfInBounds_toArray, List.set_cons_zero, List.set_cons_succ]
  refine phase_one (i := 6) (by kernel_rfl) (by omega) rfl (by rfl) (fun K hK => ?_)
  go_simp
  refine hK _ _ ⟨b3q1.alloc _, ?_⟩
  clear hK K
  try simp only [Act.put, List.getElem_toArray, List.getElem_cons_succ, List.getElem_cons_zero, List.setIfInBounds_toArray, List.set_cons_zero, List.set_cons_succ]
  have own4q1 := (ownsRow_keep own ((Keep.refl [br] _).drew.trans' k3q1) (fun b hb _ hq => by simp only [List.mem_singleton] at hb; subst hb; have := (own.lt _ hq).1; omega)).alloc (.cells #[.int .i64 opq1, .int .i64 numq1, .string ⟨textq1.toArray⟩, .slice kaq1 knq1 kcq1, .int .i64 at_q1] 100)
  have sz3q1 := k3q1.size
  simp only [World.size_drew] at sz3q1
  refine phase_one (i := 7) (by kernel_rfl) (by omega) rfl (by rfl) (fun K hK => ?_)
  refine wp_append_lies _ (.tmp 78) (.tmp 83) 76 (by rfl) (w.heap.size + 2) 100 i0 (.agg #[.int .i64 0, .int .i64 0, .string ⟨#[]⟩, .slice none 0 0, .int .i64 0]) 5 64 Tryz.underlying76 hi0 hz0 hz1 hz2 rfl (by omega) (.slice none 0 0) 0 [] (by rfl) own4q1 ⟨w3q1.heap.size, 0, none⟩ 1 1
    [.int .i64 opq1, .int .i64 numq1, .string ⟨textq1.toArray⟩, .slice kaq1 knq1 kcq1, .int .i64 at_q1] (by rfl) (by rfl) (news_cells _ _ _ _ rfl) (by simp [Value.oneCell']) (by omega) (by simp only [maxLen]; omega) (by omega) (by simp; omega) (w3q1.heap.size + 1) (by simp) (fun gq1 capq1 w5q1 hown5q1 hgrq1 hatq1 hgltq1 => ?_)
  have lgq1 : w.heap.size + 2 ≤ gq1 := (hown5q1.lt gq1 rfl).1
  have lownq1 : ∀ q ∈ ownL (.slice none 0 0), w.heap.size + 2 ≤ q ∧ q < (((w.alloc (.cells #[.int .i64 8, .string ⟨#[]⟩, .slice none 0 0, .slice none 0 0, .slice none 0 0, .int .i64 p] 78)).alloc (.cells #[.int .i64 0, .string ⟨#[]⟩, .slice none 0 0, .slice none 0 0, .slice none 0 0, .int .i64 0] 78)).drewN nq).heap.size := fun q hq => own.lt q (mem_ownL.1 hq)
  have kkq1 := Keep.grownBy hgrq1 (ownL (.slice none 0 0)) (fun k hk => mem_ownL.2 hk)
  have b5q1 := (b3q1.alloc (.cells #[.int .i64 opq1, .int .i64 numq1, .string ⟨textq1.toArray⟩, .slice kaq1 knq1 kcq1, .int .i64 at_q1] 100)).keep kkq1 (fun hq => by have := (lownq1 _ hq).1; omega)
  refine hK _ _ ⟨b5q1, ?_⟩
  clear hK K
  try simp only [Act.put, List.getElem_toArray, List.getElem_cons_succ, List.getElem_cons_zero, List.setIfInBounds_toArray, List.set_cons_zero, List.set_cons_succ]
  refine phase_take (i := 8) (v := .pointer (some ⟨w.heap.size, 2, none⟩)) rfl (by kernel_rfl) (by omega) (by kernel_rfl) (by kernel_rfl) (by kernel_rfl) (fun _ _ _ h => h) ⟨by rfl, ?_⟩ (show Blk w5q1 (w.heap.size) 78 [.int .i64 8, .string ⟨#[]⟩, .slice none 0 0, .slice none 0 0, .slice none 0 0, .int .i64 p] from b5q1) ?_
  · intro wS hSw
    have s0 := Blk.cell hSw 2
    have sl := Blk.lt hSw
    simp only [List.getElem?_cons_zero, List.getElem?_cons_succ] at s0
    go_simp
  try simp only [Act.put, List.getElem_toArray, List.getElem_cons_succ, List.getElem_cons_zero, List.setIfInBounds_toArray, List.set_cons_zero, List.set_cons_succ]
  have c5q1 := b5q1.cell 2
  have f5q1 := b5q1.frozen 2
  have l5q1 := b5q1.lt
  simp only [List.getElem?_cons_zero, List.getElem?_cons_succ] at c5q1
  refine phase_late (i := 9) (by kernel_rfl) (by omega) rfl (by rfl) (fun K hK => ?_)
  go_simp
  refine hK _ _ ?_
  clear hK K
  try simp only [Act.put, List.getElem_toArray, List.getElem_cons_succ, List.getElem_cons_zero, List.setIfInBounds_toArray, List.set_cons_zero, List.set_cons_succ]
  have bX6q1 := b5q1.set 2 (.slice (some ⟨gq1, 0, none⟩) 1 capq1)
  simp only [List.set_cons_zero, List.set_cons_succ] at bX6q1
  have kSq1 := Keep.set w5q1 ⟨w.heap.size, 2, none⟩ (.slice (some ⟨gq1, 0, none⟩) 1 capq1)
  have r6q1 := ((r3q1.ext ((Ext.refl _).alloc (.cells #[.int .i64 opq1, .int .i64 numq1, .string ⟨textq1.toArray⟩, .slice kaq1 knq1 kcq1, .int .i64 at_q1] 100))).keep kkq1 (fun q hq => by have := (lownq1 q hq).1; omega)).keep kSq1 (fun q hq => by simp only [List.mem_singleton] at hq; omega)
  have kAq1 : Keep (br :: (w.heap.size) :: ownL (.slice none 0 0)) (((w.alloc (.cells #[.int .i64 8, .string ⟨#[]⟩, .slice none 0 0, .slice none 0 0, .slice none 0 0, .int .i64 p] 78)).alloc (.cells #[.int .i64 0, .string ⟨#[]⟩, .slice none 0 0, .slice none 0 0, .slice none 0 0, .int .i64 0] 78)).drewN nq) (w5q1.setCell ⟨w.heap.size, 2, none⟩ (.slice (some ⟨gq1, 0, none⟩) 1 capq1)) :=
    ((((Keep.refl _ _).drew.trans k3q1 (by simp)).alloc _).trans kkq1 (fun q hq => .inl (by simp [hq]))).trans kSq1 (by simp)
  have own6q1 := ownsRow_keep hown5q1 kSq1 (fun b hb _ hq => by simp only [List.mem_singleton] at hb; subst hb; simp only [Value.ownBlock, Option.some.injEq] at hq; omega)
  refine wpAny_done (by kernel_rfl) ?_ _
  clear c5q1 f5q1 hSx b3q1 own4q1
  have SM1 := B1.push (v := .slice none 0 0) r6q1 bX6q1 kAq1 (fun q hq => (lownq1 q hq).1)
  have HF1 : Hid (∀ x, Giv E (.ok [t]) x → ExIs _ (fun b => (((w.alloc (.cells #[.int .i64 8, .string ⟨#[]⟩, .slice none 0 0, .slice none 0 0, .slice none 0 0, .int .i64 p] 78)).alloc (.cells #[.int .i64 0, .string ⟨#[]⟩, .slice none 0 0, .slice none 0 0, .slice none 0 0, .int .i64 0] 78)).drewN nq).heap.size ≤ b ∧ b < w3q1.heap.size) x [.int .i64 opq1, .int .i64 numq1, .string ⟨textq1.toArray⟩, .slice kaq1 knq1 kcq1, .int .i64 at_q1]) := fun x hg =>
    ExIs.carry (Carry.keep kSq1 (fun b hb _ hf => by simp only [List.mem_singleton] at hb; omega) (fun b _ hf => hf)) _ _ (ExIs.carry (Carry.keep kkq1 (fun b hb _ hf => by have := (lownq1 b hb).2; omega) (fun b _ hf => hf)) _ _ (ExIs.carry (Carry.keep (Keep.ofExt ((Ext.refl _).alloc (.cells #[.int .i64 opq1, .int .i64 numq1, .string ⟨textq1.toArray⟩, .slice kaq1 knq1 kcq1, .int .i64 at_q1] 100)) : Keep [] _ _) (G := fun b => (((w.alloc (.cells #[.int .i64 8, .string ⟨#[]⟩, .slice none 0 0, .slice none 0 0, .slice none 0 0, .int .i64 p] 78)).alloc (.cells #[.int .i64 0, .string ⟨#[]⟩, .slice none 0 0, .slice none 0 0, .slice none 0 0, .int .i64 0] 78)).drewN nq).heap.size ≤ b ∧ b < w3q1.heap.size) (by simp) (fun b hlt hf => ⟨hf, hlt⟩)) _ _ (HXq1.out x hg)))
  have kQ1 := Keep.refl [br, (w.heap.size + 1), w.heap.size] (w5q1.setCell ⟨w.heap.size, 2, none⟩ (.slice (some ⟨gq1, 0, none⟩) 1 capq1))
  clear HXq1
  have kO1 := Keep.refl [br, (w.heap.size + 1), w.heap.size] (w5q1.setCell ⟨w.heap.size, 2, none⟩ (.slice (some ⟨gq1, 0, none⟩) 1 capq1))
  have kQ1 := Keep.refl [br, w.heap.size, gq1, (w.heap.size + 1)] (w5q1.setCell ⟨w.heap.size, 2, none⟩ (.slice (some ⟨gq1, 0, none⟩) 1 capq1))
  go_wp2_with fail
  refine (rMust_any _ br n _ SM1.rd [59]).mono ?_
  rintro e' w1m ⟨rfl, rN1, kN1⟩
  have C2 := SM1.call rN1 kN1
  have kQ1 := kQ1.trans kN1 (by simp)
  have kO1 := kO1.trans kN1 (by simp)
  obtain ⟨l0, l1, l2, l3, l4, l5, lf⟩ := C2.loc.sixR
  obtain ⟨m0, m1, m2, m3, m4, m5, mf⟩ := C2.res.sixR
  have lr7 := C2.res.lt
  have lr8 := C2.loc.lt
  have bF := C2.res.put6 (.int .i64 8) (.string ⟨#[]⟩) (.slice (some ⟨gq1, 0, none⟩) 1 capq1) (.slice none 0 0) (.slice none 0 0) (.int .i64 p)
  have kF := Keep.put6 w1m (w.heap.size + 1) (.int .i64 8) (.string ⟨#[]⟩) (.slice (some ⟨gq1, 0, none⟩) 1 capq1) (.slice none 0 0) (.slice none 0 0) (.int .i64 p)
  obtain ⟨x0, x1, x2, x3, x4, x5, _⟩ := bF.sixR
  have kQ1 := kQ1.trans kF (by simp)
  have kO1 := kO1.trans kF (by simp)
  go_wp2_with fail
  refine bodyPost_ret (v := .agg #[.int .i64 8, .string ⟨#[]⟩, .slice (some ⟨gq1, 0, none⟩) 1 capq1, .slice none 0 0, .slice none 0 0, .int .i64 p]) (by simp [results, Tryz.results84, go_sem, x0, x1, x2, x3, x4, x5]) rfl ⟨⟨_, rfl, ⟨8, [], _, 1, _, none, 0, 0, none, 0, 0, p, rfl⟩, fun x hg => ?_⟩, ?_, C2.keep.trans kF (by simp)⟩
  · obtain ⟨y1, g1, hg⟩ := giv_sq n (show Giv (sqR E _) (.ok [t]) x from hg)
    obtain ⟨_, _, hg⟩ := giv_sq n hg
    obtain rfl := giv_ret hg
    have ownF := ownsRow_keep own6q1 kO1 (fun b hb _ hq => by have := (own6q1.lt b hq).1; simp only [List.mem_cons, List.not_mem_nil, or_false] at hb; omega)
    have hdsz : w.heap.size + 2 ≤ ((((w.alloc (.cells #[.int .i64 8, .string ⟨#[]⟩, .slice none 0 0, .slice none 0 0, .slice none 0 0, .int .i64 p] 78)).alloc (.cells #[.int .i64 0, .string ⟨#[]⟩, .slice none 0 0, .slice none 0 0, .slice none 0 0, .int .i64 0] 78)).drewN nq)).heap.size := by have := lwP; omega
    have hy1 := ExIs.carry (Carry.keep kQ1 (G := (w.heap.size ≤ ·)) (fun b hb hlt hf => by have hf1 : ((((w.alloc (.cells #[.int .i64 8, .string ⟨#[]⟩, .slice none 0 0, .slice none 0 0, .slice none 0 0, .int .i64 p] 78)).alloc (.cells #[.int .i64 0, .string ⟨#[]⟩, .slice none 0 0, .slice none 0 0, .slice none 0 0, .int .i64 0] 78)).drewN nq)).heap.size ≤ b := hf.1; have hf2 := hf.2; simp only [List.mem_cons, List.not_mem_nil, or_false] at hb; (first | omega | (rcases hatq1 with h | h <;> first | omega | (simp [Value.ownBlock] at h)))) (fun b _ hf => by have hf1 : ((((w.alloc (.cells #[.int .i64 8, .string ⟨#[]⟩, .slice none 0 0, .slice none 0 0, .slice none 0 0, .int .i64 p] 78)).alloc (.cells #[.int .i64 0, .string ⟨#[]⟩, .slice none 0 0, .slice none 0 0, .slice none 0 0, .int .i64 0] 78)).drewN nq)).heap.size ≤ b := hf.1; show w.heap.size ≤ b; omega)) _ _ (HF1.out y1 g1)
    simp only [StIs]
    exact ⟨_, _, _, rfl, own_row1 ownF (fun b hb => by show w.heap.size ≤ b; omega) hy1, st_row_none _ _ _ (by simp [StsIs]), st_row_none _ _ _ (by simp [StsIs])⟩
  · rw [aft_doR]
    exact C2.rd.keep kF (by simp; omega)
end Go.Proofs.YtaehlakefgnfmaaGreatDoor
