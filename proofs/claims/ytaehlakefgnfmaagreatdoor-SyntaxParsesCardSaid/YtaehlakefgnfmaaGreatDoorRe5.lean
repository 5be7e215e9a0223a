/-
  DERIVED. THE WALK of the document's reader's named (printed by gen_re5.py).
-/
import Derived.Test.YtaehlakefgnfmaaGreatDoorRe4
import Derived.Test.YtaehlakefgnfmaaGreatDoorKid
import Derived.Test.YtaehlakefgnfmaaGreatDoorList
import Derived.Test.YtaehlakefgnfmaaGreatDoorBlock
namespace Go.Proofs.YtaehlakefgnfmaaGreatDoor
set_option linter.unusedSimpArgs false
set_option linter.unusedVariables false
set_option maxRecDepth 100000
open Go.RowKit

/-- What follows a name. -/
def namedR (E : Rd Ex) (s : List UInt8) (p : Nat) : Rd Ex := fun r => if isSign [40] r then (listS E r.tail).bind fun ks r => .ok (.mk 5 0 s ks p) r else .ok (.mk 4 0 s [] p) r
theorem OwnX.snocR {α : Type} {En : Enc α} {T : TypeId} {w3 w4 w5 : World} {base B g m cap : Nat} {v : Value} {acc : List α} {ks us : List Value} {x : α} (hall : En.all w4 (fun b => base ≤ b ∧ v.ownBlock ≠ some b) acc ks) (hx : En.one w3 (B ≤ ·) x us) (e : Ext w3 w4)
    (hB : ∀ k, v.ownBlock = some k → k < B) (hbase : base ≤ B) (hown5 : w5.ownsRow base T En.size (.slice (some ⟨g, 0, none⟩) m cap) (acc.length + 1) (ks ++ us)) (hgr : w4.grownBy w5 v.ownBlock) (hat : v.ownBlock = some g ∨ g = w4.heap.size) : OwnX En T w5 base (.slice (some ⟨g, 0, none⟩) m cap) (acc ++ [x]) :=
  OwnX.snoc (a := x) hall (En.carry (Carry.keep (Keep.ofExt e : Keep [] _ _) (by simp) (fun b hb hf => by have hf' : B ≤ b := hf; exact ⟨by omega, fun hq => by have := hB b hq; omega⟩)) _ _ hx) hown5 hgr (fun q hq => by
    simp only [Value.ownBlock, Option.some.injEq] at hq
    subst hq
    rcases hat with hat | hat
    · exact .inl hat
    · right; omega)
def NmRel (w : World) (br n bx : Nat) (s : List UInt8) (p : Nat) (E : Rd Ex) (R : Res (List Ex)) (k : Nat) (wr : World) : Prop :=
  ∃ va m vc, Blk wr w.heap.size 100 ex0 ∧ Blk wr bx 100 [.int .i64 5, .int .i64 0, .string ⟨s.toArray⟩, .slice va m vc, .int .i64 p] ∧ Keep [br] w wr ∧ m ≤ 2048 ∧ 0 < k ∧ (∃ ks, wr.ownsRow (bx + 1) 100 5 (.slice va m vc) m ks) ∧
    ((∃ acc us, ReAt wr br n (.ok us) ∧ m = acc.length ∧ OwnX exEnc 100 wr (bx + 1) (.slice va m vc) acc ∧ acc.length + us.length ≤ 2048 ∧ us.length + 1 < k ∧ R = listGo E (k - 1) acc.isEmpty acc us) ∨ (∃ x q, ReAt wr br n (.bad x q) ∧ toS n R = .bad x q))
theorem named_no {E : Rd Ex} {s : List UInt8} {p : Nat} {us : List Tok} (h : isSign [40] us = false) : namedR E s p us = .ok (.mk 4 0 s [] p) us := by
  unfold namedR
  rw [h]; rfl
theorem toS_bind {α β : Type} {n : Nat} {R : Res α} {f : α → β} : toS n (R.bind fun a r => .ok (f a) r) = toS n R := by cases R <;> rfl
set_option maxHeartbeats 32000000 in
theorem rNamed_of (d : Nat) (hd : d ≤ 33) (E : Rd Ex) (hE : ExC Any 83 ((d : Int) + 1) E) (hI : Inv Ex.size WFx E) (w : World) (br n : Nat) (us : List Tok) (s : List UInt8) (p : Nat) (hr : ReAt w br n (.ok us)) :
    Calls Tryz.prog 112 #[.pointer (some ⟨br, 0, none⟩), .string ⟨s.toArray⟩, .int .i64 p, .int .i64 d] w (ExPost w br n (.ok us) (namedR E s p)) := by
  obtain ⟨i0, hi0, hz0, hz1, hz2⟩ := info_parts Tryz.infoExpr
  have hlt := hr.lt
  have HE := hid hE
  clear hE
  cases h40 : isSign [40] us with
  | false =>
    have HS := hid h40
    clear h40
    go_enter Tryz.func112, Tryz.ntmps112
    go_wp2_with fail
    refine (rTake_any _ br n _ (hr.ext ((Ext.refl _).alloc _)) [40]).mono ?_
    rintro e' w2 ⟨rfl, r2, k2⟩
    rw [show isS [40] (.ok us) = false from HS.out]
    rw [tkS_no (show isS [40] (.ok us) = false from HS.out)] at r2
    have bR := (Blk.new w 100 ex0).keep k2 (by simp; omega)
    unfold ex0 at bR
    obtain ⟨e0, e1, e2, e3, e4, ef⟩ := bR.fiveR
    have bF := bR.put5 (.int .i64 4) (.int .i64 0) (.string ⟨s.toArray⟩) (.slice none 0 0) (.int .i64 p)
    have kF := Keep.put5 w2 w.heap.size (.int .i64 4) (.int .i64 0) (.string ⟨s.toArray⟩) (.slice none 0 0) (.int .i64 p)
    obtain ⟨x0, x1, x2, x3, x4, _⟩ := bF.fiveR
    have K := ((Keep.refl [br] w).alloc (.cells ex0.toArray 100)).trans' k2
    go_wp2_with fail
    refine bodyPost_ret (v := .agg #[.int .i64 4, .int .i64 0, .string ⟨s.toArray⟩, .slice none 0 0, .int .i64 p]) (by simp [results, Tryz.results112, go_sem, x0, x1, x2, x3, x4]) rfl ⟨⟨_, rfl, ⟨4, 0, s, none, 0, 0, p, rfl⟩, fun x hg => ?_⟩, ?_, K.trans kF (by simp)⟩
    · obtain ⟨r, hg⟩ := giv_ok hg
      rw [named_no HS.out] at hg
      cases hg
      simp only [ExIs]
      exact ⟨_, rfl, none, 0, [], rfl, Nat.le_refl _, CellsIn.nil _ _ _, by simp [ExsIs]⟩
    · simp only [aft]
      rw [named_no HS.out]
      exact r2.keep kF (by simp; omega)
  | true =>
    have HS := hid h40
    have hgl := isSign_len h40
    clear h40
    have HR0 := hid (show listS E us.tail = listGo E (us.tail.length + 1) true [] us.tail from rfl)
    have hmax := hr.wf.2
    go_enter Tryz.func112, Tryz.ntmps112
    go_wp2_with fail
    refine (rTake_any _ br n _ (hr.ext ((Ext.refl _).alloc _)) [40]).mono ?_
    rintro e' w2 ⟨rfl, r2, k2⟩
    rw [show isS [40] (.ok us) = true from HS.out]
    have r2' : ReAt w2 br n (.ok us.tail) := by
      have := r2
      rw [tkS, if_pos HS.out] at this
      exact this
    clear r2
    have bR := (Blk.new w 100 ex0).keep k2 (by simp; omega)
    have lw2 := bR.lt
    have K2 := ((Keep.refl [br] w).alloc (.cells ex0.toArray 100)).trans' k2
    have HREL := hid (show NmRel w br n w2.heap.size s p E (listS E us.tail) (us.tail.length + 2) (w2.alloc (.cells #[.int .i64 5, .int .i64 0, .string ⟨s.toArray⟩, .slice none 0 0, .int .i64 p] 100)) from
      ⟨none, 0, 0, bR.alloc _, Blk.new w2 100 [.int .i64 5, .int .i64 0, .string ⟨s.toArray⟩, .slice none 0 0, .int .i64 p], K2.alloc _, by omega, by omega, ⟨[], World.ownsRow_nil _ _ _ _⟩, .inl ⟨[], us.tail, r2'.ext ((Ext.refl _).alloc _), rfl, OwnX.nil _ _ _ _, by simp; omega, by omega, HR0.out⟩⟩)
    have HLF := hid (show namedR E s p us = (listS E us.tail).bind fun ks r => .ok (.mk 5 0 s ks p) r by unfold namedR; rw [if_pos HS.out])
    clear HR0 hgl
    generalize listS E us.tail = R at HREL HLF
    go_wp2_with fail
    go_loopg [] (us.tail.length + 2) (fun k wr => NmRel w br n w2.heap.size s p E R k wr)
    case atStart => exact HREL.out
    case round =>
      obtain ⟨va, m, vc, b0, bX, kr, hm, hgk, ⟨ks1, own1⟩, hcase⟩ := hrel
      obtain ⟨k, rfl⟩ : ∃ k, gk = k + 1 := ⟨gk - 1, by omega⟩
      have lX := bX.lt
      rcases hcase with ⟨acc, vs1, rr, hmacc, hownX, hl, hltk, hR⟩ | ⟨x, q, rr, hR⟩
      · obtain ⟨k, rfl⟩ : ∃ k', k = k' + 1 := ⟨k - 1, by omega⟩
        have hwu := rr.wf.1
        obtain ⟨rto, hraw⟩ := rr.raw
        obtain ⟨ra, rlen, rcap, rk, _, _, _, rb, _⟩ := hraw.blk
        obtain ⟨c0, c1, c2, c3, c4, cf⟩ := rb.fiveR
        have HOX := hid hownX
        have HM := hid hmacc
        have HR := hid (show R = listGo E (k + 1) acc.isEmpty acc vs1 from hR)
        clear hownX hR HREL hmacc
        cases h41 : isSign [41] vs1 with
        | true =>
          have H41 := hid h41
          clear h41
          have HRA := hid (show R = .ok acc vs1.tail by rw [HR.out, listGo_succ, if_pos H41.out])
          go_wp2_with fail
          refine (rIs_any wr br n _ rr [41]).mono ?_
          rintro e' w3 ⟨rfl, mm, rfl⟩
          rw [show isS [41] (.ok vs1) = true from H41.out]
          go_wp2_with fail
          refine (rMust_any _ br n _ (rr.drewN mm) [41]).mono ?_
          rintro e' w4 ⟨rfl, r4, k4⟩
          have r4' : ReAt w4 br n (.ok vs1.tail) := by
            have := r4
            rw [aft_sign, show isS [41] (.ok vs1) = true from H41.out, if_pos rfl, tkS, if_pos H41.out] at this
            exact this
          clear r4
          have kk4 := (Keep.drewN' [br] wr mm).trans' k4
          have bR4 := b0.keep kk4 (by simp; omega)
          have bX4 := bX.keep kk4 (by simp; omega)
          unfold ex0 at bR4
          obtain ⟨e0, e1, e2, e3, e4, ef⟩ := bR4.fiveR
          obtain ⟨y0, y1, y2, y3, y4, yf⟩ := bX4.fiveR
          have bF := bR4.put5 (.int .i64 5) (.int .i64 0) (.string ⟨s.toArray⟩) (.slice va m vc) (.int .i64 p)
          have kF := Keep.put5 w4 w.heap.size (.int .i64 5) (.int .i64 0) (.string ⟨s.toArray⟩) (.slice va m vc) (.int .i64 p)
          obtain ⟨x0, x1, x2, x3, x4, _⟩ := bF.fiveR
          have lr4 := bR4.lt
          clear c0 c1 c2 c3 c4 cf
          go_wp2_with fail
          refine bodyPost_ret (v := .agg #[.int .i64 5, .int .i64 0, .string ⟨s.toArray⟩, .slice va m vc, .int .i64 p]) (by simp [results, Tryz.results112, go_sem, x0, x1, x2, x3, x4]) rfl ⟨⟨_, rfl, ⟨5, 0, s, va, m, vc, p, rfl⟩, fun x hg => ?_⟩, ?_, (kr.trans' kk4).trans kF (by simp)⟩
          · obtain ⟨r, hg⟩ := giv_ok hg
            rw [HLF.out, HRA.out] at hg
            cases hg
            simp only [ExIs]
            have hrow := ((HOX.out.keep kk4 (by simp; omega)).keep kF (by simp; omega)).row
            rw [← HM.out] at hrow
            refine ⟨_, rfl, ?_⟩
            rw [← HM.out]
            refine RowIs.carry hrow ⟨fun _ _ _ _ h => h, fun b _ hb => ?_⟩ fun ks hk => ExsIs.carry ⟨fun _ _ _ _ h => h, fun b _ hb => ?_⟩ acc ks hk
            all_goals
              have hb' : w2.heap.size + 1 ≤ b := hb
              show w.heap.size ≤ b
              omega
          · simp only [aft]
            rw [HLF.out, toS_bind, HRA.out]
            exact r4'.keep kF (by simp; omega)
        | false =>
          have H41 := hid h41
          clear h41
          have HRB := hid (show R = if acc.isEmpty then (E vs1).bind fun a r => listGo E k false (acc ++ [a]) r else must [44] vs1 fun ts' => (E ts').bind fun a r => listGo E k false (acc ++ [a]) r by
            have := HR.out
            rw [listGo_succ, H41.out] at this
            exact this)
          clear HR
          by_cases hacc : acc = []
          · subst hacc
            obtain rfl : m = 0 := HM.out
            have HRC := hid (show R = (E vs1).bind fun a r => listGo E k false ([] ++ [a]) r from HRB.out)
            clear HRB
            go_wp2_with fail
            refine (rIs_any wr br n _ rr [41]).mono ?_
            rintro e' w3 ⟨rfl, mm, rfl⟩
            rw [show isS [41] (.ok vs1) = false from H41.out]
            have rrW := rr.drewN mm
            have bXW := bX.drewN mm
            obtain ⟨d0, d1, d2, d3, d4, df⟩ := (rb.drewN mm).fiveR
            obtain ⟨y0, y1, y2, y3, y4, yf⟩ := bXW.fiveR
            obtain ⟨ks, own, hall⟩ := HOX.out.keep (Keep.drewN' [] wr mm) (by simp)
            go_wp2_with fail
            have bX := bXW
            have rr := rrW
            have lX : w2.heap.size < (wr.drewN mm).heap.size := bXW.lt
            have HWU := hid hwu
            have lwr := hraw.lt
            clear y0 y1 y2 y3 y4 yf c0 c1 c2 c3 c4 cf d0 d1 d2 d3 d4 df
            have hwr : IntKind.i64.wrap ((d : Int) + 1) = (d : Int) + 1 := IntWalk.i64_in _ (by omega)
            have hSx : Blk (wr.drewN mm).drew (w2.heap.size) 100 [.int .i64 5, .int .i64 0, .string ⟨s.toArray⟩, .slice va 0 vc, .int .i64 p] := bX
            refine phase_begin (fun w' => Blk w' (w2.heap.size) 100 [.int .i64 5, .int .i64 0, .string ⟨s.toArray⟩, .slice va 0 vc, .int .i64 p]) 9 (by kernel_rfl) ?_
            refine phase_take (i := 0) (v := .pointer (some ⟨w2.heap.size, 3, none⟩)) rfl (by kernel_rfl) (by omega) (by kernel_rfl) (by kernel_rfl) (by kernel_rfl) (fun _ _ _ h => h) ⟨by rfl, ?_⟩ hSx ?_
            · intro wS hSw
              have s0 := Blk.cell hSw 3
              have sl := Blk.lt hSw
              simp only [List.getElem?_cons_zero, List.getElem?_cons_succ] at s0
              go_simp
            try simp only [Act.put, List.getElem_toArray, List.getElem_cons_succ, List.getElem_cons_zero, List.setIfInBounds_toArray, List.set_cons_zero, List.set_cons_succ]
            refine phase_take (i := 1) (v := .slice va 0 vc) rfl (by kernel_rfl) (by omega) (by kernel_rfl) (by kernel_rfl) (by kernel_rfl) (fun _ _ _ h => h) ⟨by rfl, ?_⟩ hSx ?_
            · intro wS hSw
              have s0 := Blk.cell hSw 3
              have sl := Blk.lt hSw
              simp only [List.getElem?_cons_zero, List.getElem?_cons_succ] at s0
              go_simp
            try simp only [Act.put, List.getElem_toArray, List.getElem_cons_succ, List.getElem_cons_zero, List.setIfInBounds_toArray, List.set_cons_zero, List.set_cons_succ]
            refine phase_take (i := 2) (v := .pointer (some ⟨br, 0, none⟩)) rfl (by kernel_rfl) (by omega) (by kernel_rfl) (by kernel_rfl) (by kernel_rfl) (fun _ _ _ h => h) ⟨by rfl, fun wS hSw => by go_simp⟩ hSx ?_
            try simp only [Act.put, List.getElem_toArray, List.getElem_cons_succ, List.getElem_cons_zero, List.setIfInBounds_toArray, List.set_cons_zero, List.set_cons_succ]
            refine phase_take (i := 3) (v := .int .i64 d) rfl (by kernel_rfl) (by omega) (by kernel_rfl) (by kernel_rfl) (by kernel_rfl) (fun _ _ _ h => h) ⟨by rfl, fun wS hSw => by go_simp⟩ hSx ?_
            try simp only [Act.put, List.getElem_toArray, List.getElem_cons_succ, List.getElem_cons_zero, List.setIfInBounds_toArray, List.set_cons_zero, List.set_cons_succ]
            refine phase_take (i := 4) (v := .int .i64 ((d : Int) + 1)) rfl (by kernel_rfl) (by omega) (by kernel_rfl) (by kernel_rfl) (by kernel_rfl) (fun _ _ _ h => h) ⟨by rfl, fun wS hSw => by go_simp⟩ hSx ?_
            try simp only [Act.put, List.getElem_toArray, List.getElem_cons_succ, List.getElem_cons_zero, List.setIfInBounds_toArray, List.set_cons_zero, List.set_cons_succ]
            refine phase_one (i := 5) (by kernel_rfl) (by omega) rfl (by rfl) (fun K hK => ?_)
            go_simp
            refine (HE.out _ br n (.ok vs1) trivial (rr.ext (Ext.refl _).drew)).mono ?_
            rintro e' w3 ⟨⟨vs, rfl, ⟨op, num, text, ka, kn, kc, at_, rfl⟩, hx⟩, r3, k3⟩
            have b3 := hSx.keep k3 (by simp; omega)
            have HX := hid hx
            clear hx
            refine hK _ _ ⟨b3, ?_⟩
            clear hK K
            try simp only [Act.put, List.getElem_toArray, List.getElem_cons_succ, List.getElem_cons_zero, List.setIfInBounds_toArray, List.set_cons_zero, List.set_cons_succ]
            refine phase_one (i := 6) (by kernel_rfl) (by omega) rfl (by rfl) (fun K hK => ?_)
            go_simp
            refine hK _ _ ⟨b3.alloc _, ?_⟩
            clear hK K
            try simp only [Act.put, List.getElem_toArray, List.getElem_cons_succ, List.getElem_cons_zero, List.setIfInBounds_toArray, List.set_cons_zero, List.set_cons_succ]
            have own4 := (ownsRow_keep own ((Keep.refl [br] _).drew.trans' k3) (fun b hb _ hq => by simp only [List.mem_singleton] at hb; subst hb; have := (own.lt _ hq).1; omega)).alloc (.cells #[.int .i64 op, .int .i64 num, .string ⟨text.toArray⟩, .slice ka kn kc, .int .i64 at_] 100)
            have sz3 := k3.size
            simp only [World.size_drew] at sz3
            refine phase_one (i := 7) (by kernel_rfl) (by omega) rfl (by rfl) (fun K hK => ?_)
            refine wp_append_lies _ (.tmp 41) (.tmp 46) 76 (by rfl) (w2.heap.size + 1) 100 i0 (.agg #[.int .i64 0, .int .i64 0, .string ⟨#[]⟩, .slice none 0 0, .int .i64 0]) 5 64 Tryz.underlying76 hi0 hz0 hz1 hz2 rfl (by omega) (.slice va 0 vc) 0 ks (by rfl) own4 ⟨w3.heap.size, 0, none⟩ 1 1
              [.int .i64 op, .int .i64 num, .string ⟨text.toArray⟩, .slice ka kn kc, .int .i64 at_] (by rfl) (by rfl) (news_cells _ _ _ _ rfl) (by simp [Value.oneCell']) (by omega) (by simp only [maxLen]; omega) (by omega) (by simp; omega) (w3.heap.size + 1) (by simp) (fun g cap w5 hown5 hgr hat hglt => ?_)
            have lg : w2.heap.size + 1 ≤ g := (hown5.lt g rfl).1
            have lown : ∀ q ∈ ownL (.slice va 0 vc), w2.heap.size + 1 ≤ q ∧ q < (wr.drewN mm).heap.size := fun q hq => own.lt q (mem_ownL.1 hq)
            have kk := Keep.grownBy hgr (ownL (.slice va 0 vc)) (fun k hk => mem_ownL.2 hk)
            have b5 := (b3.alloc (.cells #[.int .i64 op, .int .i64 num, .string ⟨text.toArray⟩, .slice ka kn kc, .int .i64 at_] 100)).keep kk (fun hq => by have := (lown _ hq).1; omega)
            refine hK _ _ ⟨b5, ?_⟩
            clear hK K
            try simp only [Act.put, List.getElem_toArray, List.getElem_cons_succ, List.getElem_cons_zero, List.setIfInBounds_toArray, List.set_cons_zero, List.set_cons_succ]
            refine phase_take (i := 8) (v := .pointer (some ⟨w2.heap.size, 3, none⟩)) rfl (by kernel_rfl) (by omega) (by kernel_rfl) (by kernel_rfl) (by kernel_rfl) (fun _ _ _ h => h) ⟨by rfl, ?_⟩ (show Blk w5 (w2.heap.size) 100 [.int .i64 5, .int .i64 0, .string ⟨s.toArray⟩, .slice va 0 vc, .int .i64 p] from b5) ?_
            · intro wS hSw
              have s0 := Blk.cell hSw 3
              have sl := Blk.lt hSw
              simp only [List.getElem?_cons_zero, List.getElem?_cons_succ] at s0
              go_simp
            try simp only [Act.put, List.getElem_toArray, List.getElem_cons_succ, List.getElem_cons_zero, List.setIfInBounds_toArray, List.set_cons_zero, List.set_cons_succ]
            have c5 := b5.cell 3
            have f5 := b5.frozen 3
            have l5 := b5.lt
            simp only [List.getElem?_cons_zero, List.getElem?_cons_succ] at c5
            refine phase_late (i := 9) (by kernel_rfl) (by omega) rfl (by rfl) (fun K hK => ?_)
            go_simp
            refine hK _ _ ?_
            clear hK K
            try simp only [Act.put, List.getElem_toArray, List.getElem_cons_succ, List.getElem_cons_zero, List.setIfInBounds_toArray, List.set_cons_zero, List.set_cons_succ]
            have bX6 := b5.set 3 (.slice (some ⟨g, 0, none⟩) (0 + 1) cap)
            simp only [List.set_cons_zero, List.set_cons_succ] at bX6
            have kS := Keep.set w5 ⟨w2.heap.size, 3, none⟩ (.slice (some ⟨g, 0, none⟩) (0 + 1) cap)
            have r6 := ((r3.ext ((Ext.refl _).alloc (.cells #[.int .i64 op, .int .i64 num, .string ⟨text.toArray⟩, .slice ka kn kc, .int .i64 at_] 100))).keep kk (fun q hq => by have := (lown q hq).1; omega)).keep kS (fun q hq => by simp only [List.mem_singleton] at hq; omega)
            have kA : Keep (br :: w2.heap.size :: ownL (.slice va 0 vc)) (wr.drewN mm) (w5.setCell ⟨w2.heap.size, 3, none⟩ (.slice (some ⟨g, 0, none⟩) (0 + 1) cap)) :=
              ((((Keep.refl _ _).drew.trans k3 (by simp)).alloc _).trans kk (fun q hq => .inl (by simp [hq]))).trans kS (by simp)
            have own6 := ownsRow_keep hown5 kS (fun b hb _ hq => by simp only [List.mem_singleton] at hb; subst hb; simp only [Value.ownBlock, Option.some.injEq] at hq; omega)
            refine wpAny_done (by kernel_rfl) ?_ _
            clear c5 f5 hSx b3 own4
            cases hE : E vs1 with
            | err xc xr =>
              have HRD := hid (show R = .err xc xr by rw [HRC.out, hE]; rfl)
              have hS := r6
              simp only [aft, hE, toS] at hS
              have b06 := (b0.drewN mm).keep kA (fun hq => by
                simp only [List.mem_cons] at hq
                rcases hq with hq | hq | hq
                · omega
                · omega
                · have := (lown _ hq).1; omega)
              have kr6 := (kr.trans' (Keep.drewN' _ _ mm)).trans kA (fun q hq => by
                simp only [List.mem_cons] at hq
                rcases hq with hq | hq | hq
                · exact .inl (by simp [hq])
                · right; omega
                · right; have := (lown _ hq).1; omega)
              clear hE
              go_wp2_with fail
              go_roundg (k + 1)
              case measure => omega
              case rel => exact ⟨some ⟨g, 0, none⟩, 0 + 1, cap, b06, bX6, kr6, by have := HM.out; omega, by omega, ⟨_, own6⟩, .inr ⟨xc, _, hS, by rw [HRD.out]; rfl⟩⟩
            | ok x r =>
              have HRD := hid (show R = listGo E k false ([] ++ [x]) r by rw [HRC.out, hE]; rfl)
              have hF := hI vs1 HWU.out
              rw [hE] at hF
              have hF1 : x.size + r.length ≤ vs1.length := hF.1
              have hxp := x.size_pos
              have hgx : Giv E (.ok vs1) x := ⟨_, r, rfl, hE⟩
              have hS := r6
              simp only [aft, hE, toS] at hS
              have hsn := OwnX.snocR (En := exEnc) (T := 100) (acc := []) (B := (wr.drewN mm).drew.heap.size) (exEnc.carries (Carry.keep (((Keep.refl [br] _).drew.trans' k3).alloc (.cells #[.int .i64 op, .int .i64 num, .string ⟨text.toArray⟩, .slice ka kn kc, .int .i64 at_] 100)) (by simp; omega) (fun b _ hf => hf)) _ _ hall) (HX.out x hgx) ((Ext.refl _).alloc (.cells #[.int .i64 op, .int .i64 num, .string ⟨text.toArray⟩, .slice ka kn kc, .int .i64 at_] 100)) (fun q hq => (own.lt q hq).2) (by simp only [World.size_drew]; omega) hown5 hgr (by rw [World.size_alloc]; exact hat)
              have hsn6 := hsn.keep kS (fun q hq _ => by simp only [List.mem_singleton] at hq; omega)
              have b06 := (b0.drewN mm).keep kA (fun hq => by
                simp only [List.mem_cons] at hq
                rcases hq with hq | hq | hq
                · omega
                · omega
                · have := (lown _ hq).1; omega)
              have kr6 := (kr.trans' (Keep.drewN' _ _ mm)).trans kA (fun q hq => by
                simp only [List.mem_cons] at hq
                rcases hq with hq | hq | hq
                · exact .inl (by simp [hq])
                · right; omega
                · right; have := (lown _ hq).1; omega)
              clear hE hF
              go_wp2_with fail
              go_roundg (k + 1)
              case measure => omega
              case rel => exact ⟨some ⟨g, 0, none⟩, 0 + 1, cap, b06, bX6, kr6, by have := HM.out; omega, by omega, ⟨_, own6⟩, .inl ⟨[] ++ [x], r, hS, by simp, hsn6, by rw [List.length_append, List.length_singleton]; omega, by omega, by first | (rw [HRD.out]; rfl) | (rw [HRD.out, show ([] ++ [x] : List Ex).isEmpty = false by simp]; rfl)⟩⟩
          · have hmp : ((m : Int) > 0) := by
              have : acc.length ≠ 0 := by simpa using hacc
              have := HM.out
              omega
            have HAE := hid (show acc.isEmpty = false by simpa using hacc)
            clear hacc
            cases h44 : isSign [44] vs1 with
            | false =>
              have H44 := hid h44
              have HRC := hid (show R = .err 41 vs1 by rw [HRB.out, HAE.out, must, h44]; rfl)
              clear h44 HRB
              go_wp2_with fail
              refine (rIs_any wr br n _ rr [41]).mono ?_
              rintro e' w3 ⟨rfl, mm, rfl⟩
              rw [show isS [41] (.ok vs1) = false from H41.out]
              obtain ⟨y0, y1, y2, y3, y4, yf⟩ := (bX.drewN mm).fiveR
              go_wp2_with fail
              refine (rMust_any _ br n _ (rr.drewN mm) [44]).mono ?_
              rintro e' w4 ⟨rfl, r4, k4⟩
              have r4' : ReAt w4 br n (.bad 41 (placeOf n vs1)) := by
                have := r4
                rw [aft_sign, show isS [44] (.ok vs1) = false from H44.out, if_neg (by decide), flS] at this
                exact this
              clear r4
              obtain ⟨_, rest, hraw4⟩ := r4'.rawBad
              obtain ⟨qa, qlen, qcap, qk, _, _, _, qb, _⟩ := hraw4.blk
              obtain ⟨d0, d1, d2, d3, d4, df⟩ := qb.fiveR
              have kk4 := (Keep.drewN' [br] wr mm).trans' k4
              have b04 := b0.keep kk4 (by simp; omega)
              have bX4 := bX.keep kk4 (by simp; omega)
              have own4 := ownsRow_keep own1 kk4 (fun b hb _ hq => by simp only [List.mem_singleton] at hb; subst hb; have := (own1.lt _ hq).1; omega)
              clear c0 c1 c2 c3 c4 cf y0 y1 y2 y3 y4 yf
              go_wp2_with fail
              go_roundg (k + 1)
              case measure => omega
              case rel => exact ⟨va, m, vc, b04, bX4, kr.trans' kk4, hm, by omega, ⟨ks1, own4⟩, .inr ⟨41, _, r4', by rw [HRC.out]; rfl⟩⟩
            | true =>
              have H44 := hid h44
              have hl44 := isSign_len h44
              have HRC := hid (show R = (E vs1.tail).bind fun a r => listGo E k false (acc ++ [a]) r by rw [HRB.out, HAE.out, must, h44]; rfl)
              clear h44 HRB
              go_wp2_with fail
              refine (rIs_any wr br n _ rr [41]).mono ?_
              rintro e' w3 ⟨rfl, mm, rfl⟩
              rw [show isS [41] (.ok vs1) = false from H41.out]
              obtain ⟨y0, y1, y2, y3, y4, yf⟩ := (bX.drewN mm).fiveR
              go_wp2_with fail
              refine (rMust_any _ br n _ (rr.drewN mm) [44]).mono ?_
              rintro e' w4 ⟨rfl, r4, k4⟩
              have r4' : ReAt w4 br n (.ok vs1.tail) := by
                have := r4
                rw [aft_sign, show isS [44] (.ok vs1) = true from H44.out, if_pos rfl, tkS, if_pos H44.out] at this
                exact this
              clear r4
              obtain ⟨rto4, hraw4⟩ := r4'.raw
              obtain ⟨qa, qlen, qcap, qk, _, _, _, qb, _⟩ := hraw4.blk
              have kk4 := (Keep.drewN' [br] wr mm).trans' k4
              have b04 := b0.keep kk4 (by simp; omega)
              have bX4 := bX.keep kk4 (by simp; omega)
              have kr4 := kr.trans' kk4
              have lbX := bX.lt
              obtain ⟨ks, own, hall⟩ := HOX.out.keep kk4 (by simp; omega)
              have lX4 := bX4.lt
              clear c0 c1 c2 c3 c4 cf y0 y1 y2 y3 y4 yf rb bX b0 kr own1 rr
              obtain ⟨d0, d1, d2, d3, d4, df⟩ := qb.fiveR
              go_wp2_with fail
              have bX := bX4
              have rr := r4'
              have HWU := hid (r4'.wf.1)
              have lwr := hraw4.lt
              rw [← HM.out] at own
              clear d0 d1 d2 d3 d4 df
              have hwr : IntKind.i64.wrap ((d : Int) + 1) = (d : Int) + 1 := IntWalk.i64_in _ (by omega)
              have hSx : Blk w4.drew (w2.heap.size) 100 [.int .i64 5, .int .i64 0, .string ⟨s.toArray⟩, .slice va m vc, .int .i64 p] := bX
              refine phase_begin (fun w' => Blk w' (w2.heap.size) 100 [.int .i64 5, .int .i64 0, .string ⟨s.toArray⟩, .slice va m vc, .int .i64 p]) 9 (by kernel_rfl) ?_
              refine phase_take (i := 0) (v := .pointer (some ⟨w2.heap.size, 3, none⟩)) rfl (by kernel_rfl) (by omega) (by kernel_rfl) (by kernel_rfl) (by kernel_rfl) (fun _ _ _ h => h) ⟨by rfl, ?_⟩ hSx ?_
              · intro wS hSw
                have s0 := Blk.cell hSw 3
                have sl := Blk.lt hSw
                simp only [List.getElem?_cons_zero, List.getElem?_cons_succ] at s0
                go_simp
              try simp only [Act.put, List.getElem_toArray, List.getElem_cons_succ, List.getElem_cons_zero, List.setIfInBounds_toArray, List.set_cons_zero, List.set_cons_succ]
              refine phase_take (i := 1) (v := .slice va m vc) rfl (by kernel_rfl) (by omega) (by kernel_rfl) (by kernel_rfl) (by kernel_rfl) (fun _ _ _ h => h) ⟨by rfl, ?_⟩ hSx ?_
              · intro wS hSw
                have s0 := Blk.cell hSw 3
                have sl := Blk.lt hSw
                simp only [List.getElem?_cons_zero, List.getElem?_cons_succ] at s0
                go_simp
              try simp only [Act.put, List.getElem_toArray, List.getElem_cons_succ, List.getElem_cons_zero, List.setIfInBounds_toArray, List.set_cons_zero, List.set_cons_succ]
              refine phase_take (i := 2) (v := .pointer (some ⟨br, 0, none⟩)) rfl (by kernel_rfl) (by omega) (by kernel_rfl) (by kernel_rfl) (by kernel_rfl) (fun _ _ _ h => h) ⟨by rfl, fun wS hSw => by go_simp⟩ hSx ?_
              try simp only [Act.put, List.getElem_toArray, List.getElem_cons_succ, List.getElem_cons_zero, List.setIfInBounds_toArray, List.set_cons_zero, List.set_cons_succ]
              refine phase_take (i := 3) (v := .int .i64 d) rfl (by kernel_rfl) (by omega) (by kernel_rfl) (by kernel_rfl) (by kernel_rfl) (fun _ _ _ h => h) ⟨by rfl, fun wS hSw => by go_simp⟩ hSx ?_
              try simp only [Act.put, List.getElem_toArray, List.getElem_cons_succ, List.getElem_cons_zero, List.setIfInBounds_toArray, List.set_cons_zero, List.set_cons_succ]
              refine phase_take (i := 4) (v := .int .i64 ((d : Int) + 1)) rfl (by kernel_rfl) (by omega) (by kernel_rfl) (by kernel_rfl) (by kernel_rfl) (fun _ _ _ h => h) ⟨by rfl, fun wS hSw => by go_simp⟩ hSx ?_
              try simp only [Act.put, List.getElem_toArray, List.getElem_cons_succ, List.getElem_cons_zero, List.setIfInBounds_toArray, List.set_cons_zero, List.set_cons_succ]
              refine phase_one (i := 5) (by kernel_rfl) (by omega) rfl (by rfl) (fun K hK => ?_)
              go_simp
              refine (HE.out _ br n (.ok vs1.tail) trivial (rr.ext (Ext.refl _).drew)).mono ?_
              rintro e' w3 ⟨⟨vs, rfl, ⟨op, num, text, ka, kn, kc, at_, rfl⟩, hx⟩, r3, k3⟩
              have b3 := hSx.keep k3 (by simp; omega)
              have HX := hid hx
              clear hx
              refine hK _ _ ⟨b3, ?_⟩
              clear hK K
              try simp only [Act.put, List.getElem_toArray, List.getElem_cons_succ, List.getElem_cons_zero, List.setIfInBounds_toArray, List.set_cons_zero, List.set_cons_succ]
              refine phase_one (i := 6) (by kernel_rfl) (by omega) rfl (by rfl) (fun K hK => ?_)
              go_simp
              refine hK _ _ ⟨b3.alloc _, ?_⟩
              clear hK K
              try simp only [Act.put, List.getElem_toArray, List.getElem_cons_succ, List.getElem_cons_zero, List.setIfInBounds_toArray, List.set_cons_zero, List.set_cons_succ]
              have own4 := (ownsRow_keep own ((Keep.refl [br] _).drew.trans' k3) (fun b hb _ hq => by simp only [List.mem_singleton] at hb; subst hb; have := (own.lt _ hq).1; omega)).alloc (.cells #[.int .i64 op, .int .i64 num, .string ⟨text.toArray⟩, .slice ka kn kc, .int .i64 at_] 100)
              have sz3 := k3.size
              simp only [World.size_drew] at sz3
              refine phase_one (i := 7) (by kernel_rfl) (by omega) rfl (by rfl) (fun K hK => ?_)
              refine wp_append_lies _ (.tmp 41) (.tmp 46) 76 (by rfl) (w2.heap.size + 1) 100 i0 (.agg #[.int .i64 0, .int .i64 0, .string ⟨#[]⟩, .slice none 0 0, .int .i64 0]) 5 64 Tryz.underlying76 hi0 hz0 hz1 hz2 rfl (by omega) (.slice va m vc) m ks (by rfl) own4 ⟨w3.heap.size, 0, none⟩ 1 1
                [.int .i64 op, .int .i64 num, .string ⟨text.toArray⟩, .slice ka kn kc, .int .i64 at_] (by rfl) (by rfl) (news_cells _ _ _ _ rfl) (by simp [Value.oneCell']) (by omega) (by simp only [maxLen]; omega) (by omega) (by simp; omega) (w3.heap.size + 1) (by simp) (fun g cap w5 hown5 hgr hat hglt => ?_)
              have lg : w2.heap.size + 1 ≤ g := (hown5.lt g rfl).1
              have lown : ∀ q ∈ ownL (.slice va m vc), w2.heap.size + 1 ≤ q ∧ q < w4.heap.size := fun q hq => own.lt q (mem_ownL.1 hq)
              have kk := Keep.grownBy hgr (ownL (.slice va m vc)) (fun k hk => mem_ownL.2 hk)
              have b5 := (b3.alloc (.cells #[.int .i64 op, .int .i64 num, .string ⟨text.toArray⟩, .slice ka kn kc, .int .i64 at_] 100)).keep kk (fun hq => by have := (lown _ hq).1; omega)
              refine hK _ _ ⟨b5, ?_⟩
              clear hK K
              try simp only [Act.put, List.getElem_toArray, List.getElem_cons_succ, List.getElem_cons_zero, List.setIfInBounds_toArray, List.set_cons_zero, List.set_cons_succ]
              refine phase_take (i := 8) (v := .pointer (some ⟨w2.heap.size, 3, none⟩)) rfl (by kernel_rfl) (by omega) (by kernel_rfl) (by kernel_rfl) (by kernel_rfl) (fun _ _ _ h => h) ⟨by rfl, ?_⟩ (show Blk w5 (w2.heap.size) 100 [.int .i64 5, .int .i64 0, .string ⟨s.toArray⟩, .slice va m vc, .int .i64 p] from b5) ?_
              · intro wS hSw
                have s0 := Blk.cell hSw 3
                have sl := Blk.lt hSw
                simp only [List.getElem?_cons_zero, List.getElem?_cons_succ] at s0
                go_simp
              try simp only [Act.put, List.getElem_toArray, List.getElem_cons_succ, List.getElem_cons_zero, List.setIfInBounds_toArray, List.set_cons_zero, List.set_cons_succ]
              have c5 := b5.cell 3
              have f5 := b5.frozen 3
              have l5 := b5.lt
              simp only [List.getElem?_cons_zero, List.getElem?_cons_succ] at c5
              refine phase_late (i := 9) (by kernel_rfl) (by omega) rfl (by rfl) (fun K hK => ?_)
              go_simp
              refine hK _ _ ?_
              clear hK K
              try simp only [Act.put, List.getElem_toArray, List.getElem_cons_succ, List.getElem_cons_zero, List.setIfInBounds_toArray, List.set_cons_zero, List.set_cons_succ]
              have bX6 := b5.set 3 (.slice (some ⟨g, 0, none⟩) (m + 1) cap)
              simp only [List.set_cons_zero, List.set_cons_succ] at bX6
              have kS := Keep.set w5 ⟨w2.heap.size, 3, none⟩ (.slice (some ⟨g, 0, none⟩) (m + 1) cap)
              have r6 := ((r3.ext ((Ext.refl _).alloc (.cells #[.int .i64 op, .int .i64 num, .string ⟨text.toArray⟩, .slice ka kn kc, .int .i64 at_] 100))).keep kk (fun q hq => by have := (lown q hq).1; omega)).keep kS (fun q hq => by simp only [List.mem_singleton] at hq; omega)
              have kA : Keep (br :: w2.heap.size :: ownL (.slice va m vc)) w4 (w5.setCell ⟨w2.heap.size, 3, none⟩ (.slice (some ⟨g, 0, none⟩) (m + 1) cap)) :=
                ((((Keep.refl _ _).drew.trans k3 (by simp)).alloc _).trans kk (fun q hq => .inl (by simp [hq]))).trans kS (by simp)
              have own6 := ownsRow_keep hown5 kS (fun b hb _ hq => by simp only [List.mem_singleton] at hb; subst hb; simp only [Value.ownBlock, Option.some.injEq] at hq; omega)
              refine wpAny_done (by kernel_rfl) ?_ _
              clear c5 f5 hSx b3 own4
              cases hE : E vs1.tail with
              | err xc xr =>
                have HRD := hid (show R = .err xc xr by rw [HRC.out, hE]; rfl)
                have hS := r6
                simp only [aft, hE, toS] at hS
                have b06 := (b04).keep kA (fun hq => by
                  simp only [List.mem_cons] at hq
                  rcases hq with hq | hq | hq
                  · omega
                  · omega
                  · have := (lown _ hq).1; omega)
                have kr6 := (kr4).trans kA (fun q hq => by
                  simp only [List.mem_cons] at hq
                  rcases hq with hq | hq | hq
                  · exact .inl (by simp [hq])
                  · right; omega
                  · right; have := (lown _ hq).1; omega)
                clear hE
                go_wp2_with fail
                go_roundg (k + 1)
                case measure => omega
                case rel => exact ⟨some ⟨g, 0, none⟩, m + 1, cap, b06, bX6, kr6, by have := HM.out; omega, by omega, ⟨_, own6⟩, .inr ⟨xc, _, hS, by rw [HRD.out]; rfl⟩⟩
              | ok x r =>
                have HRD := hid (show R = listGo E k false (acc ++ [x]) r by rw [HRC.out, hE]; rfl)
                have hF := hI vs1.tail HWU.out
                rw [hE] at hF
                have hF1 : x.size + r.length ≤ vs1.tail.length := hF.1
                have hxp := x.size_pos
                have hgx : Giv E (.ok vs1.tail) x := ⟨_, r, rfl, hE⟩
                have hS := r6
                simp only [aft, hE, toS] at hS
                have hsn := OwnX.snocR (En := exEnc) (T := 100) (acc := acc) (B := w4.drew.heap.size) (exEnc.carries (Carry.keep (((Keep.refl [br] _).drew.trans' k3).alloc (.cells #[.int .i64 op, .int .i64 num, .string ⟨text.toArray⟩, .slice ka kn kc, .int .i64 at_] 100)) (by simp; omega) (fun b _ hf => hf)) _ _ hall) (HX.out x hgx) ((Ext.refl _).alloc (.cells #[.int .i64 op, .int .i64 num, .string ⟨text.toArray⟩, .slice ka kn kc, .int .i64 at_] 100)) (fun q hq => (own.lt q hq).2) (by simp only [World.size_drew]; omega) (by rw [← HM.out]; exact hown5) hgr (by rw [World.size_alloc]; exact hat)
                have hsn6 := hsn.keep kS (fun q hq _ => by simp only [List.mem_singleton] at hq; omega)
                have b06 := (b04).keep kA (fun hq => by
                  simp only [List.mem_cons] at hq
                  rcases hq with hq | hq | hq
                  · omega
                  · omega
                  · have := (lown _ hq).1; omega)
                have kr6 := (kr4).trans kA (fun q hq => by
                  simp only [List.mem_cons] at hq
                  rcases hq with hq | hq | hq
                  · exact .inl (by simp [hq])
                  · right; omega
                  · right; have := (lown _ hq).1; omega)
                clear hE hF
                go_wp2_with fail
                go_roundg (k + 1)
                case measure => omega
                case rel => exact ⟨some ⟨g, 0, none⟩, m + 1, cap, b06, bX6, kr6, by have := HM.out; omega, by omega, ⟨_, own6⟩, .inl ⟨acc ++ [x], r, hS, by simpa using HM.out, hsn6, by rw [List.length_append, List.length_singleton]; omega, by omega, by first | (rw [HRD.out]; rfl) | (rw [HRD.out, show (acc ++ [x] : List Ex).isEmpty = false by simp]; rfl)⟩⟩
      · obtain ⟨hx0, rest, hraw⟩ := rr.rawBad
        have hx0' : ((x : Int) == 0) = false := by simp; omega
        obtain ⟨ra, rlen, rcap, rk, _, _, _, rb, _⟩ := hraw.blk
        obtain ⟨c0, c1, c2, c3, c4, cf⟩ := rb.fiveR
        have HRA := hid hR
        clear hR HREL
        go_wp2_with fail
        refine (rMust_any wr br n _ rr [41]).mono ?_
        rintro e' w4 ⟨rfl, r4, k4⟩
        have r4' : ReAt w4 br n (.bad x q) := r4
        have bR4 := b0.keep k4 (by simp; omega)
        have bX4 := bX.keep k4 (by simp; omega)
        unfold ex0 at bR4
        obtain ⟨e0, e1, e2, e3, e4, ef⟩ := bR4.fiveR
        obtain ⟨y0, y1, y2, y3, y4, yf⟩ := bX4.fiveR
        have bF := bR4.put5 (.int .i64 5) (.int .i64 0) (.string ⟨s.toArray⟩) (.slice va m vc) (.int .i64 p)
        have kF := Keep.put5 w4 w.heap.size (.int .i64 5) (.int .i64 0) (.string ⟨s.toArray⟩) (.slice va m vc) (.int .i64 p)
        obtain ⟨x0, x1, x2, x3, x4, _⟩ := bF.fiveR
        clear c0 c1 c2 c3 c4 cf
        go_wp2_with fail
        refine bodyPost_ret (v := .agg #[.int .i64 5, .int .i64 0, .string ⟨s.toArray⟩, .slice va m vc, .int .i64 p]) (by simp [results, Tryz.results112, go_sem, x0, x1, x2, x3, x4]) rfl ⟨⟨_, rfl, ⟨5, 0, s, va, m, vc, p, rfl⟩, fun x' hg => ?_⟩, ?_, (kr.trans' k4).trans kF (by simp)⟩
        · obtain ⟨r, hg⟩ := giv_ok hg
          rw [HLF.out] at hg
          cases R with
          | ok a r' => have := HRA.out; cases this
          | err _ _ => cases hg
        · simp only [aft]
          rw [HLF.out, toS_bind, HRA.out]
          exact r4'.keep kF (by simp; omega)
end Go.Proofs.YtaehlakefgnfmaaGreatDoor
