/-
  DERIVED. THE WALK of function (printed by gen_funb.py).
-/
import Derived.Test.YtaehlakefgnfmaaDoorFun
namespace Go.Proofs.YtaehlakefgnfmaaDoor
set_option linter.unusedSimpArgs false
set_option linter.unusedVariables false
set_option maxRecDepth 100000
open Go.RowKit

/-- A function in new memory. -/
def encF (B : Nat) (w' : World) (f : Fu) (v : Value) : Prop := ∃ vs, v = .agg vs.toArray ∧ FuIs w' (B ≤ ·) f vs
/-- Where function stands. -/
structure FnAt (w wr : World) (br n : Nat) (ts : List Tok) (nm : List UInt8) (ps : List Pa) (rs : Nat) (bd : List St) (at_ : Nat) (vp vb : Value) : Prop where
  lr : br < w.heap.size
  b1 : Blk wr w.heap.size 57 [.pointer (some ⟨br, 0, none⟩)]
  b2 : Blk wr (w.heap.size + 1) 47 [.string ⟨#[]⟩, .slice none 0 0, .int .i64 0, .slice none 0 0, .int .i64 0]
  b3 : Blk wr (w.heap.size + 1 + 1) 47 [.string ⟨nm.toArray⟩, vp, .int .i64 rs, vb, .int .i64 at_]
  pr : RowIs wr (w.heap.size + 3 ≤ ·) vp ps.length (PasIs wr (w.heap.size + 3 ≤ ·) ps)
  bd : RowIs wr (w.heap.size + 3 ≤ ·) vb bd.length (fun ks => StsIs wr (w.heap.size + 3 ≤ ·) bd ks)
  rd : RdAt wr br n ts
  keep : Keep [br] w wr
theorem FnAt.move {w wr : World} {br n at_ rs : Nat} {ts : List Tok} {nm : List UInt8} {ps : List Pa} {bd : List St} {vp vb : Value} (h : FnAt w wr br n ts nm ps rs bd at_ vp vb) {w' : World} {ts' : List Tok} (r : RdAt w' br n ts') (k : Keep [br] wr w') : FnAt w w' br n ts' nm ps rs bd at_ vp vb := by
  have := h.lr
  have c : Carry wr w' (w.heap.size + 3 ≤ ·) (w.heap.size + 3 ≤ ·) := Carry.keep k (fun b hb _ hf => by simp at hb; omega) fun b _ hf => hf
  exact ⟨h.lr, h.b1.keep k (by simp; omega), h.b2.keep k (by simp; omega), h.b3.keep k (by simp; omega), h.pr.carry c fun _ hk => hk, h.bd.sts c, r, h.keep.trans' k⟩
theorem FnAt.size {w wr : World} {br n at_ rs : Nat} {ts : List Tok} {nm : List UInt8} {ps : List Pa} {bd : List St} {vp vb : Value} (h : FnAt w wr br n ts nm ps rs bd at_ vp vb) : w.heap.size + 3 ≤ wr.heap.size := by have := h.b3.lt; omega
theorem FnAt.setName {w wr : World} {br n at_ rs : Nat} {ts : List Tok} {nm : List UInt8} {ps : List Pa} {bd : List St} {vp vb : Value} (h : FnAt w wr br n ts nm ps rs bd at_ vp vb) (nm' : List UInt8) :
    FnAt w (wr.setCell ⟨w.heap.size + 1 + 1, 0, none⟩ (.string ⟨nm'.toArray⟩)) br n ts nm' ps rs bd at_ vp vb := by
  have := h.lr
  have k := Keep.set wr ⟨w.heap.size + 1 + 1, 0, none⟩ (.string ⟨nm'.toArray⟩)
  have c : Carry wr (wr.setCell ⟨w.heap.size + 1 + 1, 0, none⟩ (.string ⟨nm'.toArray⟩)) (w.heap.size + 3 ≤ ·) (w.heap.size + 3 ≤ ·) := Carry.keep k (fun b hb _ hf => by simp at hb; omega) fun b _ hf => hf
  exact ⟨h.lr, h.b1.keep k (by simp; omega), h.b2.keep k (by simp), h.b3.set 0 _, h.pr.carry c fun _ hk => hk, h.bd.sts c, h.rd.keep k (by simp; omega), h.keep.setCell (.inr (show w.heap.size ≤ w.heap.size + 1 + 1 by omega)) _⟩
theorem FnAt.setRes {w wr : World} {br n at_ rs : Nat} {ts : List Tok} {nm : List UInt8} {ps : List Pa} {bd : List St} {vp vb : Value} (h : FnAt w wr br n ts nm ps rs bd at_ vp vb) (rs' : Nat) :
    FnAt w (wr.setCell ⟨w.heap.size + 1 + 1, 2, none⟩ (.int .i64 rs')) br n ts nm ps rs' bd at_ vp vb := by
  have := h.lr
  have k := Keep.set wr ⟨w.heap.size + 1 + 1, 2, none⟩ (.int .i64 rs')
  have c : Carry wr (wr.setCell ⟨w.heap.size + 1 + 1, 2, none⟩ (.int .i64 rs')) (w.heap.size + 3 ≤ ·) (w.heap.size + 3 ≤ ·) := Carry.keep k (fun b hb _ hf => by simp at hb; omega) fun b _ hf => hf
  exact ⟨h.lr, h.b1.keep k (by simp; omega), h.b2.keep k (by simp), h.b3.set 2 _, h.pr.carry c fun _ hk => hk, h.bd.sts c, h.rd.keep k (by simp; omega), h.keep.setCell (.inr (show w.heap.size ≤ w.heap.size + 1 + 1 by omega)) _⟩
theorem FnAt.setBody {w wr : World} {br n at_ rs : Nat} {ts : List Tok} {nm : List UInt8} {ps : List Pa} {bd : List St} {vp vb : Value} (h : FnAt w wr br n ts nm ps rs bd at_ vp vb) {B : Nat} {bd' : List St} {vb' : Value} (hb : encB B wr bd' vb') (hB : w.heap.size + 3 ≤ B) :
    FnAt w (wr.setCell ⟨w.heap.size + 1 + 1, 3, none⟩ vb') br n ts nm ps rs bd' at_ vp vb' := by
  have := h.lr
  have k := Keep.set wr ⟨w.heap.size + 1 + 1, 3, none⟩ vb'
  have c : Carry wr (wr.setCell ⟨w.heap.size + 1 + 1, 3, none⟩ vb') (w.heap.size + 3 ≤ ·) (w.heap.size + 3 ≤ ·) := Carry.keep k (fun b hb _ hf => by simp at hb; omega) fun b _ hf => hf
  have c' : Carry wr (wr.setCell ⟨w.heap.size + 1 + 1, 3, none⟩ vb') (B ≤ ·) (w.heap.size + 3 ≤ ·) := Carry.keep k (fun b hb _ hf => by simp at hb; omega) fun b _ hf => by omega
  exact ⟨h.lr, h.b1.keep k (by simp; omega), h.b2.keep k (by simp), h.b3.set 3 _, h.pr.carry c fun _ hk => hk, RowIs.sts hb c', h.rd.keep k (by simp; omega), h.keep.setCell (.inr (show w.heap.size ≤ w.heap.size + 1 + 1 by omega)) _⟩
theorem FnAt.cells {w wr : World} {br n at_ rs : Nat} {ts : List Tok} {nm : List UInt8} {ps : List Pa} {bd : List St} {vp vb : Value} (h : FnAt w wr br n ts nm ps rs bd at_ vp vb) : wr.cell? ⟨w.heap.size, 0, none⟩ = some (.pointer (some ⟨br, 0, none⟩)) ∧
    (wr.cell? ⟨w.heap.size + 1 + 1, 0, none⟩ = some (.string ⟨nm.toArray⟩) ∧ wr.cell? ⟨w.heap.size + 1 + 1, 1, none⟩ = some vp ∧ wr.cell? ⟨w.heap.size + 1 + 1, 2, none⟩ = some (.int .i64 rs) ∧ wr.cell? ⟨w.heap.size + 1 + 1, 3, none⟩ = some vb ∧ wr.cell? ⟨w.heap.size + 1 + 1, 4, none⟩ = some (.int .i64 at_) ∧ (∀ i, wr.frozen? ⟨w.heap.size + 1 + 1, i, none⟩ = false)) ∧
    (wr.cell? ⟨w.heap.size + 1, 0, none⟩ = some (.string ⟨#[]⟩) ∧ wr.cell? ⟨w.heap.size + 1, 1, none⟩ = some (.slice none 0 0) ∧ wr.cell? ⟨w.heap.size + 1, 2, none⟩ = some (.int .i64 0) ∧ wr.cell? ⟨w.heap.size + 1, 3, none⟩ = some (.slice none 0 0) ∧ wr.cell? ⟨w.heap.size + 1, 4, none⟩ = some (.int .i64 0) ∧ (∀ i, wr.frozen? ⟨w.heap.size + 1, i, none⟩ = false)) :=
  ⟨h.b1.cell 0, h.b3.five, h.b2.five⟩
theorem FnAt.ans {w wr : World} {br n at_ rs : Nat} {ts : List Tok} {nm : List UInt8} {ps : List Pa} {bd : List St} {vp vb : Value} (h : FnAt w wr br n ts nm ps rs bd at_ vp vb) (v2 : Value) (hv : v2 = .int .i64 rs) :
    ∃ wF : World, wF = ((((wr.setCell ⟨w.heap.size + 1, 0, none⟩ (.string ⟨nm.toArray⟩)).setCell ⟨w.heap.size + 1, 1, none⟩ vp).setCell ⟨w.heap.size + 1, 2, none⟩ v2).setCell ⟨w.heap.size + 1, 3, none⟩ vb).setCell ⟨w.heap.size + 1, 4, none⟩ (.int .i64 at_) ∧
      Blk wF (w.heap.size + 1) 47 [.string ⟨nm.toArray⟩, vp, v2, vb, .int .i64 at_] ∧ RdAt wF br n ts ∧ Keep [br] w wF ∧ encF w.heap.size wF ⟨nm, ps, rs, bd, at_⟩ (.agg #[.string ⟨nm.toArray⟩, vp, v2, vb, .int .i64 at_]) := by
  subst hv
  have := h.lr
  obtain ⟨BF, KF⟩ := five_set h.b2 (.string ⟨nm.toArray⟩) vp (.int .i64 rs) vb (.int .i64 at_)
  refine ⟨_, rfl, BF, h.rd.keep KF (by simp; omega), h.keep.trans KF (by simp), _, rfl, ?_⟩
  generalize ((((wr.setCell ⟨w.heap.size + 1, 0, none⟩ (.string ⟨nm.toArray⟩)).setCell ⟨w.heap.size + 1, 1, none⟩ vp).setCell ⟨w.heap.size + 1, 2, none⟩ (.int .i64 rs)).setCell ⟨w.heap.size + 1, 3, none⟩ vb).setCell ⟨w.heap.size + 1, 4, none⟩ (.int .i64 at_) = wF at KF ⊢
  have c : Carry wr wF (w.heap.size + 3 ≤ ·) (w.heap.size ≤ ·) := Carry.keep KF (fun b hb _ hf => by simp at hb; omega) fun b _ hf => by omega
  exact ⟨vp, vb, rfl, h.pr.carry c fun _ hk => hk, h.bd.sts c⟩
theorem rowP_none (w : World) (F : Nat → Prop) : RowIs w F (.slice none 0 0) 0 (PasIs w F []) := ⟨none, 0, [], rfl, Nat.le_refl _, CellsIn.nil _ _ _, rfl⟩
theorem fnAt_begin {w : World} {br n : Nat} {ts : List Tok} (hr : RdAt w br n ts) (p : Nat) :
    FnAt w (((w.alloc (.cells #[.pointer (some ⟨br, 0, none⟩)] 57)).alloc (.cells #[.string ⟨#[]⟩, .slice none 0 0, .int .i64 0, .slice none 0 0, .int .i64 0] 47)).alloc (.cells #[.string ⟨#[]⟩, .slice none 0 0, .int .i64 0, .slice none 0 0, .int .i64 p] 47)) br n ts [] [] 0 [] p (.slice none 0 0) (.slice none 0 0) := by
  have lr := hr.lt
  have b1 := ((Blk.new w 57 [.pointer (some ⟨br, 0, none⟩)]).alloc (.cells #[.string ⟨#[]⟩, .slice none 0 0, .int .i64 0, .slice none 0 0, .int .i64 0] 47)).alloc (.cells #[.string ⟨#[]⟩, .slice none 0 0, .int .i64 0, .slice none 0 0, .int .i64 p] 47)
  have b2 := (Blk.new (w.alloc (.cells #[.pointer (some ⟨br, 0, none⟩)] 57)) 47 [.string ⟨#[]⟩, .slice none 0 0, .int .i64 0, .slice none 0 0, .int .i64 0]).alloc (.cells #[.string ⟨#[]⟩, .slice none 0 0, .int .i64 0, .slice none 0 0, .int .i64 p] 47)
  have b3 := Blk.new ((w.alloc (.cells #[.pointer (some ⟨br, 0, none⟩)] 57)).alloc (.cells #[.string ⟨#[]⟩, .slice none 0 0, .int .i64 0, .slice none 0 0, .int .i64 0] 47)) 47 [.string ⟨#[]⟩, .slice none 0 0, .int .i64 0, .slice none 0 0, .int .i64 p]
  have e4 : Ext w (((w.alloc (.cells #[.pointer (some ⟨br, 0, none⟩)] 57)).alloc (.cells #[.string ⟨#[]⟩, .slice none 0 0, .int .i64 0, .slice none 0 0, .int .i64 0] 47)).alloc (.cells #[.string ⟨#[]⟩, .slice none 0 0, .int .i64 0, .slice none 0 0, .int .i64 p] 47)) := (((Ext.refl w).alloc _).alloc _).alloc _
  simp only [World.size_alloc] at b1 b2 b3
  exact ⟨lr, b1, b2, b3, rowP_none _ _, rowS_none _ _, hr.ext e4, .ofExt e4⟩

/-- FUNCTION. -/
def FunC (f : Rd Fu) : Prop := ∀ (w : World) (br n : Nat) (ts : List Tok), RdAt w br n ts → Wf ts → Calls Tryd.prog 15 #[.pointer (some ⟨br, 0, none⟩)] w (Ans w br n (encF w.heap.size) (f ts))
theorem fun_at_place {ts : List Tok} {n : Nat} (h : isSign [102, 110] ts = true) : placeOf n ts = headPlace ts := place_eq (st_sign_ne h)
theorem inv_params : Inv (fun l : List Pa => sumOf (fun _ => 1) l + 1) (AllP Pa.wf) (listS paramS) := inv_list inv_param (fun _ => Nat.le_refl _)
set_option maxHeartbeats 8000000 in
theorem function_any : FunC funS := by
  intro w br n ts hr hw
  have HR := hid (show funS ts = must [102, 110] ts fun r => name r fun nm r => must [40] r fun r => (listS paramS r).bind fun ps r => if isSign [58] r then (typS r.tail).bind fun t r => (BK 32 r).bind fun bd r => .ok ⟨nm, ps, t, bd, headPlace ts⟩ r else (BK 32 r).bind fun bd r => .ok ⟨nm, ps, 0, bd, headPlace ts⟩ r from rfl)
  have HB : Hid (∀ (w : World) (br n : Nat) (ts : List Tok), RdAt w br n ts → Wf ts → Calls Tryd.prog 32 #[.pointer (some ⟨br, 0, none⟩), .int .i64 1] w (Ans w br n (encB w.heap.size) (BK 32 ts))) := block_all 32 1 rfl
  have S00 := fnAt_begin hr (placeOf n ts)
  have lr := hr.lt
  have r3 := (hr.ext ((Ext.refl _).alloc (.cells #[.pointer (some ⟨br, 0, none⟩)] 57))).ext ((Ext.refl _).alloc (.cells #[.string ⟨#[]⟩, .slice none 0 0, .int .i64 0, .slice none 0 0, .int .i64 0] 47))
  have hmf : ∀ (fn : Fn) (first cap : Array Value) (w : World), (Instr.makeFunc fn first cap).run Tryd.prog w = .ok (.func fn first cap) w := fun _ _ _ _ => rfl
  generalize funS ts = R at HR ⊢
  have hS := hid S00
  clear S00
  go_enter Tryd.func15, Tryd.ntmps15
  go_wp2_with fail
  (with_reducible refine (place_any _ br n ts r3).mono ?_)
  rintro e1 w' ⟨rfl, rfl⟩
  go_wp2_with fail
  cases h1 : isSign [102, 110] ts with
  | false =>
    have H1 := hid h1
    have HRe := hid (show R = .err 41 ts from HR.out.trans (must_f h1))
    clear h1
    (with_reducible refine (mustN _ br n ts hS.out.rd _ H1.out _ (by simp [World.setCell])).mono ?_)
    rintro e1 w1 ⟨rfl, k1⟩
    go_wp2_with fail
    refine ⟨rfl, ?_⟩
    rw [HRe.out]
    exact ⟨rfl, hS.out.keep.trans' k1⟩
  | true =>
    have H1 := hid h1
    have HR1 := hid (HR.out.trans (must_t h1))
    clear h1
    (with_reducible refine (mustY _ br n ts hS.out.rd _ H1.out _ (by simp [World.setCell])).mono ?_)
    rintro e1 w1 ⟨rfl, r1, k1⟩
    have S1 := hS.out.move r1 k1
    clear r1 k1
    obtain ⟨c1, ⟨x0, x1, x2, x3, x4, xf⟩, ⟨z0, z1, z2, z3, z4, zf⟩⟩ := S1.cells
    go_wp2_with fail
    have HPL := hid (fun_at_place (n := n) H1.out)
    cases h2 : isName (List.tail ts) with
    | false =>
      have H2 := hid h2
      have HRe := hid (show R = .err 41 (List.tail ts) from HR1.out.trans (name_f h2))
      clear h2
      (with_reducible refine (name_no _ br n (List.tail ts) S1.rd H2.out).mono ?_)
      rintro e1 w2 ⟨rfl, k2⟩
      go_wp2_with fail
      refine ⟨rfl, ?_⟩
      rw [HRe.out]
      exact ⟨rfl, S1.keep.trans' k2⟩
    | true =>
      have H2 := hid h2
      have HR2 := hid (HR1.out.trans (name_t h2))
      clear h2
      (with_reducible refine (name_yes _ br n (List.tail ts) S1.rd H2.out).mono ?_)
      rintro e1 w2 ⟨rfl, r2, k2⟩
      have S2 := S1.move r2 k2
      clear c1 x0 x1 x2 x3 x4 xf z0 z1 z2 z3 z4 zf
      clear r2 k2
      obtain ⟨c1, ⟨x0, x1, x2, x3, x4, xf⟩, ⟨z0, z1, z2, z3, z4, zf⟩⟩ := S2.cells
      go_wp2_with fail
      have T2 := S2.setName (headText (List.tail ts))
      cases h3 : isSign [40] (List.tail (List.tail ts)) with
      | false =>
        have H3 := hid h3
        have HRe := hid (show R = .err 41 (List.tail (List.tail ts)) from HR2.out.trans (must_f h3))
        clear h3
        (with_reducible refine (mustN _ br n (List.tail (List.tail ts)) T2.rd _ H3.out _ (by simp [World.setCell])).mono ?_)
        rintro e1 w3 ⟨rfl, k3⟩
        go_wp2_with fail
        refine ⟨rfl, ?_⟩
        rw [HRe.out]
        exact ⟨rfl, T2.keep.trans' k3⟩
      | true =>
        have H3 := hid h3
        have HR3 := hid (HR2.out.trans (must_t h3))
        clear h3
        (with_reducible refine (mustY _ br n (List.tail (List.tail ts)) T2.rd _ H3.out _ (by simp [World.setCell])).mono ?_)
        rintro e1 w3 ⟨rfl, r3, k3⟩
        have S3 := T2.move r3 k3
        clear c1 x0 x1 x2 x3 x4 xf z0 z1 z2 z3 z4 zf
        clear r3 k3
        obtain ⟨c1, ⟨x0, x1, x2, x3, x4, xf⟩, ⟨z0, z1, z2, z3, z4, zf⟩⟩ := S3.cells
        go_wp2_with fail
        have hsz4 := S3.size
        refine (list_any (fn_reads w br n lr (.string ⟨(headText (List.tail ts)).toArray⟩) (.int .i64 ((0 : Nat) : Int)) (.slice none 0 0) (.int .i64 (placeOf n ts))) inv_param (fun _ => Nat.le_refl _) _ (List.tail (List.tail (List.tail ts))) S3.rd hw.tail.tail.tail ⟨S3.b1, S3.b2, S3.keep, hsz4⟩ ⟨_, S3.b3, OwnX.nil _ _ _ _⟩).mono ?_
        cases h4 : listS paramS (List.tail (List.tail (List.tail ts))) with
        | err ce rr =>
          have HRe := hid (show R = .err ce rr from HR3.out.trans (bind_f h4))
          clear h4
          rintro e1 w4 ⟨rfl, k4⟩
          go_wp2_with fail
          refine ⟨rfl, ?_⟩
          rw [HRe.out]
          exact ⟨rfl, k4.keep⟩
        | ok ps q =>
          have HR4 := hid (HR3.out.trans (bind_t h4))
          have hF := inv_params _ hw.tail.tail.tail
          rw [h4] at hF
          have HW := hid hF.2.2
          clear h4 hF
          rintro e1 w4 ⟨rfl, ⟨sv, h5, hown⟩, r4, k4⟩
          obtain ⟨sa, sc, rfl⟩ := hown.form
          have S4 : FnAt w w4 br n q (headText (List.tail ts)) ps 0 [] (placeOf n ts) (.slice sa ps.length sc) (.slice none 0 0) := ⟨lr, k4.b1, k4.b2, h5, hown.row, rowS_none _ _, r4, k4.keep⟩
          clear c1 x0 x1 x2 x3 x4 xf z0 z1 z2 z3 z4 zf
          obtain ⟨c1, ⟨x0, x1, x2, x3, x4, xf⟩, ⟨z0, z1, z2, z3, z4, zf⟩⟩ := S4.cells
          go_wp2_with fail
          cases h5 : isSign [58] q with
          | false =>
            have H5 := hid h5
            have HR5 := hid (show R = (BK 32 q).bind fun bd r => .ok ⟨headText (List.tail ts), ps, 0, bd, headPlace ts⟩ r by rw [HR4.out, if_neg (by rw [h5]; decide)])
            clear h5
            (with_reducible refine (take_no _ br n q S4.rd _ H5.out).mono ?_)
            rintro e1 w5 ⟨rfl, r5, k5⟩
            have S5 := S4.move r5 k5
            clear c1 x0 x1 x2 x3 x4 xf z0 z1 z2 z3 z4 zf
            clear r5 k5
            obtain ⟨c1, ⟨x0, x1, x2, x3, x4, xf⟩, ⟨z0, z1, z2, z3, z4, zf⟩⟩ := S5.cells
            go_wp2_with fail
            refine (HB.out _ br n q S5.rd HW.out).mono ?_
            cases h6 : BK 32 q with
            | err ce6 rr6 =>
              have HRe := hid (show R = .err ce6 rr6 from HR5.out.trans (bind_f h6))
              clear h6
              rintro e1 w6 ⟨rfl, k6⟩
              go_wp2_with fail
              refine ⟨rfl, ?_⟩
              rw [HRe.out]
              exact ⟨rfl, S5.keep.trans' k6⟩
            | ok y6 rr6 =>
              have HR6 := hid (HR5.out.trans (bind_t h6))
              clear h6
              rintro e1 w6 ⟨v6, rfl, hv6, r6, k6⟩
              obtain ⟨va6, vc6, vk6, rfl, hvr6⟩ := hv6
              have hvx6 : encB _ w6 y6 _ := ⟨va6, vc6, vk6, rfl, hvr6⟩
              clear hvr6
              have hsz6 := S5.size
              have S6 := S5.move r6 k6
              clear c1 x0 x1 x2 x3 x4 xf z0 z1 z2 z3 z4 zf
              clear r6 k6
              obtain ⟨c1, ⟨x0, x1, x2, x3, x4, xf⟩, ⟨z0, z1, z2, z3, z4, zf⟩⟩ := S6.cells
              go_wp2_with fail
              have T6 := S6.setBody hvx6 hsz6
              obtain ⟨wF, hwF, BF, rF, kF, hX⟩ := T6.ans (.int .i64 0) rfl
              rw [← hwF]
              obtain ⟨q0, q1, q2, q3, q4, _⟩ := BF.five
              refine bodyPost_ret (by simp [results, Tryd.results15, go_sem, q0, q1, q2, q3, q4]; rfl) rfl ?_
              rw [show R = .ok ⟨headText (List.tail ts), ps, 0, y6, placeOf n ts⟩ rr6 by rw [HPL.out]; exact HR6.out]
              exact ⟨_, rfl, hX, rF, kF⟩
          | true =>
            have H5 := hid h5
            have HR5 := hid (show R = (typS (List.tail q)).bind fun t r => (BK 32 r).bind fun bd r => .ok ⟨headText (List.tail ts), ps, t, bd, headPlace ts⟩ r by rw [HR4.out, if_pos h5])
            clear h5
            (with_reducible refine (take_yes _ br n q S4.rd _ H5.out).mono ?_)
            rintro e1 w5 ⟨rfl, r5, k5⟩
            have S5 := S4.move r5 k5
            clear c1 x0 x1 x2 x3 x4 xf z0 z1 z2 z3 z4 zf
            clear r5 k5
            obtain ⟨c1, ⟨x0, x1, x2, x3, x4, xf⟩, ⟨z0, z1, z2, z3, z4, zf⟩⟩ := S5.cells
            go_wp2_with fail
            refine (typ_any _ br n _ S5.rd).mono ?_
            cases ht : typS (List.tail q) with
            | err ce rr =>
              have HRe := hid (show R = .err ce rr from HR5.out.trans (bind_f ht))
              clear ht
              rintro e1 wt ⟨rfl, kt⟩
              go_wp2_with fail
              refine ⟨rfl, ?_⟩
              rw [HRe.out]
              exact ⟨rfl, S5.keep.trans' kt⟩
            | ok ty rt =>
              have HRt := hid (HR5.out.trans (bind_t ht))
              have hF := inv_typ _ HW.out.tail
              rw [ht] at hF
              have HWt := hid hF.2.2
              clear ht hF
              rintro e1 wt ⟨vt, rfl, hvt, rdt, kt⟩
              have hvt' : vt = .int .i64 ty := hvt
              subst hvt'
              clear hvt
              have St := S5.move rdt kt
              clear c1 x0 x1 x2 x3 x4 xf z0 z1 z2 z3 z4 zf
              clear rdt kt
              obtain ⟨c1, ⟨x0, x1, x2, x3, x4, xf⟩, ⟨z0, z1, z2, z3, z4, zf⟩⟩ := St.cells
              go_wp2_with fail
              have Tt := St.setRes ty
              refine (HB.out _ br n rt Tt.rd HWt.out).mono ?_
              cases h11 : BK 32 rt with
              | err ce11 rr11 =>
                have HRe := hid (show R = .err ce11 rr11 from HRt.out.trans (bind_f h11))
                clear h11
                rintro e1 w11 ⟨rfl, k11⟩
                go_wp2_with fail
                refine ⟨rfl, ?_⟩
                rw [HRe.out]
                exact ⟨rfl, Tt.keep.trans' k11⟩
              | ok y11 rr11 =>
                have HR11 := hid (HRt.out.trans (bind_t h11))
                clear h11
                rintro e1 w11 ⟨v11, rfl, hv11, r11, k11⟩
                obtain ⟨va11, vc11, vk11, rfl, hvr11⟩ := hv11
                have hvx11 : encB _ w11 y11 _ := ⟨va11, vc11, vk11, rfl, hvr11⟩
                clear hvr11
                have hsz11 := Tt.size
                have S11 := Tt.move r11 k11
                clear c1 x0 x1 x2 x3 x4 xf z0 z1 z2 z3 z4 zf
                clear r11 k11
                obtain ⟨c1, ⟨x0, x1, x2, x3, x4, xf⟩, ⟨z0, z1, z2, z3, z4, zf⟩⟩ := S11.cells
                go_wp2_with fail
                have T11 := S11.setBody hvx11 hsz11
                obtain ⟨wF, hwF, BF, rF, kF, hX⟩ := T11.ans (.int .i64 ty) rfl
                rw [← hwF]
                obtain ⟨q0, q1, q2, q3, q4, _⟩ := BF.five
                refine bodyPost_ret (by simp [results, Tryd.results15, go_sem, q0, q1, q2, q3, q4]; rfl) rfl ?_
                rw [show R = .ok ⟨headText (List.tail ts), ps, ty, y11, placeOf n ts⟩ rr11 by rw [HPL.out]; exact HR11.out]
                exact ⟨_, rfl, hX, rF, kF⟩
end Go.Proofs.YtaehlakefgnfmaaDoor
