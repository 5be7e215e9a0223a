/-
  DERIVED. THE WALK of Parse where the text has tokens (printed by gen_parse.py).
-/
import Derived.Test.YtaehlakefgnfmaaDoorParse
namespace Go.Proofs.YtaehlakefgnfmaaDoor
set_option linter.unusedSimpArgs false
set_option linter.unusedVariables false
set_option maxRecDepth 100000
open Go.RowKit

/-- Where Parse stands. -/
structure PaAt (w wr : World) (br n : Nat) (ts : List Tok) (acc : List Fu) (sv : Value) : Prop where
  res : Res3 wr w.heap.size sv (.int .i64 0) (.int .i64 0)
  lb : w.heap.size + 3 ≤ br
  own : OwnX fuEnc 47 wr (br + 1) sv acc
  rd : RdAt wr br n ts
  ext : Ext w wr
theorem PaAt.move {w wr w' : World} {br n : Nat} {ts ts' : List Tok} {acc : List Fu} {sv : Value} (h : PaAt w wr br n ts acc sv) (r : RdAt w' br n ts') (k : Keep [br] wr w') : PaAt w w' br n ts' acc sv := by
  have := h.lb
  exact ⟨h.res.keep k (by simp; omega), h.lb, h.own.keep k (by simp), r, k.below h.ext (by simp; omega)⟩
/-- A store into a block that holds one slice leaves the reader and its tokens. -/
theorem RdAt.storeOther {w : World} {br n p : Nat} {ts : List Tok} {T : TypeId} {sa : Option Addr} {sn sc : Nat} (h : RdAt w br n ts) (hb : Blk w p T [.slice sa sn sc]) (hp : p ≠ br) (u : Value) : RdAt (w.setCell ⟨p, 0, none⟩ u) br n ts := by
  obtain ⟨a, cap, h1, h2, h3⟩ := h
  refine ⟨a, cap, h1.setOther _ hp u, ?_, h3⟩
  cases ts with
  | nil => exact CellsIn.nil _ _ _
  | cons t r =>
    obtain ⟨b0, o0, ha, hl0, hc0⟩ := h2 0 (.int .i64 t.kind) (by simp [encTok])
    have hne : b0 ≠ p := by
      rintro rfl
      rw [Nat.add_zero, hb.cell o0] at hc0
      cases o0 with
      | zero => simp at hc0
      | succ k => simp at hc0
    intro i v hv
    obtain ⟨b, off, ha', hl, hc⟩ := h2 i v hv
    rw [ha] at ha'
    simp only [Option.some.injEq, Addr.mk.injEq, and_true] at ha'
    obtain ⟨rfl, rfl⟩ := ha'
    exact ⟨b0, o0, ha, hl, by rw [World.cell?_setCell_other _ _ _ _ (by intro hq; simp_all)]; exact hc⟩
def PaRel (w : World) (br n : Nat) (R : Res (List Fu)) (k : Nat) (wr : World) : Prop :=
  ∃ acc us sv, PaAt w wr br n us acc sv ∧ Wf us ∧ acc.length + us.length ≤ 2048 ∧ us.length < k ∧ R = progGo k acc us
theorem progGo_nil (f : Nat) (acc : List Fu) : progGo (f + 1) acc [] = .ok acc [] := rfl
theorem progGo_cons (f : Nat) (acc : List Fu) (t : Tok) (r : List Tok) : progGo (f + 1) acc (t :: r) = (funS (t :: r)).bind fun x r => progGo f (acc ++ [x]) r := rfl
theorem encF.form {B : Nat} {w : World} {x : Fu} {v : Value} (h : encF B w x v) : ∃ (nm : List UInt8) (pa : Option Addr) (pn pc rs : Nat) (ba : Option Addr) (bn bc at_ : Nat), v = .agg #[.string ⟨nm.toArray⟩, .slice pa pn pc, .int .i64 rs, .slice ba bn bc, .int .i64 at_] := by
  obtain ⟨vs, rfl, vp, vb, rfl, ⟨pa, pc, pks, rfl, _⟩, ⟨ba, bc, bks, rfl, _⟩⟩ := h
  exact ⟨_, _, _, _, _, _, _, _, _, rfl⟩
theorem encF.is {B : Nat} {w : World} {x : Fu} {l : List Value} (h : encF B w x (.agg l.toArray)) : FuIs w (B ≤ ·) x l := by
  obtain ⟨vs, h1, h2⟩ := h
  have : l = vs := by simpa using h1
  rw [this]; exact h2
theorem parse_results (tmps : Array Value) (k : Nat) (v : Value) (hk : 30 ≤ k) : results Tryd.f9 (tmps.setIfInBounds k v) = results Tryd.f9 tmps := by
  have h2 : (tmps.setIfInBounds k v)[2]? = tmps[2]? := by rw [Array.getElem?_setIfInBounds_ne (by omega)]
  have h3 : (tmps.setIfInBounds k v)[3]? = tmps[3]? := by rw [Array.getElem?_setIfInBounds_ne (by omega)]
  have h4 : (tmps.setIfInBounds k v)[4]? = tmps[4]? := by rw [Array.getElem?_setIfInBounds_ne (by omega)]
  simp [results, Tryd.results9, Array.getD_eq_getD_getElem?, h2, h3, h4]
theorem leaves_results {P : Program} {fn : Func} {tmps tmps' : Array Value} {R : Ending → World → Prop} (h : results fn tmps = results fn tmps') : ∀ (ds : List Deferred) (u : FrameMode) (w : World), Leaves P fn tmps R ds u w → Leaves P fn tmps' R ds u w := by
  intro ds
  induction ds with
  | nil =>
    intro u w hl
    cases u with
    | run => exact hl
    | returning => obtain ⟨v, h1, h2⟩ := hl; exact ⟨v, h ▸ h1, h2⟩
    | panicking c => exact hl
  | cons d ds ih =>
    intro u w hl
    obtain ⟨h1, fv, cap, f, args, h2, h3, h4⟩ := hl
    refine ⟨h1, fv, cap, f, args, h2, h3, h4.mono fun e u' w' hx => ?_⟩
    cases e with
    | returned v => exact ih _ _ hx
    | panicked c => exact ih _ _ hx
    | outgrown => exact hx
/-- What Parse answers, of what the reading came to. -/
def paOut (n : Nat) : Res (List Fu) → Except (Nat × Nat) (List Fu)
  | .ok p _ => .ok p
  | .err c r => .error (c, placeOf n r)

set_option maxHeartbeats 8000000 in
theorem parse_lexYes (w : World) (a : Option Addr) (s : List UInt8) (cap : Nat) (hs : BytesAt w a s) (hcap : s.length ≤ cap) (hmax : s.length ≤ 4096) (ts : List Tok) (h : lex s = .ok ts) (hwf : Wf ts) (hlen : ts.length ≤ 2048) :
    Calls Tryd.prog 9 #[.slice a s.length cap] w fun e w' => parseEnds (paOut s.length (progS ts)) w.heap.size e w' ∧ Ext w w' := by
  obtain ⟨i0, hi0, hz0, hz1, hz2⟩ := info_parts Tryd.infoFunc
  have R0 := res3_begin w
  have hs3 := hs.ext ((((Ext.refl w).alloc (.cells #[.slice none 0 0] 26)).alloc (.cells #[.int .i64 0] 27)).alloc (.cells #[.int .i64 0] 3))
  have H := hid h
  have HF : Hid (FunC funS) := function_any
  have HI : Hid (Inv Fu.size Fu.wf funS) := inv_fun
  have hmf : ∀ (fn : Fn) (first cap : Array Value) (w : World), (Instr.makeFunc fn first cap).run Tryd.prog w = .ok (.func fn first cap) w := fun _ _ _ _ => rfl
  have HRR := hid (show progS ts = progGo (ts.length + 1) [] ts from rfl)
  clear h
  generalize progS ts = R at HRR ⊢
  go_enter_defers Tryd.func9, Tryd.ntmps9
  go_wp2_with fail
  refine (lex_any _ a s cap hs3 hcap).mono ?_
  rintro e w1 ⟨hlx, e1⟩
  rw [H.out] at hlx
  obtain ⟨ax, cx, rfl, hcx, hax, hlcx, hmcx⟩ := hlx
  obtain ⟨⟨c2, f2⟩, ⟨c3, f3⟩, ⟨c4, f4⟩⟩ := (R0.ext e1).cells
  go_wp2_with fail
  have hE1 : Ext w w1 := ((((Ext.refl w).alloc _).alloc _).alloc _).trans e1
  have hsz1 : w.heap.size + 3 ≤ w1.heap.size := by have := e1.size; simp at this; omega
  have P0 : PaAt w (((w1.setCell ⟨w.heap.size + 1, 0, none⟩ (.int .i64 0)).setCell ⟨w.heap.size + 1 + 1, 0, none⟩ (.int .i64 0)).alloc (.cells #[.slice ax ts.length cx, .int .i64 s.length] 59)) w1.heap.size s.length ts [] (.slice none 0 0) := by
    refine ⟨((((R0.ext e1).set3 (.int .i64 0)).set4 (.int .i64 0)).ext ((Ext.refl _).alloc _)), hsz1, OwnX.nil _ _ _ _, ⟨ax, cx, ?_, ?_, hlcx, hmcx, hlen⟩, (((hE1.setCell (p := ⟨w.heap.size + 1, 0, none⟩) (by simp) _).setCell (p := ⟨w.heap.size + 1 + 1, 0, none⟩) (show w.heap.size ≤ w.heap.size + 1 + 1 by omega) _).alloc _)⟩
    · have := Blk.new ((w1.setCell ⟨w.heap.size + 1, 0, none⟩ (.int .i64 0)).setCell ⟨w.heap.size + 1 + 1, 0, none⟩ (.int .i64 0)) 59 [.slice ax ts.length cx, .int .i64 s.length]
      simpa [World.setCell] using this
    · intro i v hv
      obtain ⟨b, off, rfl, hc⟩ := hcx i v hv
      have hb := World.block_lt_of_cell? _ _ hc
      have hb3 := hax _ rfl
      simp only [World.size_alloc] at hb hb3
      refine ⟨b, off, rfl, hb, ?_⟩
      have hk := ((Keep.refl [w.heap.size + 1, w.heap.size + 1 + 1] w1).setCell (p := ⟨w.heap.size + 1, 0, none⟩) (by simp) (.int .i64 0)).setCell (p := ⟨w.heap.size + 1 + 1, 0, none⟩) (by simp) (.int .i64 0)
      exact (hk.alloc _).cellV (by simp; omega) hc
  have HREL := hid (show PaRel w w1.heap.size s.length R (ts.length + 1) _ from ⟨[], ts, _, P0, hwf, by simp; omega, by omega, HRR.out⟩)
  clear c2 c3 c4 f2 f3 f4 P0 R0 hs3 hcx hax
  go_loopg [] (ts.length + 1) (fun k wr => PaRel w w1.heap.size s.length R k wr)
  case atStart => exact HREL.out
  case round =>
    obtain ⟨acc, us, sv, PA, hwu, hl, hlt, hR⟩ := hrel
    obtain ⟨k, rfl⟩ : ∃ k, gk = k + 1 := ⟨gk - 1, by omega⟩
    have HR := hid hR
    clear hR HREL
    obtain ⟨va, vc, rfl⟩ := PA.own.form
    obtain ⟨⟨c2, f2⟩, ⟨c3, f3⟩, ⟨c4, f4⟩⟩ := PA.res.cells
    cases us with
    | nil =>
      obtain ⟨ra, rc, g0, g1, gf⟩ := PA.rd.nil
      have HR2 := hid (show R = .ok acc [] by rw [HR.out, progGo_nil])
      have hPA := hid PA
      clear PA
      go_wp2_with fail
      refine leaves_cons (f := 14) (args := #[.pointer (some ⟨w.heap.size, 0, none⟩), .pointer (some ⟨w.heap.size + 1, 0, none⟩), .pointer (some ⟨w.heap.size + 1 + 1, 0, none⟩)]) (by simp) (by simp [go_sem]) ?_
      refine (catch_idle _ _ _ _).mono ?_
      rintro e u' w9 ⟨rfl, rfl, hE⟩
      have RF := ((((hPA.out.res.set2 (.slice va acc.length vc)).set3 (.int .i64 0)).set4 (.int .i64 0)).ext hE)
      obtain ⟨⟨q2, _⟩, ⟨q3, _⟩, ⟨q4, _⟩⟩ := RF.cells
      have EF : Ext w w9 := (((hPA.out.ext.setCell (p := ⟨w.heap.size, 0, none⟩) (Nat.le_refl _) _).setCell (p := ⟨w.heap.size + 1, 0, none⟩) (by simp) _).setCell (p := ⟨w.heap.size + 1 + 1, 0, none⟩) (show w.heap.size ≤ w.heap.size + 1 + 1 by omega) _).trans hE
      have kS := (((Keep.refl [w.heap.size, w.heap.size + 1, w.heap.size + 1 + 1] wr).setCell (p := ⟨w.heap.size, 0, none⟩) (by simp) (.slice va acc.length vc)).setCell (p := ⟨w.heap.size + 1, 0, none⟩) (by simp) (.int .i64 0)).setCell (p := ⟨w.heap.size + 1 + 1, 0, none⟩) (by simp) (.int .i64 0)
      have hrow := ((hPA.out.own.keep kS (by simp; omega)).keep (Keep.ofExt hE : Keep [] _ _) (by simp)).row
      simp [Leaves, settle, results, Tryd.results9, go_sem, q2, q3, q4]
      refine ⟨?_, EF⟩
      rw [HR2.out]
      refine ⟨_, rfl, hrow.carry ⟨fun _ _ _ _ h => h, fun b _ hf => by have hf' : w1.heap.size + 1 ≤ b := hf; show w.heap.size ≤ b; omega⟩ fun ks hk => FusIs.carry ⟨fun _ _ _ _ h => h, fun b _ hf => by have hf' : w1.heap.size + 1 ≤ b := hf; show w.heap.size ≤ b; omega⟩ _ _ hk⟩
    | cons t us =>
      obtain ⟨tb, toff, tcap, tne, g0, g1, gf, d0, d1, d2, d3, hcap', hmax', _, _⟩ := PA.rd.cons
      have hl0 : ((us.length : Int) + 1 > 0) := by omega
      have hl1 : ¬ ((us.length : Int) + 1 ≤ 0) := by omega
      have HR1 := hid (HR.out.trans (progGo_cons _ _ _ _))
      have hPA := hid PA
      clear PA
      go_wp2_with fail
      have hS : Blk wr.drew w.heap.size 26 [.slice va acc.length vc] := hPA.out.res.b2
      have PD : PaAt w wr.drew w1.heap.size s.length (t :: us) acc (.slice va acc.length vc) := hPA.out.move (hPA.out.rd.ext (Ext.refl _).drew) (Keep.ofExt (Ext.refl _).drew)
      have lbw := hPA.out.lb
      clear c2 f2 c3 f3 c4 f4
      refine phase_begin (fun w' => Blk w' w.heap.size 26 [.slice va acc.length vc]) 7 (by kernel_rfl) ?_
      refine phase_take (i := 0) (v := .pointer (some ⟨w.heap.size, 0, none⟩)) rfl (by kernel_rfl) (by omega) (by kernel_rfl) (by kernel_rfl) (by kernel_rfl) (fun c a w h => leaves_results (parse_results _ _ _ (by decide)) _ _ _ h) ⟨by rfl, ?_⟩ hS ?_
      · intro wS hSw
        have hs0 := Blk.cell hSw 0
        have hsl := Blk.lt hSw
        simp only [List.getElem?_cons_zero] at hs0
        go_simp
      simp only [Act.put, List.getElem_toArray, List.getElem_cons_succ, List.getElem_cons_zero, List.setIfInBounds_toArray, List.set_cons_zero, List.set_cons_succ]
      refine phase_take (i := 1) (v := .slice va acc.length vc) rfl (by kernel_rfl) (by omega) (by kernel_rfl) (by kernel_rfl) (by kernel_rfl) (fun c a w h => leaves_results (parse_results _ _ _ (by decide)) _ _ _ h) ⟨by rfl, ?_⟩ hS ?_
      · intro wS hSw
        have hs0 := Blk.cell hSw 0
        have hsl := Blk.lt hSw
        simp only [List.getElem?_cons_zero] at hs0
        go_simp
      simp only [Act.put, List.getElem_toArray, List.getElem_cons_succ, List.getElem_cons_zero, List.setIfInBounds_toArray, List.set_cons_zero, List.set_cons_succ]
      refine phase_take (i := 2) (v := .pointer (some ⟨w1.heap.size, 0, none⟩)) rfl (by kernel_rfl) (by omega) (by kernel_rfl) (by kernel_rfl) (by kernel_rfl) (fun c a w h => leaves_results (parse_results _ _ _ (by decide)) _ _ _ h) ⟨by rfl, ?_⟩ hS ?_
      · intro wS hSw
        have hs0 := Blk.cell hSw 0
        have hsl := Blk.lt hSw
        simp only [List.getElem?_cons_zero] at hs0
        go_simp
      simp only [Act.put, List.getElem_toArray, List.getElem_cons_succ, List.getElem_cons_zero, List.setIfInBounds_toArray, List.set_cons_zero, List.set_cons_succ]
      refine phase_one (i := 3) (by kernel_rfl) (by omega) rfl (by rfl) (fun K hK => ?_)
      go_simp
      refine (HF.out _ _ _ _ PD.rd hwu).mono ?_
      cases h3 : funS (t :: us) with
      | err c r =>
        have HR3 := hid (show R = .err c r from HR1.out.trans (bind_f h3))
        clear h3
        rintro e w3 ⟨rfl, k3⟩
        go_wp2_with fail
        have hR3 := (hPA.out.res.ext (Ext.refl _).drew).keep k3 (by simp; omega)
        refine leaves_cons (f := 14) (args := #[.pointer (some ⟨w.heap.size, 0, none⟩), .pointer (some ⟨w.heap.size + 1, 0, none⟩), .pointer (some ⟨w.heap.size + 1 + 1, 0, none⟩)]) (by simp) (by simp [go_sem]) ?_
        refine (catch_any _ _ _ _ _ _ c (placeOf s.length r) w3 hR3.b2 hR3.b3 hR3.b4 (by omega) (by omega) (by omega)).mono ?_
        rintro e u' w9 ⟨rfl, rfl, b2, b3, b4, k9⟩
        have q2 := b2.cell 0
        have q3 := b3.cell 0
        have q4 := b4.cell 0
        simp only [List.getElem?_cons_zero] at q2 q3 q4
        have EF : Ext w w9 := k9.below (k3.below hPA.out.ext.drew (by simp; omega)) (by simp; omega)
        simp [Leaves, settle, results, Tryd.results9, go_sem, q2, q3, q4, faultV]
        refine ⟨?_, EF⟩
        rw [HR3.out]
        rfl
      | ok x r =>
        have HR3 := hid (HR1.out.trans (bind_t h3))
        have hFi := HI.out (t :: us) hwu
        rw [h3] at hFi
        have HFi := hid hFi
        clear h3 hFi
        rintro e w3 ⟨v, rfl, hx, r3, k3⟩
        obtain ⟨nm, pa, pn, pc, rs, ba, bn, bc, at_, rfl⟩ := hx.form
        have P3 := PD.move r3 k3
        have lw3 : wr.heap.size ≤ w3.heap.size := k3.size
        have lbr := hPA.out.rd.lt
        refine hK _ _ ⟨P3.res.b2, ?_⟩
        clear hK K
        try simp only [Act.put, List.getElem_toArray, List.getElem_cons_succ, List.getElem_cons_zero, List.setIfInBounds_toArray, List.set_cons_zero, List.set_cons_succ]
        refine phase_one (i := 4) (by kernel_rfl) (by omega) rfl (by rfl) (fun K hK => ?_)
        go_simp
        refine hK _ _ ⟨P3.res.b2.alloc _, ?_⟩
        clear hK K
        try simp only [Act.put, List.getElem_toArray, List.getElem_cons_succ, List.getElem_cons_zero, List.setIfInBounds_toArray, List.set_cons_zero, List.set_cons_succ]
        obtain ⟨ks, hrow, hall⟩ := P3.own.keep (Keep.ofExt ((Ext.refl w3).alloc (.cells #[.string ⟨nm.toArray⟩, .slice pa pn pc, .int .i64 rs, .slice ba bn bc, .int .i64 at_] 47)) : Keep [] _ _) (by simp)
        have HALL := hid hall
        clear hall
        refine phase_one (i := 5) (by kernel_rfl) (by omega) rfl (by rfl) (fun K hK => ?_)
        refine wp_append_lies _ (.tmp 31) (.tmp 34) 24 (by rfl) (w1.heap.size + 1) 47 i0 (.agg #[.string ⟨#[]⟩, .slice none 0 0, .int .i64 0, .slice none 0 0, .int .i64 0]) 5 80 Tryd.underlying24 hi0 hz0 hz1 hz2 rfl (by omega) (.slice va acc.length vc) acc.length ks (by rfl) hrow ⟨w3.heap.size, 0, none⟩ 1 1
          [.string ⟨nm.toArray⟩, .slice pa pn pc, .int .i64 rs, .slice ba bn bc, .int .i64 at_] (by rfl) (by rfl) (news_cells _ _ _ _ rfl) (by simp [Value.oneCell']) (by omega) (by simp only [maxLen]; omega) (by omega) (by simp; omega) (w3.heap.size + 1) (by simp) (fun g cap w5 hown5 hgr hat hglt => ?_)
        have lg : w1.heap.size + 1 ≤ g := (hown5.lt g rfl).1
        have lown : ∀ q ∈ ownL (.slice va acc.length vc), w1.heap.size + 1 ≤ q ∧ q < wr.heap.size := fun q hq => by
          obtain ⟨ks', hrow', _⟩ := hPA.out.own
          exact hrow'.lt q (mem_ownL.1 hq)
        have kk := Keep.grownBy hgr (ownL (.slice va acc.length vc)) (fun k hk => mem_ownL.2 hk)
        have R5 := (P3.res.ext ((Ext.refl w3).alloc (.cells #[.string ⟨nm.toArray⟩, .slice pa pn pc, .int .i64 rs, .slice ba bn bc, .int .i64 at_] 47))).keep kk (fun q hq => by have := (lown q hq).1; omega)
        refine hK _ _ ⟨R5.b2, ?_⟩
        clear hK K
        try simp only [Act.put, List.getElem_toArray, List.getElem_cons_succ, List.getElem_cons_zero, List.setIfInBounds_toArray, List.set_cons_zero, List.set_cons_succ]
        obtain ⟨⟨c2, f2⟩, _⟩ := R5.cells
        refine phase_take (i := 6) (v := .pointer (some ⟨w.heap.size, 0, none⟩)) rfl (by kernel_rfl) (by omega) (by kernel_rfl) (by kernel_rfl) (by kernel_rfl) (fun c a w h => leaves_results (parse_results _ _ _ (by decide)) _ _ _ h) ⟨by rfl, ?_⟩ (show Blk w5 w.heap.size 26 [.slice va acc.length vc] from R5.b2) ?_
        · intro wS hSw
          have hs0 := Blk.cell hSw 0
          have hsl := Blk.lt hSw
          simp only [List.getElem?_cons_zero] at hs0
          go_simp
        simp only [Act.put, List.getElem_toArray, List.getElem_cons_succ, List.getElem_cons_zero, List.setIfInBounds_toArray, List.set_cons_zero, List.set_cons_succ]
        refine phase_late (i := 7) (by kernel_rfl) (by omega) rfl (by rfl) (fun K hK => ?_)
        go_simp
        refine hK _ _ ?_
        clear hK K
        try simp only [Act.put, List.getElem_toArray, List.getElem_cons_succ, List.getElem_cons_zero, List.setIfInBounds_toArray, List.set_cons_zero, List.set_cons_succ]
        refine wpAny_done (by kernel_rfl) ?_ _
        go_wp2_with fail
        have KS := Keep.set w5 ⟨w.heap.size, 0, none⟩ (.slice (some ⟨g, 0, none⟩) (acc.length + 1) cap)
        have hsn := OwnX.snoc (E := fuEnc) (T := 47) (a := x) HALL.out (FuIs.carry (Carry.keep (Keep.ofExt ((Ext.refl w3).alloc (.cells #[.string ⟨nm.toArray⟩, .slice pa pn pc, .int .i64 rs, .slice ba bn bc, .int .i64 at_] 47)) : Keep [] _ _) (by simp) (fun b hb hf => by have hf' : wr.heap.size ≤ b := hf; exact ⟨by omega, fun hq => by have := (lown b (mem_ownL.2 hq)).2; omega⟩)) _ _ hx.is) hown5 hgr (fun q hq => by
          simp only [Value.ownBlock, Option.some.injEq] at hq
          subst hq
          rcases hat with hat | hat
          · exact .inl hat
          · right; simp; omega)
        have r5 := (r3.ext ((Ext.refl w3).alloc (.cells #[.string ⟨nm.toArray⟩, .slice pa pn pc, .int .i64 rs, .slice ba bn bc, .int .i64 at_] 47))).keep kk (fun q hq => by have := (lown q hq).1; omega)
        have e5 : Ext w w5 := kk.below (P3.ext.alloc _) (fun q hq => by have := (lown q hq).1; omega)
        have hF5 := HFi.out
        have hxp := x.size_pos
        have hF51 : x.size + r.length ≤ us.length + 1 := hF5.1
        simp only [List.length_cons] at hl hlt
        go_roundg k
        case measure => omega
        case rel =>
          refine ⟨acc ++ [x], r, _, ⟨R5.set2 _, lbw, ?_, r5.storeOther R5.b2 (by omega) _, e5.setCell (p := ⟨w.heap.size, 0, none⟩) (Nat.le_refl _) _⟩, hF5.2.2, by rw [List.length_append, List.length_singleton]; omega, by omega, HR3.out⟩
          exact hsn.keep KS (by simp; omega)
end Go.Proofs.YtaehlakefgnfmaaDoor
