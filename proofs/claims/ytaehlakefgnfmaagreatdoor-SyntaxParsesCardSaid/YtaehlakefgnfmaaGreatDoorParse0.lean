/-
  DERIVED. THE WALK of Parse's deferred closure.
-/
import Derived.Test.YtaehlakefgnfmaaGreatDoorBlock
import Derived.Defers
import Derived.Recover
import Derived.Test.YtaehlakefgnfmaaGreatDoorSyn
namespace Go.Proofs.YtaehlakefgnfmaaGreatDoor
set_option linter.unusedSimpArgs false
set_option linter.unusedVariables false
set_option maxRecDepth 100000
open Go.RowKit

theorem Tryz.asFault (a b : Value) (w : World) : (Instr.typeAssert (.iface 42 (.agg #[a, b])) 20 42 true).run Tryz.prog w = .ok (.tuple #[.agg #[a, b], .bool true]) w := by kernel_rfl
theorem Tryz.asNone (w : World) : (Instr.typeAssert .nilIface 20 42 true).run Tryz.prog w = .ok (.tuple #[.agg #[.int .i64 0, .int .i64 0], .bool false]) w := by kernel_rfl
theorem catch_any (p2 p3 p4 : Nat) (v2 v3 v4 : Value) (x pl : Nat) (w : World) (h2 : Blk w p2 26 [v2]) (h3 : Blk w p3 27 [v3]) (h4 : Blk w p4 3 [v4]) (n23 : p2 ≠ p3) (n24 : p2 ≠ p4) (n34 : p3 ≠ p4) :
    CallsD Tryz.prog 10 #[.pointer (some ⟨p2, 0, none⟩), .pointer (some ⟨p3, 0, none⟩), .pointer (some ⟨p4, 0, none⟩)] (.panicking [faultV x pl]) w fun e u' w' =>
      e = .returned (.tuple #[]) ∧ u' = .panicking [{ faultV x pl with recovered := true }] ∧ (Blk w' p2 26 [.slice none 0 0] ∧ Blk w' p3 27 [.int .i64 x] ∧ Blk w' p4 3 [.int .i64 pl] ∧ Keep [p2, p3, p4] w w') := by
  refine callsD_of_wpS Tryz.func10 rfl fun c₀ cs hu => ?_
  have c2 := h2.cell 0
  have c3 := h3.cell 0
  have c4 := h4.cell 0
  have l2 := h2.lt
  have l3 := h3.lt
  have l4 := h4.lt
  have f2 := h2.frozen 0
  have f3 := h3.frozen 0
  have f4 := h4.frozen 0
  simp only [List.getElem?_cons_zero] at c2 c3 c4
  apply wpS_seq
  apply wpS_region
  simp [wpOpsS, go_sem, recoverD, hu, Tryz.ntmps10, Exit.thenS, faultV]
  refine wpS_of_wp ?_
  simp only [show Array.replicate 18 undef = #[undef, undef, undef, undef, undef, undef, undef, undef, undef, undef, undef, undef, undef, undef, undef, undef, undef, undef] from rfl, List.setIfInBounds_toArray, List.set_cons_succ, List.set_cons_zero, List.append_toArray, List.cons_append, List.nil_append]
  have hta := Tryz.asFault
  go_wp2_with fail
  go_region
  change bodyPostS _ _ _ _ _ _ _ _ _
  have b2 := (h2.set 0 (.slice none 0 0)).setOther ⟨p3, 0, none⟩ (Ne.symm n23) (.int .i64 x) |>.setOther ⟨p4, 0, none⟩ (Ne.symm n24) (.int .i64 pl)
  have b3 := ((h3.setOther ⟨p2, 0, none⟩ n23 (.slice none 0 0)).set 0 (.int .i64 x)).setOther ⟨p4, 0, none⟩ (Ne.symm n34) (.int .i64 pl)
  have b4 := ((h4.setOther ⟨p2, 0, none⟩ n24 (.slice none 0 0)).setOther ⟨p3, 0, none⟩ n34 (.int .i64 x)).set 0 (.int .i64 pl)
  have k := (((Keep.refl [p2, p3, p4] w).setCell (p := ⟨p2, 0, none⟩) (by simp) (.slice none 0 0)).setCell (p := ⟨p3, 0, none⟩) (by simp) (.int .i64 x)).setCell (p := ⟨p4, 0, none⟩) (by simp) (.int .i64 pl)
  have B2 := (b2.alloc (.cells #[.int .i64 x, .int .i64 pl] 42)).drew
  have B3 := (b3.alloc (.cells #[.int .i64 x, .int .i64 pl] 42)).drew
  have B4 := (b4.alloc (.cells #[.int .i64 x, .int .i64 pl] 42)).drew
  have KK := (k.alloc (.cells #[.int .i64 x, .int .i64 pl] 42)).drew
  simp [bodyPostS, results, Tryz.results10]
  exact ⟨B2, B3, B4, KK⟩

theorem catch_idle (p2 p3 p4 : Nat) (w : World) :
    CallsD Tryz.prog 10 #[.pointer (some ⟨p2, 0, none⟩), .pointer (some ⟨p3, 0, none⟩), .pointer (some ⟨p4, 0, none⟩)] .returning w fun e u' w' =>
      e = .returned (.tuple #[]) ∧ u' = .returning ∧ Ext w w' := by
  refine callsD_of_wpS Tryz.func10 rfl fun c₀ cs hu => ?_
  apply wpS_seq
  apply wpS_region
  simp [wpOpsS, go_sem, recoverD, hu, Tryz.ntmps10, Exit.thenS]
  refine wpS_of_wp ?_
  simp only [show Array.replicate 18 undef = #[undef, undef, undef, undef, undef, undef, undef, undef, undef, undef, undef, undef, undef, undef, undef, undef, undef, undef] from rfl, List.setIfInBounds_toArray, List.set_cons_succ, List.set_cons_zero, List.append_toArray, List.cons_append, List.nil_append]
  have hta := Tryz.asNone
  go_wp2_with fail
  have e := (Ext.refl w).alloc (.cells #[.int .i64 0, .int .i64 0] 42)
  cases c₀
  simp_all [bodyPostS, results, Tryz.results10]
end Go.Proofs.YtaehlakefgnfmaaGreatDoor
/-
  DERIVED. THE WALK of Parse.
-/
namespace Go.Proofs.YtaehlakefgnfmaaGreatDoor
set_option linter.unusedSimpArgs false
set_option linter.unusedVariables false
set_option maxRecDepth 100000
open Go.RowKit

/-- What Parse answers. -/
def parseEnds (o : Except (Nat × Nat) (List Fu)) (B : Nat) (e : Ending) (w' : World) : Prop :=
  match o with
  | .ok p => ∃ v, e = .returned (.tuple #[.agg #[v], .int .i64 0, .int .i64 0]) ∧ RowIs w' (B ≤ ·) v p.length (FusIs w' (B ≤ ·) p)
  | .error (x, p) => e = .returned (.tuple #[.agg #[.slice none 0 0], .int .i64 x, .int .i64 p])
theorem Tryz.infoFunc : (Tryz.prog.info? 36).map (fun i => (i.zero, i.size, i.bytes)) = some (some (.agg #[.string ⟨#[]⟩, .slice none 0 0, .int .i64 0, .slice none 0 0, .int .i64 0]), 5, 80) := by kernel_rfl
theorem lexGo_code : ∀ (f pos : Nat) (l : List UInt8) (cnt : Nat) (x p : Nat), lexGo f pos l cnt = .error (x, p) → x = 2 ∨ x = 31 ∨ x = 32 := by
  intro f
  induction f with
  | zero => intro pos l cnt x p h; simp [lexGo] at h
  | succ f ih =>
    intro pos l cnt x p h
    cases l with
    | nil => simp [lexGo] at h
    | cons c r =>
      simp only [lexGo] at h
      split at h
      · rename_i y hy
        cases h
        rcases nextT_err hy with rfl | rfl <;> simp
      · split at h
        · cases h; simp
        · split at h
          · cases h
          · rename_i e he
            cases h
            exact ih _ _ _ _ _ he
theorem lex_code0 {l : List UInt8} {x p : Nat} (h : lex l = .error (x, p)) : x ≠ 0 := by
  unfold lex at h
  split at h
  · cases h; decide
  · rcases lexGo_code _ _ _ _ _ _ h with rfl | rfl | rfl <;> decide
theorem parse_lexErr {s : List UInt8} {x p : Nat} (h : lex s = .error (x, p)) : parse s = .error (x, p) := by unfold parse; rw [h]
/-- The three results' variables. -/
structure Res3 (w : World) (b : Nat) (v2 v3 v4 : Value) : Prop where
  b2 : Blk w b 26 [v2]
  b3 : Blk w (b + 1) 27 [v3]
  b4 : Blk w (b + 1 + 1) 3 [v4]
theorem Res3.keep {w w' : World} {b : Nat} {v2 v3 v4 : Value} {S : List Nat} (h : Res3 w b v2 v3 v4) (k : Keep S w w') (hS : ∀ q ∈ S, q < b ∨ b + 3 ≤ q) : Res3 w' b v2 v3 v4 :=
  ⟨h.b2.keep k (fun hm => by have := hS _ hm; omega), h.b3.keep k (fun hm => by have := hS _ hm; omega), h.b4.keep k (fun hm => by have := hS _ hm; omega)⟩
theorem Res3.ext {w w' : World} {b : Nat} {v2 v3 v4 : Value} (h : Res3 w b v2 v3 v4) (e : Ext w w') : Res3 w' b v2 v3 v4 := h.keep (S := []) (.ofExt e) (by simp)
theorem Res3.cells {w : World} {b : Nat} {v2 v3 v4 : Value} (h : Res3 w b v2 v3 v4) : (w.cell? ⟨b, 0, none⟩ = some v2 ∧ w.frozen? ⟨b, 0, none⟩ = false) ∧ (w.cell? ⟨b + 1, 0, none⟩ = some v3 ∧ w.frozen? ⟨b + 1, 0, none⟩ = false) ∧ (w.cell? ⟨b + 1 + 1, 0, none⟩ = some v4 ∧ w.frozen? ⟨b + 1 + 1, 0, none⟩ = false) :=
  ⟨⟨h.b2.cell 0, h.b2.frozen 0⟩, ⟨h.b3.cell 0, h.b3.frozen 0⟩, ⟨h.b4.cell 0, h.b4.frozen 0⟩⟩
theorem Res3.set2 {w : World} {b : Nat} {v2 v3 v4 : Value} (h : Res3 w b v2 v3 v4) (u : Value) : Res3 (w.setCell ⟨b, 0, none⟩ u) b u v3 v4 := ⟨h.b2.set 0 u, h.b3.setOther _ (by simp) _, h.b4.setOther _ (show b ≠ b + 1 + 1 by omega) _⟩
theorem Res3.set3 {w : World} {b : Nat} {v2 v3 v4 : Value} (h : Res3 w b v2 v3 v4) (u : Value) : Res3 (w.setCell ⟨b + 1, 0, none⟩ u) b v2 u v4 := ⟨h.b2.setOther _ (by simp) _, h.b3.set 0 u, h.b4.setOther _ (by simp) _⟩
theorem Res3.set4 {w : World} {b : Nat} {v2 v3 v4 : Value} (h : Res3 w b v2 v3 v4) (u : Value) : Res3 (w.setCell ⟨b + 1 + 1, 0, none⟩ u) b v2 v3 u := ⟨h.b2.setOther _ (show b + 1 + 1 ≠ b by omega) _, h.b3.setOther _ (by simp) _, h.b4.set 0 u⟩
theorem res3_begin (w : World) : Res3 (((w.alloc (.cells #[.slice none 0 0] 26)).alloc (.cells #[.int .i64 0] 27)).alloc (.cells #[.int .i64 0] 3)) w.heap.size (.slice none 0 0) (.int .i64 0) (.int .i64 0) := by
  have b2 := ((Blk.new w 26 [.slice none 0 0]).alloc (.cells #[.int .i64 0] 27)).alloc (.cells #[.int .i64 0] 3)
  have b3 := (Blk.new (w.alloc (.cells #[.slice none 0 0] 26)) 27 [.int .i64 0]).alloc (.cells #[.int .i64 0] 3)
  have b4 := Blk.new ((w.alloc (.cells #[.slice none 0 0] 26)).alloc (.cells #[.int .i64 0] 27)) 3 [.int .i64 0]
  simp only [World.size_alloc] at b2 b3 b4
  exact ⟨b2, b3, b4⟩

set_option maxHeartbeats 4000000 in
theorem parse_lexNo (w : World) (a : Option Addr) (s : List UInt8) (cap : Nat) (hs : BytesAt w a s) (hcap : s.length ≤ cap) (x p : Nat) (h : lex s = .error (x, p)) :
    Calls Tryz.prog 5 #[.slice a s.length cap] w fun e w' => e = .returned (.tuple #[.agg #[.slice none 0 0], .int .i64 x, .int .i64 p]) ∧ Ext w w' := by
  have hx0 := lex_code0 h
  have hne : ((x : Int) != 0) = true := by simp; omega
  have R0 := res3_begin w
  have hs3 := hs.ext ((((Ext.refl w).alloc (.cells #[.slice none 0 0] 26)).alloc (.cells #[.int .i64 0] 27)).alloc (.cells #[.int .i64 0] 3))
  have H := hid h
  clear h
  go_enter_defers Tryz.func5, Tryz.ntmps5
  go_wp2_with fail
  refine (lex_any _ a s cap hs3 hcap).mono ?_
  rintro e w1 ⟨hlx, e1⟩
  rw [H.out] at hlx
  simp only [lexEnds] at hlx
  subst hlx
  obtain ⟨⟨c2, f2⟩, ⟨c3, f3⟩, ⟨c4, f4⟩⟩ := (R0.ext e1).cells
  go_wp2_with fail
  go_region
  go_wp2_with fail
  have E1 : Ext w w1 := ((((Ext.refl w).alloc _).alloc _).alloc _).trans e1
  have EF := (((((E1.setCell (p := ⟨w.heap.size + 1, 0, none⟩) (by simp) (.int .i64 x)).setCell (p := ⟨w.heap.size + 1 + 1, 0, none⟩) (show w.heap.size ≤ w.heap.size + 1 + 1 by omega) (.int .i64 p)).setCell (p := ⟨w.heap.size, 0, none⟩) (Nat.le_refl _) (.slice none 0 0)).setCell (p := ⟨w.heap.size + 1, 0, none⟩) (by simp) (.int .i64 x)).setCell (p := ⟨w.heap.size + 1 + 1, 0, none⟩) (show w.heap.size ≤ w.heap.size + 1 + 1 by omega) (.int .i64 p)).drew
  have RF := (((((R0.ext e1).set3 (.int .i64 x)).set4 (.int .i64 p)).set2 (.slice none 0 0)).set3 (.int .i64 x)).set4 (.int .i64 p)
  have RF' := RF.ext (Ext.refl _).drew
  generalize (((((w1.setCell ⟨w.heap.size + 1, 0, none⟩ (.int .i64 x)).setCell ⟨w.heap.size + 1 + 1, 0, none⟩ (.int .i64 p)).setCell ⟨w.heap.size, 0, none⟩ (.slice none 0 0)).setCell ⟨w.heap.size + 1, 0, none⟩ (.int .i64 x)).setCell ⟨w.heap.size + 1 + 1, 0, none⟩ (.int .i64 p)).drew = wF at RF' EF ⊢
  obtain ⟨⟨q2, _⟩, ⟨q3, _⟩, ⟨q4, _⟩⟩ := RF'.cells
  simp [bodyPostD, Leaves, results, Tryz.results5, go_sem, q2, q3, q4, EF]
end Go.Proofs.YtaehlakefgnfmaaGreatDoor
/-
  DERIVED. THE WALK of Parse where the text has tokens (printed by gen_parse.py).
-/
namespace Go.Proofs.YtaehlakefgnfmaaGreatDoor
set_option linter.unusedSimpArgs false
set_option linter.unusedVariables false
set_option maxRecDepth 100000
open Go.RowKit

/-- Where Parse stands. -/
structure PaAt (w wr : World) (br n : Nat) (ts : List Tok) (acc : List Fu) (sv : Value) : Prop where
  res : Res3 wr w.heap.size sv (.int .i64 0) (.int .i64 0)
  lb : w.heap.size + 3 ≤ br
  own : OwnX fuEnc 36 wr (br + 1) sv acc
  rd : RdAt wr br n ts
  ext : Ext w wr
theorem PaAt.move {w wr w' : World} {br n : Nat} {ts ts' : List Tok} {acc : List Fu} {sv : Value} (h : PaAt w wr br n ts acc sv) (r : RdAt w' br n ts') (k : Keep [br] wr w') : PaAt w w' br n ts' acc sv := by
  have := h.lb
  exact ⟨h.res.keep k (by simp; omega), h.lb, h.own.keep k (by simp), r, k.below h.ext (by simp; omega)⟩
/-- A store into a block that holds one slice leaves the reader and its tokens. -/
theorem RdAt.storeOther {w : World} {br n p : Nat} {ts : List Tok} {T : TypeId} {sa : Option Addr} {sn sc : Nat} (h : RdAt w br n ts) (hb : Blk w p T [.slice sa sn sc]) (hp : p ≠ br) (u : Value) : RdAt (w.setCell ⟨p, 0, none⟩ u) br n ts := by
  obtain ⟨a, cap, h1, h2, h3⟩ := h
  refine ⟨a, cap, h1.setOther _ hp u, ?_, h3⟩
  cases ts with
  | nil => exact CellsIn.nil _ _ _
  | cons t r =>
    obtain ⟨b0, o0, ha, hl0, hc0⟩ := h2 0 (.int .i64 t.kind) (by simp [encTok])
    have hne : b0 ≠ p := by
      rintro rfl
      rw [Nat.add_zero, hb.cell o0] at hc0
      cases o0 with
      | zero => simp at hc0
      | succ k => simp at hc0
    intro i v hv
    obtain ⟨b, off, ha', hl, hc⟩ := h2 i v hv
    rw [ha] at ha'
    simp only [Option.some.injEq, Addr.mk.injEq, and_true] at ha'
    obtain ⟨rfl, rfl⟩ := ha'
    exact ⟨b0, o0, ha, hl, by rw [World.cell?_setCell_other _ _ _ _ (by intro hq; simp_all)]; exact hc⟩
def PaRel (w : World) (br n : Nat) (R : Res (List Fu)) (k : Nat) (wr : World) : Prop :=
  ∃ acc us sv, PaAt w wr br n us acc sv ∧ Wf us ∧ acc.length + us.length ≤ 2048 ∧ us.length < k ∧ R = progGo k acc us
theorem progGo_nil (f : Nat) (acc : List Fu) : progGo (f + 1) acc [] = .ok acc [] := rfl
theorem progGo_cons (f : Nat) (acc : List Fu) (t : Tok) (r : List Tok) : progGo (f + 1) acc (t :: r) = (funS (t :: r)).bind fun x r => progGo f (acc ++ [x]) r := rfl
theorem encF.form {B : Nat} {w : World} {x : Fu} {v : Value} (h : encF B w x v) : ∃ (nm : List UInt8) (pa : Option Addr) (pn pc rs : Nat) (ba : Option Addr) (bn bc at_ : Nat), v = .agg #[.string ⟨nm.toArray⟩, .slice pa pn pc, .int .i64 rs, .slice ba bn bc, .int .i64 at_] := by
  obtain ⟨vs, rfl, vp, vb, rfl, ⟨pa, pc, pks, rfl, _⟩, ⟨ba, bc, bks, rfl, _⟩⟩ := h
  exact ⟨_, _, _, _, _, _, _, _, _, rfl⟩
theorem encF.is {B : Nat} {w : World} {x : Fu} {l : List Value} (h : encF B w x (.agg l.toArray)) : FuIs w (B ≤ ·) x l := by
  obtain ⟨vs, h1, h2⟩ := h
  have : l = vs := by simpa using h1
  rw [this]; exact h2
theorem parse_results (tmps : Array Value) (k : Nat) (v : Value) (hk : 30 ≤ k) : results Tryz.f5 (tmps.setIfInBounds k v) = results Tryz.f5 tmps := by
  have h2 : (tmps.setIfInBounds k v)[2]? = tmps[2]? := by rw [Array.getElem?_setIfInBounds_ne (by omega)]
  have h3 : (tmps.setIfInBounds k v)[3]? = tmps[3]? := by rw [Array.getElem?_setIfInBounds_ne (by omega)]
  have h4 : (tmps.setIfInBounds k v)[4]? = tmps[4]? := by rw [Array.getElem?_setIfInBounds_ne (by omega)]
  simp [results, Tryz.results5, Array.getD_eq_getD_getElem?, h2, h3, h4]
theorem leaves_results {P : Program} {fn : Func} {tmps tmps' : Array Value} {R : Ending → World → Prop} (h : results fn tmps = results fn tmps') : ∀ (ds : List Deferred) (u : FrameMode) (w : World), Leaves P fn tmps R ds u w → Leaves P fn tmps' R ds u w := by
  intro ds
  induction ds with
  | nil =>
    intro u w hl
    cases u with
    | run => exact hl
    | returning => obtain ⟨v, h1, h2⟩ := hl; exact ⟨v, h ▸ h1, h2⟩
    | panicking c => exact hl
  | cons d ds ih =>
    intro u w hl
    obtain ⟨h1, fv, cap, f, args, h2, h3, h4⟩ := hl
    refine ⟨h1, fv, cap, f, args, h2, h3, h4.mono fun e u' w' hx => ?_⟩
    cases e with
    | returned v => exact ih _ _ hx
    | panicked c => exact ih _ _ hx
    | outgrown => exact hx
/-- What Parse answers, of what the reading came to. -/
def paOut (n : Nat) : Res (List Fu) → Except (Nat × Nat) (List Fu)
  | .ok p _ => .ok p
  | .err c r => .error (c, placeOf n r)

set_option maxHeartbeats 8000000 in
theorem parse_lexYes (w : World) (a : Option Addr) (s : List UInt8) (cap : Nat) (hs : BytesAt w a s) (hcap : s.length ≤ cap) (hmax : s.length ≤ 4096) (ts : List Tok) (h : lex s = .ok ts) (hwf : Wf ts) (hlen : ts.length ≤ 2048) :
    Calls Tryz.prog 5 #[.slice a s.length cap] w fun e w' => parseEnds (paOut s.length (progS ts)) w.heap.size e w' ∧ Ext w w' := by
  obtain ⟨i0, hi0, hz0, hz1, hz2⟩ := info_parts Tryz.infoFunc
  have R0 := res3_begin w
  have hs3 := hs.ext ((((Ext.refl w).alloc (.cells #[.slice none 0 0] 26)).alloc (.cells #[.int .i64 0] 27)).alloc (.cells #[.int .i64 0] 3))
  have H := hid h
  have HF : Hid (FunC funS) := function_any
  have HI : Hid (Inv Fu.size Fu.wf funS) := inv_fun
  have hmf : ∀ (fn : Fn) (first cap : Array Value) (w : World), (Instr.makeFunc fn first cap).run Tryz.prog w = .ok (.func fn first cap) w := fun _ _ _ _ => rfl
  have HRR := hid (show progS ts = progGo (ts.length + 1) [] ts from rfl)
  clear h
  generalize progS ts = R at HRR ⊢
  go_enter_defers Tryz.func5, Tryz.ntmps5
  go_wp2_with fail
  refine (lex_any _ a s cap hs3 hcap).mono ?_
  rintro e w1 ⟨hlx, e1⟩
  rw [H.out] at hlx
  obtain ⟨ax, cx, rfl, hcx, hax, hlcx, hmcx⟩ := hlx
  obtain ⟨⟨c2, f2⟩, ⟨c3, f3⟩, ⟨c4, f4⟩⟩ := (R0.ext e1).cells
  go_wp2_with fail
  have hE1 : Ext w w1 := ((((Ext.refl w).alloc _).alloc _).alloc _).trans e1
  have hsz1 : w.heap.size + 3 ≤ w1.heap.size := by have := e1.size; simp at this; omega
  have P0 : PaAt w (((w1.setCell ⟨w.heap.size + 1, 0, none⟩ (.int .i64 0)).setCell ⟨w.heap.size + 1 + 1, 0, none⟩ (.int .i64 0)).alloc (.cells #[.slice ax ts.length cx, .int .i64 s.length] 46)) w1.heap.size s.length ts [] (.slice none 0 0) := by
    refine ⟨((((R0.ext e1).set3 (.int .i64 0)).set4 (.int .i64 0)).ext ((Ext.refl _).alloc _)), hsz1, OwnX.nil _ _ _ _, ⟨ax, cx, ?_, ?_, hlcx, hmcx, hlen⟩, (((hE1.setCell (p := ⟨w.heap.size + 1, 0, none⟩) (by simp) _).setCell (p := ⟨w.heap.size + 1 + 1, 0, none⟩) (show w.heap.size ≤ w.heap.size + 1 + 1 by omega) _).alloc _)⟩
    · have := Blk.new ((w1.setCell ⟨w.heap.size + 1, 0, none⟩ (.int .i64 0)).setCell ⟨w.heap.size + 1 + 1, 0, none⟩ (.int .i64 0)) 46 [.slice ax ts.length cx, .int .i64 s.length]
      simpa [World.setCell] using this
    · intro i v hv
      obtain ⟨b, off, rfl, hc⟩ := hcx i v hv
      have hb := World.block_lt_of_cell? _ _ hc
      have hb3 := hax _ rfl
      simp only [World.size_alloc] at hb hb3
      refine ⟨b, off, rfl, hb, ?_⟩
      have hk := ((Keep.refl [w.heap.size + 1, w.heap.size + 1 + 1] w1).setCell (p := ⟨w.heap.size + 1, 0, none⟩) (by simp) (.int .i64 0)).setCell (p := ⟨w.heap.size + 1 + 1, 0, none⟩) (by simp) (.int .i64 0)
      exact (hk.alloc _).cellV (by simp; omega) hc
  have HREL := hid (show PaRel w w1.heap.size s.length R (ts.length + 1) _ from ⟨[], ts, _, P0, hwf, by simp; omega, by omega, HRR.out⟩)
  clear c2 c3 c4 f2 f3 f4 P0 R0 hs3 hcx hax
  go_loopg [] (ts.length + 1) (fun k wr => PaRel w w1.heap.size s.length R k wr)
  case atStart => exact HREL.out
  case round =>
    obtain ⟨acc, us, sv, PA, hwu, hl, hlt, hR⟩ := hrel
    obtain ⟨k, rfl⟩ : ∃ k, gk = k + 1 := ⟨gk - 1, by omega⟩
    have HR := hid hR
    clear hR HREL
    obtain ⟨va, vc, rfl⟩ := PA.own.form
    obtain ⟨⟨c2, f2⟩, ⟨c3, f3⟩, ⟨c4, f4⟩⟩ := PA.res.cells
    cases us with
    | nil =>
      obtain ⟨ra, rc, g0, g1, gf⟩ := PA.rd.nil
      have HR2 := hid (show R = .ok acc [] by rw [HR.out, progGo_nil])
      have hPA := hid PA
      clear PA
      go_wp2_with fail
      refine leaves_cons (f := 10) (args := #[.pointer (some ⟨w.heap.size, 0, none⟩), .pointer (some ⟨w.heap.size + 1, 0, none⟩), .pointer (some ⟨w.heap.size + 1 + 1, 0, none⟩)]) (by simp) (by simp [go_sem]) ?_
      refine (catch_idle _ _ _ _).mono ?_
      rintro e u' w9 ⟨rfl, rfl, hE⟩
      have RF := ((((hPA.out.res.set2 (.slice va acc.length vc)).set3 (.int .i64 0)).set4 (.int .i64 0)).ext hE)
      obtain ⟨⟨q2, _⟩, ⟨q3, _⟩, ⟨q4, _⟩⟩ := RF.cells
      have EF : Ext w w9 := (((hPA.out.ext.setCell (p := ⟨w.heap.size, 0, none⟩) (Nat.le_refl _) _).setCell (p := ⟨w.heap.size + 1, 0, none⟩) (by simp) _).setCell (p := ⟨w.heap.size + 1 + 1, 0, none⟩) (show w.heap.size ≤ w.heap.size + 1 + 1 by omega) _).trans hE
      have kS := (((Keep.refl [w.heap.size, w.heap.size + 1, w.heap.size + 1 + 1] wr).setCell (p := ⟨w.heap.size, 0, none⟩) (by simp) (.slice va acc.length vc)).setCell (p := ⟨w.heap.size + 1, 0, none⟩) (by simp) (.int .i64 0)).setCell (p := ⟨w.heap.size + 1 + 1, 0, none⟩) (by simp) (.int .i64 0)
      have hrow := ((hPA.out.own.keep kS (by simp; omega)).keep (Keep.ofExt hE : Keep [] _ _) (by simp)).row
      simp [Leaves, settle, results, Tryz.results5, go_sem, q2, q3, q4]
      refine ⟨?_, EF⟩
      rw [HR2.out]
      refine ⟨_, rfl, hrow.carry ⟨fun _ _ _ _ h => h, fun b _ hf => by have hf' : w1.heap.size + 1 ≤ b := hf; show w.heap.size ≤ b; omega⟩ fun ks hk => FusIs.carry ⟨fun _ _ _ _ h => h, fun b _ hf => by have hf' : w1.heap.size + 1 ≤ b := hf; show w.heap.size ≤ b; omega⟩ _ _ hk⟩
    | cons t us =>
      obtain ⟨tb, toff, tcap, tne, g0, g1, gf, d0, d1, d2, d3, hcap', hmax', _, _⟩ := PA.rd.cons
      have hl0 : ((us.length : Int) + 1 > 0) := by omega
      have hl1 : ¬ ((us.length : Int) + 1 ≤ 0) := by omega
      have HR1 := hid (HR.out.trans (progGo_cons _ _ _ _))
      have hPA := hid PA
      clear PA
      go_wp2_with fail
      have hS : Blk wr.drew w.heap.size 26 [.slice va acc.length vc] := hPA.out.res.b2
      have PD : PaAt w wr.drew w1.heap.size s.length (t :: us) acc (.slice va acc.length vc) := hPA.out.move (hPA.out.rd.ext (Ext.refl _).drew) (Keep.ofExt (Ext.refl _).drew)
      have lbw := hPA.out.lb
      clear c2 f2 c3 f3 c4 f4
      refine phase_begin (fun w' => Blk w' w.heap.size 26 [.slice va acc.length vc]) 7 (by kernel_rfl) ?_
      refine phase_take (i := 0) (v := .pointer (some ⟨w.heap.size, 0, none⟩)) rfl (by kernel_rfl) (by omega) (by kernel_rfl) (by kernel_rfl) (by kernel_rfl) (fun c a w h => leaves_results (parse_results _ _ _ (by decide)) _ _ _ h) ⟨by rfl, ?_⟩ hS ?_
      · intro wS hSw
        have hs0 := Blk.cell hSw 0
        have hsl := Blk.lt hSw
        simp only [List.getElem?_cons_zero] at hs0
        go_simp
      simp only [Act.put, List.getElem_toArray, List.getElem_cons_succ, List.getElem_cons_zero, List.setIfInBounds_toArray, List.set_cons_zero, List.set_cons_succ]
      refine phase_take (i := 1) (v := .slice va acc.length vc) rfl (by kernel_rfl) (by omega) (by kernel_rfl) (by kernel_rfl) (by kernel_rfl) (fun c a w h => leaves_results (parse_results _ _ _ (by decide)) _ _ _ h) ⟨by rfl, ?_⟩ hS ?_
      · intro wS hSw
        have hs0 := Blk.cell hSw 0
        have hsl := Blk.lt hSw
        simp only [List.getElem?_cons_zero] at hs0
        go_simp
      simp only [Act.put, List.getElem_toArray, List.getElem_cons_succ, List.getElem_cons_zero, List.setIfInBounds_toArray, List.set_cons_zero, List.set_cons_succ]
      refine phase_take (i := 2) (v := .pointer (some ⟨w1.heap.size, 0, none⟩)) rfl (by kernel_rfl) (by omega) (by kernel_rfl) (by kernel_rfl) (by kernel_rfl) (fun c a w h => leaves_results (parse_results _ _ _ (by decide)) _ _ _ h) ⟨by rfl, ?_⟩ hS ?_
      · intro wS hSw
        have hs0 := Blk.cell hSw 0
        have hsl := Blk.lt hSw
        simp only [List.getElem?_cons_zero] at hs0
        go_simp
      simp only [Act.put, List.getElem_toArray, List.getElem_cons_succ, List.getElem_cons_zero, List.setIfInBounds_toArray, List.set_cons_zero, List.set_cons_succ]
      refine phase_one (i := 3) (by kernel_rfl) (by omega) rfl (by rfl) (fun K hK => ?_)
      go_simp
      refine (HF.out _ _ _ _ PD.rd hwu).mono ?_
      cases h3 : funS (t :: us) with
      | err c r =>
        have HR3 := hid (show R = .err c r from HR1.out.trans (bind_f h3))
        clear h3
        rintro e w3 ⟨rfl, k3⟩
        go_wp2_with fail
        have hR3 := (hPA.out.res.ext (Ext.refl _).drew).keep k3 (by simp; omega)
        refine leaves_cons (f := 10) (args := #[.pointer (some ⟨w.heap.size, 0, none⟩), .pointer (some ⟨w.heap.size + 1, 0, none⟩), .pointer (some ⟨w.heap.size + 1 + 1, 0, none⟩)]) (by simp) (by simp [go_sem]) ?_
        refine (catch_any _ _ _ _ _ _ c (placeOf s.length r) w3 hR3.b2 hR3.b3 hR3.b4 (by omega) (by omega) (by omega)).mono ?_
        rintro e u' w9 ⟨rfl, rfl, b2, b3, b4, k9⟩
        have q2 := b2.cell 0
        have q3 := b3.cell 0
        have q4 := b4.cell 0
        simp only [List.getElem?_cons_zero] at q2 q3 q4
        have EF : Ext w w9 := k9.below (k3.below hPA.out.ext.drew (by simp; omega)) (by simp; omega)
        simp [Leaves, settle, results, Tryz.results5, go_sem, q2, q3, q4, faultV]
        refine ⟨?_, EF⟩
        rw [HR3.out]
        rfl
      | ok x r =>
        have HR3 := hid (HR1.out.trans (bind_t h3))
        have hFi := HI.out (t :: us) hwu
        rw [h3] at hFi
        have HFi := hid hFi
        clear h3 hFi
        rintro e w3 ⟨v, rfl, hx, r3, k3⟩
        obtain ⟨nm, pa, pn, pc, rs, ba, bn, bc, at_, rfl⟩ := hx.form
        have P3 := PD.move r3 k3
        have lw3 : wr.heap.size ≤ w3.heap.size := k3.size
        have lbr := hPA.out.rd.lt
        refine hK _ _ ⟨P3.res.b2, ?_⟩
        clear hK K
        try simp only [Act.put, List.getElem_toArray, List.getElem_cons_succ, List.getElem_cons_zero, List.setIfInBounds_toArray, List.set_cons_zero, List.set_cons_succ]
        refine phase_one (i := 4) (by kernel_rfl) (by omega) rfl (by rfl) (fun K hK => ?_)
        go_simp
        refine hK _ _ ⟨P3.res.b2.alloc _, ?_⟩
        clear hK K
        try simp only [Act.put, List.getElem_toArray, List.getElem_cons_succ, List.getElem_cons_zero, List.setIfInBounds_toArray, List.set_cons_zero, List.set_cons_succ]
        obtain ⟨ks, hrow, hall⟩ := P3.own.keep (Keep.ofExt ((Ext.refl w3).alloc (.cells #[.string ⟨nm.toArray⟩, .slice pa pn pc, .int .i64 rs, .slice ba bn bc, .int .i64 at_] 36)) : Keep [] _ _) (by simp)
        have HALL := hid hall
        clear hall
        refine phase_one (i := 5) (by kernel_rfl) (by omega) rfl (by rfl) (fun K hK => ?_)
        refine wp_append_lies _ (.tmp 31) (.tmp 34) 24 (by rfl) (w1.heap.size + 1) 36 i0 (.agg #[.string ⟨#[]⟩, .slice none 0 0, .int .i64 0, .slice none 0 0, .int .i64 0]) 5 80 Tryz.underlying24 hi0 hz0 hz1 hz2 rfl (by omega) (.slice va acc.length vc) acc.length ks (by rfl) hrow ⟨w3.heap.size, 0, none⟩ 1 1
          [.string ⟨nm.toArray⟩, .slice pa pn pc, .int .i64 rs, .slice ba bn bc, .int .i64 at_] (by rfl) (by rfl) (news_cells _ _ _ _ rfl) (by simp [Value.oneCell']) (by omega) (by simp only [maxLen]; omega) (by omega) (by simp; omega) (w3.heap.size + 1) (by simp) (fun g cap w5 hown5 hgr hat hglt => ?_)
        have lg : w1.heap.size + 1 ≤ g := (hown5.lt g rfl).1
        have lown : ∀ q ∈ ownL (.slice va acc.length vc), w1.heap.size + 1 ≤ q ∧ q < wr.heap.size := fun q hq => by
          obtain ⟨ks', hrow', _⟩ := hPA.out.own
          exact hrow'.lt q (mem_ownL.1 hq)
        have kk := Keep.grownBy hgr (ownL (.slice va acc.length vc)) (fun k hk => mem_ownL.2 hk)
        have R5 := (P3.res.ext ((Ext.refl w3).alloc (.cells #[.string ⟨nm.toArray⟩, .slice pa pn pc, .int .i64 rs, .slice ba bn bc, .int .i64 at_] 36))).keep kk (fun q hq => by have := (lown q hq).1; omega)
        refine hK _ _ ⟨R5.b2, ?_⟩
        clear hK K
        try simp only [Act.put, List.getElem_toArray, List.getElem_cons_succ, List.getElem_cons_zero, List.setIfInBounds_toArray, List.set_cons_zero, List.set_cons_succ]
        obtain ⟨⟨c2, f2⟩, _⟩ := R5.cells
        refine phase_take (i := 6) (v := .pointer (some ⟨w.heap.size, 0, none⟩)) rfl (by kernel_rfl) (by omega) (by kernel_rfl) (by kernel_rfl) (by kernel_rfl) (fun c a w h => leaves_results (parse_results _ _ _ (by decide)) _ _ _ h) ⟨by rfl, ?_⟩ (show Blk w5 w.heap.size 26 [.slice va acc.length vc] from R5.b2) ?_
        · intro wS hSw
          have hs0 := Blk.cell hSw 0
          have hsl := Blk.lt hSw
          simp only [List.getElem?_cons_zero] at hs0
          go_simp
        simp only [Act.put, List.getElem_toArray, List.getElem_cons_succ, List.getElem_cons_zero, List.setIfInBounds_toArray, List.set_cons_zero, List.set_cons_succ]
        refine phase_late (i := 7) (by kernel_rfl) (by omega) rfl (by rfl) (fun K hK => ?_)
        go_simp
        refine hK _ _ ?_
        clear hK K
        try simp only [Act.put, List.getElem_toArray, List.getElem_cons_succ, List.getElem_cons_zero, List.setIfInBounds_toArray, List.set_cons_zero, List.set_cons_succ]
        refine wpAny_done (by kernel_rfl) ?_ _
        go_wp2_with fail
        have KS := Keep.set w5 ⟨w.heap.size, 0, none⟩ (.slice (some ⟨g, 0, none⟩) (acc.length + 1) cap)
        have hsn := OwnX.snoc (E := fuEnc) (T := 36) (a := x) HALL.out (FuIs.carry (Carry.keep (Keep.ofExt ((Ext.refl w3).alloc (.cells #[.string ⟨nm.toArray⟩, .slice pa pn pc, .int .i64 rs, .slice ba bn bc, .int .i64 at_] 36)) : Keep [] _ _) (by simp) (fun b hb hf => by have hf' : wr.heap.size ≤ b := hf; exact ⟨by omega, fun hq => by have := (lown b (mem_ownL.2 hq)).2; omega⟩)) _ _ hx.is) hown5 hgr (fun q hq => by
          simp only [Value.ownBlock, Option.some.injEq] at hq
          subst hq
          rcases hat with hat | hat
          · exact .inl hat
          · right; simp; omega)
        have r5 := (r3.ext ((Ext.refl w3).alloc (.cells #[.string ⟨nm.toArray⟩, .slice pa pn pc, .int .i64 rs, .slice ba bn bc, .int .i64 at_] 36))).keep kk (fun q hq => by have := (lown q hq).1; omega)
        have e5 : Ext w w5 := kk.below (P3.ext.alloc _) (fun q hq => by have := (lown q hq).1; omega)
        have hF5 := HFi.out
        have hxp := x.size_pos
        have hF51 : x.size + r.length ≤ us.length + 1 := hF5.1
        simp only [List.length_cons] at hl hlt
        go_roundg k
        case measure => omega
        case rel =>
          refine ⟨acc ++ [x], r, _, ⟨R5.set2 _, lbw, ?_, r5.storeOther R5.b2 (by omega) _, e5.setCell (p := ⟨w.heap.size, 0, none⟩) (Nat.le_refl _) _⟩, hF5.2.2, by rw [List.length_append, List.length_singleton]; omega, by omega, HR3.out⟩
          exact hsn.keep KS (by simp; omega)
end Go.Proofs.YtaehlakefgnfmaaGreatDoor
/-
  DERIVED. PARSE answers what the plain parser says, for every text.
-/
namespace Go.Proofs.YtaehlakefgnfmaaGreatDoor
set_option linter.unusedSimpArgs false
set_option linter.unusedVariables false
open Go.RowKit

theorem parse_any (w : World) (a : Option Addr) (s : List UInt8) (cap : Nat) (hs : BytesAt w a s) (hcap : s.length ≤ cap) :
    Calls Tryz.prog 5 #[.slice a s.length cap] w fun e w' => parseEnds (parse s) w.heap.size e w' ∧ Ext w w' := by
  cases h : lex s with
  | error e =>
    obtain ⟨x, p⟩ := e
    rw [parse_lexErr h]
    exact parse_lexNo w a s cap hs hcap x p h
  | ok ts =>
    have hw := lex_wf h
    have hp : parse s = paOut s.length (progS ts) := by
      unfold parse
      rw [h]
      simp only []
      cases progS ts <;> rfl
    rw [hp]
    exact parse_lexYes w a s cap hs hcap (lex_short h) ts h hw.1 hw.2
/-- The same, an error or a program apart. -/
theorem parse_err (w : World) (a : Option Addr) (s : List UInt8) (cap : Nat) (hs : BytesAt w a s) (hcap : s.length ≤ cap) (x p : Nat) (h : parse s = .error (x, p)) :
    Calls Tryz.prog 5 #[.slice a s.length cap] w fun e w' => e = .returned (.tuple #[.agg #[.slice none 0 0], .int .i64 x, .int .i64 p]) ∧ Ext w w' := by
  have := parse_any w a s cap hs hcap
  rw [h] at this
  exact this
theorem parse_ok (w : World) (a : Option Addr) (s : List UInt8) (cap : Nat) (hs : BytesAt w a s) (hcap : s.length ≤ cap) (p : List Fu) (h : parse s = .ok p) :
    Calls Tryz.prog 5 #[.slice a s.length cap] w fun e w' => (∃ (fa : Option Addr) (fc : Nat), e = .returned (.tuple #[.agg #[.slice fa p.length fc], .int .i64 0, .int .i64 0]) ∧ RowIs w' (w.heap.size ≤ ·) (.slice fa p.length fc) p.length (FusIs w' (w.heap.size ≤ ·) p)) ∧ Ext w w' := by
  have := parse_any w a s cap hs hcap
  rw [h] at this
  refine this.mono fun e w' ⟨⟨v, h1, h2⟩, h3⟩ => ?_
  obtain ⟨fa, fc, ks, rfl, hr⟩ := h2
  exact ⟨⟨fa, fc, h1, fa, fc, ks, rfl, hr⟩, h3⟩
end Go.Proofs.YtaehlakefgnfmaaGreatDoor
