/-
  DERIVED. THE WALK of level (printed by gen_level.py).
-/
import Derived.Test.YtaehlakefgnfmaaGreatDoorPrim
import Derived.Test.YtaehlakefgnfmaaGreatDoorSigns
import Derived.Deep.DeepCutAuto
import Derived.Deep.LoopGhost
namespace Go.Proofs.YtaehlakefgnfmaaGreatDoor
set_option linter.unusedSimpArgs false
set_option linter.unusedVariables false
set_option maxRecDepth 100000
open Go.RowKit

/-- The deepest level: what has signs ahead. -/
theorem level_five (d : Nat) (one : Rd Ex) (h1 : ExprC 97 d one) : LevelC 5 d one := by
  intro w br n ts hr hw
  have lr := hr.lt
  have HC := hid h1
  clear h1
  have r0 := (hr.ext ((Ext.refl _).alloc (.cells #[.pointer (some ⟨br, 0, none⟩)] 44))).ext ((Ext.refl _).alloc (.cells #[.int .i64 0, .int .i64 0, .string ⟨#[]⟩, .slice none 0 0, .int .i64 0] 100))
  go_enter Tryz.func90, Tryz.ntmps90
  go_wp2_with fail
  refine (HC.out _ br n ts r0 hw).mono ?_
  intro e w1
  cases hp : one ts with
  | err c r =>
    rintro ⟨rfl, k1⟩
    have HP := hid hp
    clear hp
    go_wp2_with fail
    refine ⟨rfl, ?_⟩
    try rw [HP.out]
    exact ⟨rfl, (((Keep.refl _ _).alloc _).alloc _).trans' k1⟩
  | ok x r =>
    rintro ⟨v, rfl, hx, r1, k1⟩
    have HP := hid hp
    clear hp
    obtain ⟨op, num, text, ka, kn, kc, at_, rfl⟩ := hx.form
    have B4 := (Blk.new (w.alloc (.cells #[.pointer (some ⟨br, 0, none⟩)] 44)) 100 [.int .i64 0, .int .i64 0, .string ⟨#[]⟩, .slice none 0 0, .int .i64 0]).keep k1 (by simp; omega)
    rw [World.size_alloc] at B4
    obtain ⟨z0, z1, z2, z3, z4, zf⟩ := B4.five
    have lw : w.heap.size + 2 ≤ w1.heap.size := by have := k1.size; simp at this; omega
    go_wp2_with fail
    obtain ⟨BF, KF⟩ := five_set B4 (.int .i64 op) (.int .i64 num) (.string ⟨text.toArray⟩) (.slice ka kn kc) (.int .i64 at_)
    rw [HP.out]
    generalize (((((w1.setCell ⟨w.heap.size + 1, 0, none⟩ (.int .i64 op)).setCell ⟨w.heap.size + 1, 1, none⟩ (.int .i64 num)).setCell ⟨w.heap.size + 1, 2, none⟩ (.string ⟨text.toArray⟩)).setCell ⟨w.heap.size + 1, 3, none⟩ (.slice ka kn kc)).setCell ⟨w.heap.size + 1, 4, none⟩ (.int .i64 at_)) = wF at BF KF ⊢
    obtain ⟨q0, q1, q2, q3, q4, _⟩ := BF.five
    refine bodyPost_ret (v := .agg #[.int .i64 op, .int .i64 num, .string ⟨text.toArray⟩, .slice ka kn kc, .int .i64 at_]) (by simp [results, Tryz.results90, go_sem, q0, q1, q2, q3, q4]) rfl ?_
    refine ⟨_, rfl, ?_, (r1.keep KF (by simp; omega)), ((((Keep.refl [br] w).alloc _).alloc _).trans' k1).trans KF (by simp)⟩
    exact hx.carry KF (by simp) (by simp; omega)

/-- signs, its row somewhere new. -/
theorem signs_ext (w : World) (m : Nat) (hm : m < 5) :
    Calls Tryz.prog 99 #[.int .i64 m] w fun e w' => ∃ bs, e = .returned (.slice (some ⟨bs, 0, none⟩) (levelSigns m).length (levelSigns m).length) ∧ w.heap.size ≤ bs ∧ Blk w' bs 9 ((levelSigns m).map strW) ∧ Ext w w' :=
  (signs_any w m hm).mono fun e w' ⟨h1, h2⟩ => by subst h2; exact ⟨w.heap.size, h1, Nat.le_refl _, Blk.new w _ _, (Ext.refl _).alloc _⟩
/-- Where level's loop stands: its blocks, what has been read (x), the reader. -/
structure LvAt (w wr : World) (br n b7 : Nat) (ts : List Tok) (x : Ex) (vs : List Value) : Prop where
  lr : br < w.heap.size
  l7 : w.heap.size + 2 ≤ b7
  b3 : Blk wr w.heap.size 44 [.pointer (some ⟨br, 0, none⟩)]
  b6 : Blk wr (w.heap.size + 1) 100 [.int .i64 0, .int .i64 0, .string ⟨#[]⟩, .slice none 0 0, .int .i64 0]
  bx : Blk wr b7 100 vs
  ex : ExIs wr (fun b => w.heap.size ≤ b ∧ b ≠ b7 ∧ b ≠ w.heap.size + 1) x vs
  rd : RdAt wr br n ts
  keep : Keep [br] w wr
theorem LvAt.move {w wr w' : World} {br n b7 : Nat} {ts ts' : List Tok} {x : Ex} {vs : List Value} (h : LvAt w wr br n b7 ts x vs) (r : RdAt w' br n ts') (k : Keep [br] wr w') : LvAt w w' br n b7 ts' x vs := by
  have := h.lr
  have := h.l7
  exact ⟨h.lr, h.l7, h.b3.keep k (by simp; omega), h.b6.keep k (by simp; omega), h.bx.keep k (by simp; omega), ExIs.carry (Carry.keep k (fun b hb _ hf => by simp at hb; omega) fun b _ hf => hf) _ _ h.ex, r, h.keep.trans' k⟩
theorem LvAt.ext {w wr w' : World} {br n b7 : Nat} {ts : List Tok} {x : Ex} {vs : List Value} (h : LvAt w wr br n b7 ts x vs) (e : Ext wr w') : LvAt w w' br n b7 ts x vs := h.move (h.rd.ext e) (.ofExt e)
theorem LvAt.size {w wr : World} {br n b7 : Nat} {ts : List Tok} {x : Ex} {vs : List Value} (h : LvAt w wr br n b7 ts x vs) : b7 < wr.heap.size := h.bx.lt
theorem LvAt.form {w wr : World} {br n b7 : Nat} {ts : List Tok} {x : Ex} {vs : List Value} (h : LvAt w wr br n b7 ts x vs) : ∃ (op num : Nat) (text : List UInt8) (ka : Option Addr) (kn kc at_ : Nat), vs = [.int .i64 op, .int .i64 num, .string ⟨text.toArray⟩, .slice ka kn kc, .int .i64 at_] := by
  have h2 := h.ex
  cases x
  simp only [ExIs] at h2
  obtain ⟨kv, rfl, ka, kc, kks, rfl, _⟩ := h2
  exact ⟨_, _, _, _, _, _, _, rfl⟩
theorem LvAt.cells {w wr : World} {br n b7 : Nat} {ts : List Tok} {x : Ex} {v0 v1 v2 v3 v4 : Value} (h : LvAt w wr br n b7 ts x [v0, v1, v2, v3, v4]) :
    wr.cell? ⟨w.heap.size, 0, none⟩ = some (.pointer (some ⟨br, 0, none⟩)) ∧
    (wr.cell? ⟨b7, 0, none⟩ = some v0 ∧ wr.cell? ⟨b7, 1, none⟩ = some v1 ∧ wr.cell? ⟨b7, 2, none⟩ = some v2 ∧ wr.cell? ⟨b7, 3, none⟩ = some v3 ∧ wr.cell? ⟨b7, 4, none⟩ = some v4 ∧ (∀ i, wr.frozen? ⟨b7, i, none⟩ = false)) ∧
    (wr.cell? ⟨w.heap.size + 1, 0, none⟩ = some (.int .i64 0) ∧ wr.cell? ⟨w.heap.size + 1, 1, none⟩ = some (.int .i64 0) ∧ wr.cell? ⟨w.heap.size + 1, 2, none⟩ = some (.string ⟨#[]⟩) ∧ wr.cell? ⟨w.heap.size + 1, 3, none⟩ = some (.slice none 0 0) ∧ wr.cell? ⟨w.heap.size + 1, 4, none⟩ = some (.int .i64 0) ∧ (∀ i, wr.frozen? ⟨w.heap.size + 1, i, none⟩ = false)) :=
  ⟨h.b3.cell 0, h.bx.five, h.b6.five⟩
/-- x copied into the result. -/
theorem LvAt.ans {w wr : World} {br n b7 : Nat} {ts : List Tok} {x : Ex} {v0 v1 v2 v3 v4 : Value} (h : LvAt w wr br n b7 ts x [v0, v1, v2, v3, v4]) :
    ∃ wF : World, wF = ((((wr.setCell ⟨w.heap.size + 1, 0, none⟩ v0).setCell ⟨w.heap.size + 1, 1, none⟩ v1).setCell ⟨w.heap.size + 1, 2, none⟩ v2).setCell ⟨w.heap.size + 1, 3, none⟩ v3).setCell ⟨w.heap.size + 1, 4, none⟩ v4 ∧
      Blk wF (w.heap.size + 1) 100 [v0, v1, v2, v3, v4] ∧ RdAt wF br n ts ∧ Keep [br] w wF ∧ encX w.heap.size wF x (.agg #[v0, v1, v2, v3, v4]) := by
  have := h.lr
  obtain ⟨BF, KF⟩ := five_set h.b6 v0 v1 v2 v3 v4
  exact ⟨_, rfl, BF, h.rd.keep KF (by simp; omega), h.keep.trans KF (by simp), _, rfl, ExIs.carry (Carry.keep KF (fun b hb _ hf => by simp at hb; omega) fun b _ hf => hf.1) _ _ h.ex⟩
theorem LvAt.begin {w w1 : World} {br n : Nat} {r : List Tok} {x : Ex} {v : Value} (lr : br < w.heap.size) (hx : encX (w.heap.size + 2) w1 x v) (r1 : RdAt w1 br n r)
    (k1 : Keep [br] ((w.alloc (.cells #[.pointer (some ⟨br, 0, none⟩)] 44)).alloc (.cells #[.int .i64 0, .int .i64 0, .string ⟨#[]⟩, .slice none 0 0, .int .i64 0] 100)) w1) :
    ∃ vs, v = .agg vs.toArray ∧ LvAt w (w1.alloc (.cells vs.toArray 100)) br n w1.heap.size r x vs := by
  obtain ⟨vs, rfl, h2⟩ := hx
  have lw : w.heap.size + 2 ≤ w1.heap.size := by have := k1.size; simp at this; omega
  have B6 := ((Blk.new (w.alloc (.cells #[.pointer (some ⟨br, 0, none⟩)] 44)) 100 [.int .i64 0, .int .i64 0, .string ⟨#[]⟩, .slice none 0 0, .int .i64 0]).keep k1 (by simp; omega)).alloc (.cells vs.toArray 100)
  have B3 := (((Blk.new w 44 [.pointer (some ⟨br, 0, none⟩)]).alloc (.cells #[.int .i64 0, .int .i64 0, .string ⟨#[]⟩, .slice none 0 0, .int .i64 0] 100)).keep k1 (by simp; omega)).alloc (.cells vs.toArray 100)
  rw [World.size_alloc] at B6
  refine ⟨vs, rfl, lr, lw, B3, B6, Blk.new _ _ _, ?_, r1.ext ((Ext.refl _).alloc _), ((((Keep.refl [br] w).alloc _).alloc _).trans' k1).alloc _⟩
  exact ExIs.carry (Carry.keep (.ofExt ((Ext.refl _).alloc _) : Keep [] w1 _) (by simp) (fun b hb hf => by have hf' : w.heap.size + 2 ≤ b := hf; exact ⟨by omega, by omega, by omega⟩)) _ _ h2
theorem row_twoF {w : World} {F : Nat → Prop} {nb : Nat} {x y : Ex} {vs us : List Value} (hx : ExIs w F x vs) (hy : ExIs w F y us) (hb : Blk w nb 100 (vs ++ us)) (hB : F nb) : RowIs w F (.slice (some ⟨nb, 0, none⟩) 2 2) 2 (fun ks => ExsIs w F [x, y] ks) := by
  refine ⟨some ⟨nb, 0, none⟩, 2, vs ++ us, rfl, Nat.le_refl _, fun i v hv => ⟨nb, 0, rfl, hB, by rw [Nat.zero_add, hb.cell i, hv]⟩, ?_⟩
  simp only [ExsIs]
  exact ⟨vs, us, rfl, hx, us, [], by simp, hy, rfl⟩
theorem two_left {w wA wM wZ : World} {br n b7 nb at_ BL : Nat} {x y : Ex} {r ts : List Tok} {v0 v1 v2 v3 v4 : Value} {us : List Value} {s : List UInt8} (h : LvAt w wA br n b7 ts x [v0, v1, v2, v3, v4]) (hw : wA.heap.size ≤ BL)
    (hy : ExIs wM (BL ≤ ·) y us) (kM : Keep [br] wA wM) (rM : RdAt wM br n r) (kZ : Ext wM wZ) (hB : Blk wZ nb 100 ([v0, v1, v2, v3, v4] ++ us)) (hn : wA.heap.size ≤ nb) :
    LvAt w (((((wZ.setCell ⟨b7, 0, none⟩ (.int .i64 6)).setCell ⟨b7, 1, none⟩ (.int .i64 0)).setCell ⟨b7, 2, none⟩ (.string ⟨s.toArray⟩)).setCell ⟨b7, 3, none⟩ (.slice (some ⟨nb, 0, none⟩) 2 2)).setCell ⟨b7, 4, none⟩ (.int .i64 at_))
      br n b7 r (.mk 6 0 s [x, y] at_) [.int .i64 6, .int .i64 0, .string ⟨s.toArray⟩, .slice (some ⟨nb, 0, none⟩) 2 2, .int .i64 at_] := by
  have lx := h.size
  have l72 := h.l7
  have lr := h.lr
  have hZ := (h.move rM kM).ext kZ
  obtain ⟨BF, KF⟩ := five_set hZ.bx (.int .i64 6) (.int .i64 0) (.string ⟨s.toArray⟩) (.slice (some ⟨nb, 0, none⟩) 2 2) (.int .i64 at_)
  generalize (((((wZ.setCell ⟨b7, 0, none⟩ (.int .i64 6)).setCell ⟨b7, 1, none⟩ (.int .i64 0)).setCell ⟨b7, 2, none⟩ (.string ⟨s.toArray⟩)).setCell ⟨b7, 3, none⟩ (.slice (some ⟨nb, 0, none⟩) 2 2)).setCell ⟨b7, 4, none⟩ (.int .i64 at_)) = wF at BF KF ⊢
  refine ⟨lr, l72, hZ.b3.keep KF (by simp; omega), hZ.b6.keep KF (by simp; omega), BF, ?_, hZ.rd.keep KF (by simp; omega), hZ.keep.trans KF (by simp; omega)⟩
  have hx' := ExIs.carry (Carry.keep KF (fun b hb _ hf => by simp at hb; exact hf.2.1 hb) (fun b _ hf => hf) : Carry wZ wF _ (fun b => w.heap.size ≤ b ∧ b ≠ b7 ∧ b ≠ w.heap.size + 1)) _ _ hZ.ex
  have c1 : Carry wM wZ (BL ≤ ·) (BL ≤ ·) := Carry.keep (.ofExt kZ : Keep [] wM wZ) (by simp) (fun b _ hf => hf)
  have c2 : Carry wZ wF (BL ≤ ·) (fun b => w.heap.size ≤ b ∧ b ≠ b7 ∧ b ≠ w.heap.size + 1) := Carry.keep KF (fun b hb _ hf => by simp at hb; omega) (fun b _ hf => by have hf' : BL ≤ b := hf; exact ⟨by omega, by omega, by omega⟩)
  have hy' := ExIs.carry c2 _ _ (ExIs.carry c1 _ _ hy)
  simp only [ExIs]
  exact ⟨_, rfl, row_twoF hx' hy' (hB.keep KF (by simp; omega)) ⟨by omega, by omega, by omega⟩⟩
theorem lv_no {next : Rd Ex} {n f : Nat} {x : Ex} {ts : List Tok} (h : isOp n ts = false) : levelGo next n (f + 1) x ts = .ok x ts := by
  simp only [levelGo]
  rw [if_neg (by rw [h]; decide)]
theorem lv_yes {next : Rd Ex} {n f : Nat} {x : Ex} {ts : List Tok} (h : isOp n ts = true) : levelGo next n (f + 1) x ts = (next ts.tail).bind fun y r => if n = 2 then .ok (.mk 6 0 (headText ts) [x, y] (headPlace ts)) r else levelGo next n f (.mk 6 0 (headText ts) [x, y] (headPlace ts)) r := by
  simp only [levelGo]
  rw [if_pos h]
theorem phase_done {P : Program} {md : Region.Mode} {ops : Array Oper} {Q : Exit → Act → World → Prop} {S : World → Prop} {N fuel : Nat} {listed : Array Bool} {a : Act} {w : World} (hr : Region.ready md ops listed = []) (h : Q .normal a w) : wpAnyP P md ops Q S N fuel listed a w := by
  cases fuel with
  | zero => exact ⟨hr, h⟩
  | succ f => exact ⟨fun _ => h, fun k hk => by rw [hr] at hk; cases hk⟩
/-- The box that holds the reader. -/
def SP (b br : Nat) (w' : World) : Prop := w'.cell? ⟨b, 0, none⟩ = some (.pointer (some ⟨br, 0, none⟩)) ∧ b < w'.heap.size
theorem SP.ext {b br : Nat} {w w' : World} (h : SP b br w) (e : Ext w w') : SP b br w' := ⟨e.cell h.1, Nat.lt_of_lt_of_le h.2 e.size⟩
theorem SP.keep {b br br' : Nat} {w w' : World} (h : SP b br w) (k : Keep [br'] w w') (hn : b ≠ br') : SP b br w' := ⟨k.cellV (by simpa using hn) h.1, Nat.lt_of_lt_of_le h.2 k.size⟩
/-- The same, and a block known whole. -/
def SQ (b br b10 : Nat) (vs : List Value) (w' : World) : Prop := SP b br w' ∧ Blk w' b10 100 vs
theorem SQ.ext {b br b10 : Nat} {vs : List Value} {w w' : World} (h : SQ b br b10 vs w) (e : Ext w w') : SQ b br b10 vs w' := ⟨h.1.ext e, h.2.ext e⟩
theorem SQ.keep {b br br' b10 : Nat} {vs : List Value} {w w' : World} (h : SQ b br b10 vs w) (k : Keep [br'] w w') (hn : b ≠ br') (hn' : b10 ≠ br') : SQ b br b10 vs w' := ⟨h.1.keep k hn, h.2.keep k (by simpa using hn')⟩
theorem SQ.set {b br b10 : Nat} {vs : List Value} {w : World} (h : SQ b br b10 vs w) (p : Addr) (v : Value) (hn : p.block ≠ b) (hn' : p.block ≠ b10) : SQ b br b10 vs (w.setCell p v) :=
  ⟨⟨(Keep.set w p v).cellV (by simp; exact fun e => hn e.symm) h.1.1, by simpa [World.setCell] using h.1.2⟩, h.2.setOther p hn' v⟩
theorem isOp_len {n : Nat} {ts : List Tok} (h : isOp n ts = true) : ts.tail.length + 1 = ts.length := by
  obtain ⟨t, r, rfl, _⟩ := isOp_cons h; rfl
def LvRel (w : World) (br n b7 : Nat) (next : Rd Ex) (m : Nat) (R : Res Ex) (k : Nat) (wr : World) : Prop :=
  ∃ x us vs, LvAt w wr br n b7 us x vs ∧ Wf us ∧ us.length < k ∧ R = levelGo next m k x us
theorem signs_len (m : Nat) : (levelSigns m).length ≤ 6 := by
  match m with
  | 0 | 1 | 2 | 3 | _ + 4 => simp [levelSigns]

set_option maxHeartbeats 4000000 in
theorem level_any (m d : Nat) (hm : m < 5) (hd : d ≤ 100) (next : Rd Ex) (hN : LevelC (m + 1) d next) (hi : Inv Ex.size WFx next) : LevelC m d (fun ts => (next ts).bind fun x r => levelGo next m (r.length + 1) x r) := by
  intro w br n ts hr hw
  have lr := hr.lt
  have HN := hid hN
  have HI := hid hi
  clear hN hi
  have hwr : IntKind.i64.wrap ((m : Int) + 1) = (m : Int) + 1 := by rw [IntWalk.i64_in _ (by omega)]
  have hm5 : ((m : Int) == 5) = false := by simp; omega
  have hmf : ∀ (fn : Fn) (first cap : Array Value) (w : World), (Instr.makeFunc fn first cap).run Tryz.prog w = .ok (.func fn first cap) w := fun _ _ _ _ => rfl
  have r0 := (hr.ext ((Ext.refl _).alloc (.cells #[.pointer (some ⟨br, 0, none⟩)] 44))).ext ((Ext.refl _).alloc (.cells #[.int .i64 0, .int .i64 0, .string ⟨#[]⟩, .slice none 0 0, .int .i64 0] 100))
  show Calls _ _ _ _ (Ans w br n (encX w.heap.size) ((next ts).bind fun x r => levelGo next m (r.length + 1) x r))
  generalize hRR : ((next ts).bind fun x r => levelGo next m (r.length + 1) x r) = R
  have HRR := hid hRR.symm
  clear hRR
  go_enter Tryz.func90, Tryz.ntmps90
  go_wp2_with fail
  refine (HN.out _ br n ts r0 hw).mono ?_
  intro e w1
  cases hp : next ts with
  | err c r =>
    rintro ⟨rfl, k1⟩
    have HR2 := hid (show R = .err c r from HRR.out.trans (bind_f hp))
    clear hp
    go_wp2_with fail
    refine ⟨rfl, ?_⟩
    rw [HR2.out]
    exact ⟨rfl, (((Keep.refl _ _).alloc _).alloc _).trans' k1⟩
  | ok x r =>
    rintro ⟨v, rfl, hx, r1, k1⟩
    have hF := HI.out ts hw
    rw [hp] at hF
    have HF := hid hF
    have HR1 := hid (show R = levelGo next m (r.length + 1) x r from HRR.out.trans (bind_t hp))
    clear hp hF HRR
    obtain ⟨vs, rfl, L0⟩ := LvAt.begin lr (by simpa only [World.size_alloc] using hx) r1 k1
    obtain ⟨op, num, text, ka, kn, kc, at_, rfl⟩ := L0.form
    have HR0 := hid (show LvRel w br n w1.heap.size next m R (r.length + 1) _ from ⟨x, r, _, L0, HF.out.2.2, by omega, HR1.out⟩)
    clear hx r1 k1 L0 r0
    go_wp2_with fail
    go_loopg [] (r.length + 1) (fun k wr => LvRel w br n w1.heap.size next m R k wr)
    case atStart => exact HR0.out
    case round =>
      obtain ⟨x, us, vs, L, hwu, hlt, hR⟩ := hrel
      obtain ⟨k, rfl⟩ : ∃ k, gk = k + 1 := ⟨gk - 1, by omega⟩
      obtain ⟨op, num, text, ka, kn, kc, at_, rfl⟩ := L.form
      obtain ⟨g3, ⟨x0, x1, x2, x3, x4, xf⟩, ⟨z0, z1, z2, z3, z4, zf⟩⟩ := L.cells
      have HR := hid hR
      clear hR
      go_wp2_with fail
      refine (signs_ext wr m hm).mono ?_
      rintro e1 w2 ⟨bs, rfl, hbs, HB, E2⟩
      have L2 := L.ext E2
      clear g3 x0 x1 x2 x3 x4 xf z0 z1 z2 z3 z4 zf L
      obtain ⟨g3, ⟨x0, x1, x2, x3, x4, xf⟩, ⟨z0, z1, z2, z3, z4, zf⟩⟩ := L2.cells
      go_wp2_with fail
      have hpw : CellsAt w2 (some ⟨bs, 0, none⟩) ((levelSigns m).map strW) := fun i v hv => ⟨bs, 0, rfl, by rw [Nat.zero_add, HB.cell i, hv]⟩
      have hsl := signs_len m
      refine (index_any _ _ _ (levelSigns m) _ _ (fun s => isSign s us) hpw (by omega) (look_decides _ br n us L2.rd _ g3)).mono ?_
      rintro e1 w3 ⟨i, rfl, hidx, rfl⟩
      rcases hidx with ⟨rfl, hno⟩ | ⟨k0, hk0, rfl, hyes⟩
      · have HR2 := hid (show R = .ok x us by rw [HR.out, lv_no (idx_none hno)])
        clear hno
        go_wp2_with fail
        obtain ⟨wF, hwF, BF, rF, kF, hX⟩ := L2.ans
        rw [← hwF]
        obtain ⟨q0, q1, q2, q3, q4, _⟩ := BF.five
        refine bodyPost_ret (v := .agg #[.int .i64 op, .int .i64 num, .string ⟨text.toArray⟩, .slice ka kn kc, .int .i64 at_]) (by simp [results, Tryz.results90, go_sem, q0, q1, q2, q3, q4]) rfl ?_
        rw [HR2.out]
        exact ⟨_, rfl, hX, rF, kF⟩
      · obtain ⟨hop, hht⟩ := idx_op hk0 hyes
        have HY := hid hyes
        have HH := hid hht
        have HOP := hid hop
        clear hyes hht hop
        have hk00 : ¬ ((k0 : Int) < 0) := by omega
        go_wp2_with fail
        (with_reducible refine (place_any _ br n us L2.rd).mono ?_)
        rintro e1 w' ⟨rfl, rfl⟩
        go_wp2_with fail
        have hS : SP w.heap.size br w2.drew := ⟨g3, L2.b3.lt⟩
        have LA := L2.ext (Ext.refl _).drew
        refine phase_begin (SP w.heap.size br) 8 (by kernel_rfl) ?_
        refine phase_take (i := 0) (v := .pointer (some ⟨br, 0, none⟩)) rfl (by kernel_rfl) (by omega) (by kernel_rfl) (by kernel_rfl) (by kernel_rfl) (fun _ _ _ h => h) ⟨by rfl, ?_⟩ hS ?_
        · intro wS hSw
          obtain ⟨s1, s2⟩ := hSw
          go_simp
        simp only [Act.put, List.getElem_toArray, List.getElem_cons_succ, List.getElem_cons_zero, List.setIfInBounds_toArray, List.set_cons_zero, List.set_cons_succ]
        refine phase_take (i := 1) (v := .int .i64 m) rfl (by kernel_rfl) (by omega) (by kernel_rfl) (by kernel_rfl) (by kernel_rfl) (fun _ _ _ h => h) ⟨by rfl, ?_⟩ hS ?_
        · intro wS hSw
          obtain ⟨s1, s2⟩ := hSw
          go_simp
        simp only [Act.put, List.getElem_toArray, List.getElem_cons_succ, List.getElem_cons_zero, List.setIfInBounds_toArray, List.set_cons_zero, List.set_cons_succ]
        refine phase_take (i := 3) (v := .int .i64 k0) rfl (by kernel_rfl) (by omega) (by kernel_rfl) (by kernel_rfl) (by kernel_rfl) (fun _ _ _ h => h) ⟨by rfl, ?_⟩ hS ?_
        · intro wS hSw
          obtain ⟨s1, s2⟩ := hSw
          go_simp
        simp only [Act.put, List.getElem_toArray, List.getElem_cons_succ, List.getElem_cons_zero, List.setIfInBounds_toArray, List.set_cons_zero, List.set_cons_succ]
        refine phase_one (i := 2) (by kernel_rfl) (by omega) rfl (by rfl) (fun K hK => ?_)
        go_simp
        refine (signs_ext _ m hm).mono ?_
        rintro e1 w4 ⟨bs', rfl, hbs', HB', E4⟩
        have L4 := LA.ext E4
        have hS4 := hS.ext E4
        refine hK _ _ ⟨hS4, ?_⟩
        clear hK K
        try simp only [Act.put, List.getElem_toArray, List.getElem_cons_succ, List.getElem_cons_zero, List.setIfInBounds_toArray, List.set_cons_zero, List.set_cons_succ]
        have hk1 : (0 : Int) ≤ k0 := by omega
        have hk2 : (k0 : Int) < (levelSigns m).length := by omega
        refine phase_take (i := 4) (v := .pointer (some ⟨bs', k0, none⟩)) rfl (by kernel_rfl) (by omega) (by kernel_rfl) (by kernel_rfl) (by kernel_rfl) (fun _ _ _ h => h) ⟨by rfl, ?_⟩ hS4 ?_
        · intro wS hSw
          obtain ⟨s1, s2⟩ := hSw
          go_simp
        simp only [Act.put, List.getElem_toArray, List.getElem_cons_succ, List.getElem_cons_zero, List.setIfInBounds_toArray, List.set_cons_zero, List.set_cons_succ]
        have hcs : w4.cell? ⟨bs', k0, none⟩ = some (.string ⟨((levelSigns m)[k0]).toArray⟩) := by
          rw [HB'.cell k0, List.getElem?_map, List.getElem?_eq_getElem hk0]; rfl
        refine phase_one (i := 5) (by kernel_rfl) (by omega) rfl (by rfl) (fun K hK => ?_)
        go_simp
        refine hK _ _ ⟨hS4, ?_⟩
        clear hK K
        try simp only [Act.put, List.getElem_toArray, List.getElem_cons_succ, List.getElem_cons_zero, List.setIfInBounds_toArray, List.set_cons_zero, List.set_cons_succ]
        refine phase_one (i := 6) (by kernel_rfl) (by omega) rfl (by rfl) (fun K hK => ?_)
        go_simp
        refine hK _ _ ⟨hS4.ext ((Ext.refl _).alloc _), ?_⟩
        clear hK K
        try simp only [Act.put, List.getElem_toArray, List.getElem_cons_succ, List.getElem_cons_zero, List.setIfInBounds_toArray, List.set_cons_zero, List.set_cons_succ]
        refine phase_one (i := 7) (by kernel_rfl) (by omega) rfl (by rfl) (fun K hK => ?_)
        go_simp
        refine (mustY _ br n us L4.rd _ HY.out _ rfl).mono ?_
        rintro e1 w5 ⟨rfl, r5, k5⟩
        refine hK _ _ ⟨(hS4.keep k5 (by omega)), ?_⟩
        clear hK K
        try simp only [Act.put, List.getElem_toArray, List.getElem_cons_succ, List.getElem_cons_zero, List.setIfInBounds_toArray, List.set_cons_zero, List.set_cons_succ]
        refine phase_done (by kernel_rfl) ?_
        have L5 := L4.move r5 k5
        clear g3 x0 x1 x2 x3 x4 xf z0 z1 z2 z3 z4 zf L2 LA L4 hS hS4 hpw hbs HB E2 hbs' HB' E4 hcs
        obtain ⟨g3, ⟨x0, x1, x2, x3, x4, xf⟩, ⟨z0, z1, z2, z3, z4, zf⟩⟩ := L5.cells
        go_upto_region 10 with fail
        have LB := L5.ext ((Ext.refl _).alloc (.cells #[.int .i64 op, .int .i64 num, .string ⟨text.toArray⟩, .slice ka kn kc, .int .i64 at_] 100))
        have B10 := Blk.new w5 100 [.int .i64 op, .int .i64 num, .string ⟨text.toArray⟩, .slice ka kn kc, .int .i64 at_]
        have l5 := L5.size
        have l57 := L5.l7
        clear g3 x0 x1 x2 x3 x4 xf z0 z1 z2 z3 z4 zf L5
        generalize w5.alloc (.cells #[.int .i64 op, .int .i64 num, .string ⟨text.toArray⟩, .slice ka kn kc, .int .i64 at_] 100) = w6 at LB B10 ⊢
        have hR3 := hid (HR.out.trans (lv_yes HOP.out))
        have hFn := HI.out us.tail hwu.tail
        have hut := isOp_len HOP.out
        cases hq : next us.tail with
        | err c r =>
          have HR4 := hid (show R = .err c r from hR3.out.trans (bind_f hq))
          clear hFn
          have LA := LB.ext (Ext.refl _).drew
          have hS : SQ w.heap.size br w5.heap.size [.int .i64 op, .int .i64 num, .string ⟨text.toArray⟩, .slice ka kn kc, .int .i64 at_] w6.drew := ⟨⟨LA.b3.cell 0, LA.b3.lt⟩, B10.ext (Ext.refl _).drew⟩
          have hk1 : (0 : Int) ≤ k0 := by omega
          have hk2 : (k0 : Int) < (levelSigns m).length := by omega
          refine phase_begin (SQ w.heap.size br w5.heap.size [.int .i64 op, .int .i64 num, .string ⟨text.toArray⟩, .slice ka kn kc, .int .i64 at_]) 15 (by kernel_rfl) ?_
          refine phase_take (i := 0) (v := .int .i64 m) rfl (by kernel_rfl) (by omega) (by kernel_rfl) (by kernel_rfl) (by kernel_rfl) (fun _ _ _ h => h) ⟨by rfl, ?_⟩ hS ?_
          · intro wS hSw
            obtain ⟨⟨s1, s2⟩, s3⟩ := hSw
            obtain ⟨s30, s31, s32, s33, s34, s3f⟩ := s3.five
            go_simp
          simp only [Act.put, List.getElem_toArray, List.getElem_cons_succ, List.getElem_cons_zero, List.setIfInBounds_toArray, List.set_cons_zero, List.set_cons_succ]
          refine phase_take (i := 2) (v := .int .i64 k0) rfl (by kernel_rfl) (by omega) (by kernel_rfl) (by kernel_rfl) (by kernel_rfl) (fun _ _ _ h => h) ⟨by rfl, ?_⟩ hS ?_
          · intro wS hSw
            obtain ⟨⟨s1, s2⟩, s3⟩ := hSw
            obtain ⟨s30, s31, s32, s33, s34, s3f⟩ := s3.five
            go_simp
          simp only [Act.put, List.getElem_toArray, List.getElem_cons_succ, List.getElem_cons_zero, List.setIfInBounds_toArray, List.set_cons_zero, List.set_cons_succ]
          refine phase_take (i := 5) (v := .agg #[.int .i64 op, .int .i64 num, .string ⟨text.toArray⟩, .slice ka kn kc, .int .i64 at_]) rfl (by kernel_rfl) (by omega) (by kernel_rfl) (by kernel_rfl) (by kernel_rfl) (fun _ _ _ h => h) ⟨by rfl, ?_⟩ hS ?_
          · intro wS hSw
            obtain ⟨⟨s1, s2⟩, s3⟩ := hSw
            obtain ⟨s30, s31, s32, s33, s34, s3f⟩ := s3.five
            go_simp
          simp only [Act.put, List.getElem_toArray, List.getElem_cons_succ, List.getElem_cons_zero, List.setIfInBounds_toArray, List.set_cons_zero, List.set_cons_succ]
          refine phase_take (i := 6) (v := .pointer (some ⟨br, 0, none⟩)) rfl (by kernel_rfl) (by omega) (by kernel_rfl) (by kernel_rfl) (by kernel_rfl) (fun _ _ _ h => h) ⟨by rfl, ?_⟩ hS ?_
          · intro wS hSw
            obtain ⟨⟨s1, s2⟩, s3⟩ := hSw
            obtain ⟨s30, s31, s32, s33, s34, s3f⟩ := s3.five
            go_simp
          simp only [Act.put, List.getElem_toArray, List.getElem_cons_succ, List.getElem_cons_zero, List.setIfInBounds_toArray, List.set_cons_zero, List.set_cons_succ]
          refine phase_take (i := 7) (v := .int .i64 m) rfl (by kernel_rfl) (by omega) (by kernel_rfl) (by kernel_rfl) (by kernel_rfl) (fun _ _ _ h => h) ⟨by rfl, ?_⟩ hS ?_
          · intro wS hSw
            obtain ⟨⟨s1, s2⟩, s3⟩ := hSw
            obtain ⟨s30, s31, s32, s33, s34, s3f⟩ := s3.five
            go_simp
          simp only [Act.put, List.getElem_toArray, List.getElem_cons_succ, List.getElem_cons_zero, List.setIfInBounds_toArray, List.set_cons_zero, List.set_cons_succ]
          refine phase_take (i := 8) (v := .int .i64 ((m : Int) + 1)) rfl (by kernel_rfl) (by omega) (by kernel_rfl) (by kernel_rfl) (by kernel_rfl) (fun _ _ _ h => h) ⟨by rfl, ?_⟩ hS ?_
          · intro wS hSw
            obtain ⟨⟨s1, s2⟩, s3⟩ := hSw
            obtain ⟨s30, s31, s32, s33, s34, s3f⟩ := s3.five
            go_simp
          simp only [Act.put, List.getElem_toArray, List.getElem_cons_succ, List.getElem_cons_zero, List.setIfInBounds_toArray, List.set_cons_zero, List.set_cons_succ]
          refine phase_take (i := 9) (v := .int .i64 d) rfl (by kernel_rfl) (by omega) (by kernel_rfl) (by kernel_rfl) (by kernel_rfl) (fun _ _ _ h => h) ⟨by rfl, ?_⟩ hS ?_
          · intro wS hSw
            obtain ⟨⟨s1, s2⟩, s3⟩ := hSw
            obtain ⟨s30, s31, s32, s33, s34, s3f⟩ := s3.five
            go_simp
          simp only [Act.put, List.getElem_toArray, List.getElem_cons_succ, List.getElem_cons_zero, List.setIfInBounds_toArray, List.set_cons_zero, List.set_cons_succ]
          refine phase_take (i := 12) (v := .int .i64 (placeOf n us)) rfl (by kernel_rfl) (by omega) (by kernel_rfl) (by kernel_rfl) (by kernel_rfl) (fun _ _ _ h => h) ⟨by rfl, ?_⟩ hS ?_
          · intro wS hSw
            obtain ⟨⟨s1, s2⟩, s3⟩ := hSw
            obtain ⟨s30, s31, s32, s33, s34, s3f⟩ := s3.five
            go_simp
          simp only [Act.put, List.getElem_toArray, List.getElem_cons_succ, List.getElem_cons_zero, List.setIfInBounds_toArray, List.set_cons_zero, List.set_cons_succ]
          refine phase_one (i := 1) (by kernel_rfl) (by omega) rfl (by rfl) (fun K hK => ?_)
          go_simp
          refine (signs_ext _ m hm).mono ?_
          rintro e1 w7 ⟨bs2, rfl, hbs2, HB2, E7⟩
          have L7 := LA.ext E7
          have hS7 := hS.ext E7
          refine hK _ _ ⟨hS7, ?_⟩
          clear hK K
          try simp only [Act.put, List.getElem_toArray, List.getElem_cons_succ, List.getElem_cons_zero, List.setIfInBounds_toArray, List.set_cons_zero, List.set_cons_succ]
          refine phase_take (i := 3) (v := .pointer (some ⟨bs2, k0, none⟩)) rfl (by kernel_rfl) (by omega) (by kernel_rfl) (by kernel_rfl) (by kernel_rfl) (fun _ _ _ h => h) ⟨by rfl, ?_⟩ hS7 ?_
          · intro wS hSw
            obtain ⟨⟨s1, s2⟩, s3⟩ := hSw
            go_simp
          simp only [Act.put, List.getElem_toArray, List.getElem_cons_succ, List.getElem_cons_zero, List.setIfInBounds_toArray, List.set_cons_zero, List.set_cons_succ]
          have hcs : w7.cell? ⟨bs2, k0, none⟩ = some (.string ⟨((levelSigns m)[k0]).toArray⟩) := by
            rw [HB2.cell k0, List.getElem?_map, List.getElem?_eq_getElem hk0]; rfl
          refine phase_two (i := 4) (j := 10) (by kernel_rfl) (by omega) (by omega) rfl (by rfl) rfl (by rfl) (fun K hK => ?_) (fun K hK => ?_)
          · go_simp
            refine hK _ _ ⟨hS7, ?_⟩
            clear hK K
            try simp only [Act.put, List.getElem_toArray, List.getElem_cons_succ, List.getElem_cons_zero, List.setIfInBounds_toArray, List.set_cons_zero, List.set_cons_succ]
            refine phase_one (i := 10) (by kernel_rfl) (by omega) rfl (by rfl) (fun K hK => ?_)
            go_simp
            refine (HN.out _ br n us.tail L7.rd hwu.tail).mono ?_
            rw [hq]
            rintro e1 w8 ⟨rfl, k8⟩
            go_wp2_with fail
            refine ⟨rfl, ?_⟩
            rw [HR4.out]
            exact ⟨rfl, L7.keep.trans' k8⟩
          · go_simp
            refine (HN.out _ br n us.tail L7.rd hwu.tail).mono ?_
            rw [hq]
            rintro e1 w8 ⟨rfl, k8⟩
            go_wp2_with fail
            refine ⟨rfl, ?_⟩
            rw [HR4.out]
            exact ⟨rfl, L7.keep.trans' k8⟩
        | ok y r2 =>
          have HR4 := hid (hR3.out.trans (bind_t hq))
          rw [hq] at hFn
          have HFn := hid hFn
          clear hFn
          go_cut [] (fun wx => ∃ nb, LvAt w wx br n w1.heap.size r2 (.mk 6 0 (levelSigns m)[k0] [x, y] (placeOf n us)) [.int .i64 6, .int .i64 0, .string ⟨((levelSigns m)[k0]).toArray⟩, .slice (some ⟨nb, 0, none⟩) 2 2, .int .i64 (placeOf n us)])
          case first =>
            have LA := LB.ext (Ext.refl _).drew
            have hS : SQ w.heap.size br w5.heap.size [.int .i64 op, .int .i64 num, .string ⟨text.toArray⟩, .slice ka kn kc, .int .i64 at_] w6.drew := ⟨⟨LA.b3.cell 0, LA.b3.lt⟩, B10.ext (Ext.refl _).drew⟩
            have hk1 : (0 : Int) ≤ k0 := by omega
            have hk2 : (k0 : Int) < (levelSigns m).length := by omega
            refine phase_begin (SQ w.heap.size br w5.heap.size [.int .i64 op, .int .i64 num, .string ⟨text.toArray⟩, .slice ka kn kc, .int .i64 at_]) 15 (by kernel_rfl) ?_
            refine phase_take (i := 0) (v := .int .i64 m) rfl (by kernel_rfl) (by omega) (by kernel_rfl) (by kernel_rfl) (by kernel_rfl) (fun _ _ _ h => h) ⟨by rfl, ?_⟩ hS ?_
            · intro wS hSw
              obtain ⟨⟨s1, s2⟩, s3⟩ := hSw
              obtain ⟨s30, s31, s32, s33, s34, s3f⟩ := s3.five
              go_simp
            simp only [Act.put, List.getElem_toArray, List.getElem_cons_succ, List.getElem_cons_zero, List.setIfInBounds_toArray, List.set_cons_zero, List.set_cons_succ]
            refine phase_take (i := 2) (v := .int .i64 k0) rfl (by kernel_rfl) (by omega) (by kernel_rfl) (by kernel_rfl) (by kernel_rfl) (fun _ _ _ h => h) ⟨by rfl, ?_⟩ hS ?_
            · intro wS hSw
              obtain ⟨⟨s1, s2⟩, s3⟩ := hSw
              obtain ⟨s30, s31, s32, s33, s34, s3f⟩ := s3.five
              go_simp
            simp only [Act.put, List.getElem_toArray, List.getElem_cons_succ, List.getElem_cons_zero, List.setIfInBounds_toArray, List.set_cons_zero, List.set_cons_succ]
            refine phase_take (i := 5) (v := .agg #[.int .i64 op, .int .i64 num, .string ⟨text.toArray⟩, .slice ka kn kc, .int .i64 at_]) rfl (by kernel_rfl) (by omega) (by kernel_rfl) (by kernel_rfl) (by kernel_rfl) (fun _ _ _ h => h) ⟨by rfl, ?_⟩ hS ?_
            · intro wS hSw
              obtain ⟨⟨s1, s2⟩, s3⟩ := hSw
              obtain ⟨s30, s31, s32, s33, s34, s3f⟩ := s3.five
              go_simp
            simp only [Act.put, List.getElem_toArray, List.getElem_cons_succ, List.getElem_cons_zero, List.setIfInBounds_toArray, List.set_cons_zero, List.set_cons_succ]
            refine phase_take (i := 6) (v := .pointer (some ⟨br, 0, none⟩)) rfl (by kernel_rfl) (by omega) (by kernel_rfl) (by kernel_rfl) (by kernel_rfl) (fun _ _ _ h => h) ⟨by rfl, ?_⟩ hS ?_
            · intro wS hSw
              obtain ⟨⟨s1, s2⟩, s3⟩ := hSw
              obtain ⟨s30, s31, s32, s33, s34, s3f⟩ := s3.five
              go_simp
            simp only [Act.put, List.getElem_toArray, List.getElem_cons_succ, List.getElem_cons_zero, List.setIfInBounds_toArray, List.set_cons_zero, List.set_cons_succ]
            refine phase_take (i := 7) (v := .int .i64 m) rfl (by kernel_rfl) (by omega) (by kernel_rfl) (by kernel_rfl) (by kernel_rfl) (fun _ _ _ h => h) ⟨by rfl, ?_⟩ hS ?_
            · intro wS hSw
              obtain ⟨⟨s1, s2⟩, s3⟩ := hSw
              obtain ⟨s30, s31, s32, s33, s34, s3f⟩ := s3.five
              go_simp
            simp only [Act.put, List.getElem_toArray, List.getElem_cons_succ, List.getElem_cons_zero, List.setIfInBounds_toArray, List.set_cons_zero, List.set_cons_succ]
            refine phase_take (i := 8) (v := .int .i64 ((m : Int) + 1)) rfl (by kernel_rfl) (by omega) (by kernel_rfl) (by kernel_rfl) (by kernel_rfl) (fun _ _ _ h => h) ⟨by rfl, ?_⟩ hS ?_
            · intro wS hSw
              obtain ⟨⟨s1, s2⟩, s3⟩ := hSw
              obtain ⟨s30, s31, s32, s33, s34, s3f⟩ := s3.five
              go_simp
            simp only [Act.put, List.getElem_toArray, List.getElem_cons_succ, List.getElem_cons_zero, List.setIfInBounds_toArray, List.set_cons_zero, List.set_cons_succ]
            refine phase_take (i := 9) (v := .int .i64 d) rfl (by kernel_rfl) (by omega) (by kernel_rfl) (by kernel_rfl) (by kernel_rfl) (fun _ _ _ h => h) ⟨by rfl, ?_⟩ hS ?_
            · intro wS hSw
              obtain ⟨⟨s1, s2⟩, s3⟩ := hSw
              obtain ⟨s30, s31, s32, s33, s34, s3f⟩ := s3.five
              go_simp
            simp only [Act.put, List.getElem_toArray, List.getElem_cons_succ, List.getElem_cons_zero, List.setIfInBounds_toArray, List.set_cons_zero, List.set_cons_succ]
            refine phase_take (i := 12) (v := .int .i64 (placeOf n us)) rfl (by kernel_rfl) (by omega) (by kernel_rfl) (by kernel_rfl) (by kernel_rfl) (fun _ _ _ h => h) ⟨by rfl, ?_⟩ hS ?_
            · intro wS hSw
              obtain ⟨⟨s1, s2⟩, s3⟩ := hSw
              obtain ⟨s30, s31, s32, s33, s34, s3f⟩ := s3.five
              go_simp
            simp only [Act.put, List.getElem_toArray, List.getElem_cons_succ, List.getElem_cons_zero, List.setIfInBounds_toArray, List.set_cons_zero, List.set_cons_succ]
            refine phase_one (i := 1) (by kernel_rfl) (by omega) rfl (by rfl) (fun K hK => ?_)
            go_simp
            refine (signs_ext _ m hm).mono ?_
            rintro e1 w7 ⟨bs2, rfl, hbs2, HB2, E7⟩
            have L7 := LA.ext E7
            have hS7 := hS.ext E7
            refine hK _ _ ⟨hS7, ?_⟩
            clear hK K
            try simp only [Act.put, List.getElem_toArray, List.getElem_cons_succ, List.getElem_cons_zero, List.setIfInBounds_toArray, List.set_cons_zero, List.set_cons_succ]
            refine phase_take (i := 3) (v := .pointer (some ⟨bs2, k0, none⟩)) rfl (by kernel_rfl) (by omega) (by kernel_rfl) (by kernel_rfl) (by kernel_rfl) (fun _ _ _ h => h) ⟨by rfl, ?_⟩ hS7 ?_
            · intro wS hSw
              obtain ⟨⟨s1, s2⟩, s3⟩ := hSw
              go_simp
            simp only [Act.put, List.getElem_toArray, List.getElem_cons_succ, List.getElem_cons_zero, List.setIfInBounds_toArray, List.set_cons_zero, List.set_cons_succ]
            have hcs : w7.cell? ⟨bs2, k0, none⟩ = some (.string ⟨((levelSigns m)[k0]).toArray⟩) := by
              rw [HB2.cell k0, List.getElem?_map, List.getElem?_eq_getElem hk0]; rfl
            refine phase_two (i := 4) (j := 10) (by kernel_rfl) (by omega) (by omega) rfl (by rfl) rfl (by rfl) (fun K hK => ?_) (fun K hK => ?_)
            · go_simp
              refine hK _ _ ⟨hS7, ?_⟩
              clear hK K
              try simp only [Act.put, List.getElem_toArray, List.getElem_cons_succ, List.getElem_cons_zero, List.setIfInBounds_toArray, List.set_cons_zero, List.set_cons_succ]
              refine phase_one (i := 10) (by kernel_rfl) (by omega) rfl (by rfl) (fun K hK => ?_)
              go_simp
              refine (HN.out _ br n us.tail L7.rd hwu.tail).mono ?_
              rw [hq]
              rintro e1 w8 ⟨v, rfl, hy, r8, k8⟩
              obtain ⟨op2, num2, text2, ka2, kn2, kc2, at2, rfl⟩ := hy.form
              have hS8 := hS7.keep k8 (by omega) (by omega)
              refine hK _ _ ⟨hS8, ?_⟩
              clear hK K
              try simp only [Act.put, List.getElem_toArray, List.getElem_cons_succ, List.getElem_cons_zero, List.setIfInBounds_toArray, List.set_cons_zero, List.set_cons_succ]
              refine phase_one (i := 11) (by kernel_rfl) (by omega) rfl (by rfl) (fun K hK => ?_)
              go_simp
              have hS9 := hS8.ext ((Ext.refl w8).alloc (.cells #[.int .i64 op, .int .i64 num, .string ⟨text.toArray⟩, .slice ka kn kc, .int .i64 at_, .int .i64 op2, .int .i64 num2, .string ⟨text2.toArray⟩, .slice ka2 kn2 kc2, .int .i64 at2] 100))
              have L9 := (L7.move r8 k8).ext ((Ext.refl w8).alloc (.cells #[.int .i64 op, .int .i64 num, .string ⟨text.toArray⟩, .slice ka kn kc, .int .i64 at_, .int .i64 op2, .int .i64 num2, .string ⟨text2.toArray⟩, .slice ka2 kn2 kc2, .int .i64 at2] 100))
              have BN := Blk.new w8 100 ([.int .i64 op, .int .i64 num, .string ⟨text.toArray⟩, .slice ka kn kc, .int .i64 at_] ++ [.int .i64 op2, .int .i64 num2, .string ⟨text2.toArray⟩, .slice ka2 kn2 kc2, .int .i64 at2])
              refine hK _ _ ⟨hS9, ?_⟩
              clear hK K
              try simp only [Act.put, List.getElem_toArray, List.getElem_cons_succ, List.getElem_cons_zero, List.setIfInBounds_toArray, List.set_cons_zero, List.set_cons_succ]
              refine phase_one (i := 13) (by kernel_rfl) (by omega) rfl (by rfl) (fun K hK => ?_)
              go_simp
              refine hK _ _ ⟨hS9, ?_⟩
              clear hK K
              try simp only [Act.put, List.getElem_toArray, List.getElem_cons_succ, List.getElem_cons_zero, List.setIfInBounds_toArray, List.set_cons_zero, List.set_cons_succ]
              refine phase_one (i := 14) (by kernel_rfl) (by omega) rfl (by rfl) (fun K hK => ?_)
              obtain ⟨e0, e1', e2, e3, e4, ef⟩ := L9.bx.five
              go_simp
              refine hK _ _ ⟨(((((hS9.set _ _ (by simp; omega) (by simp; omega)).set _ _ (by simp; omega) (by simp; omega)).set _ _ (by simp; omega) (by simp; omega)).set _ _ (by simp; omega) (by simp; omega)).set _ _ (by simp; omega) (by simp; omega)), ?_⟩
              clear hK K
              try simp only [Act.put, List.getElem_toArray, List.getElem_cons_succ, List.getElem_cons_zero, List.setIfInBounds_toArray, List.set_cons_zero, List.set_cons_succ]
              refine phase_done (by kernel_rfl) ?_
              go_wp2_with fail
              go_meet
              exact ⟨_, two_left L7 (Nat.le_refl _) hy.is k8 r8 ((Ext.refl _).alloc _) (BN) (by have := k8.size; omega)⟩
            · go_simp
              refine (HN.out _ br n us.tail L7.rd hwu.tail).mono ?_
              rw [hq]
              rintro e1 w8 ⟨v, rfl, hy, r8, k8⟩
              obtain ⟨op2, num2, text2, ka2, kn2, kc2, at2, rfl⟩ := hy.form
              have hS8 := hS7.keep k8 (by omega) (by omega)
              refine hK _ _ ⟨hS8, ?_⟩
              clear hK K
              try simp only [Act.put, List.getElem_toArray, List.getElem_cons_succ, List.getElem_cons_zero, List.setIfInBounds_toArray, List.set_cons_zero, List.set_cons_succ]
              have hbs3 : w1.heap.size < bs2 := Nat.lt_of_lt_of_le LA.size hbs2
              have hcs8 : w8.cell? ⟨bs2, k0, none⟩ = some (.string ⟨((levelSigns m)[k0]).toArray⟩) := k8.cellV (by simp; omega) hcs
              have lbs8 : bs2 < w8.heap.size := World.block_lt_of_cell? _ _ hcs8
              refine phase_two (i := 4) (j := 11) (by kernel_rfl) (by omega) (by omega) rfl (by rfl) rfl (by rfl) (fun K hK => ?_) (fun K hK => ?_)
              · go_simp
                refine hK _ _ ⟨hS8, ?_⟩
                clear hK K
                try simp only [Act.put, List.getElem_toArray, List.getElem_cons_succ, List.getElem_cons_zero, List.setIfInBounds_toArray, List.set_cons_zero, List.set_cons_succ]
                refine phase_one (i := 11) (by kernel_rfl) (by omega) rfl (by rfl) (fun K hK => ?_)
                go_simp
                have hS9 := hS8.ext ((Ext.refl w8).alloc (.cells #[.int .i64 op, .int .i64 num, .string ⟨text.toArray⟩, .slice ka kn kc, .int .i64 at_, .int .i64 op2, .int .i64 num2, .string ⟨text2.toArray⟩, .slice ka2 kn2 kc2, .int .i64 at2] 100))
                have L9 := (L7.move r8 k8).ext ((Ext.refl w8).alloc (.cells #[.int .i64 op, .int .i64 num, .string ⟨text.toArray⟩, .slice ka kn kc, .int .i64 at_, .int .i64 op2, .int .i64 num2, .string ⟨text2.toArray⟩, .slice ka2 kn2 kc2, .int .i64 at2] 100))
                have BN := Blk.new w8 100 ([.int .i64 op, .int .i64 num, .string ⟨text.toArray⟩, .slice ka kn kc, .int .i64 at_] ++ [.int .i64 op2, .int .i64 num2, .string ⟨text2.toArray⟩, .slice ka2 kn2 kc2, .int .i64 at2])
                refine hK _ _ ⟨hS9, ?_⟩
                clear hK K
                try simp only [Act.put, List.getElem_toArray, List.getElem_cons_succ, List.getElem_cons_zero, List.setIfInBounds_toArray, List.set_cons_zero, List.set_cons_succ]
                refine phase_one (i := 13) (by kernel_rfl) (by omega) rfl (by rfl) (fun K hK => ?_)
                go_simp
                refine hK _ _ ⟨hS9, ?_⟩
                clear hK K
                try simp only [Act.put, List.getElem_toArray, List.getElem_cons_succ, List.getElem_cons_zero, List.setIfInBounds_toArray, List.set_cons_zero, List.set_cons_succ]
                refine phase_one (i := 14) (by kernel_rfl) (by omega) rfl (by rfl) (fun K hK => ?_)
                obtain ⟨e0, e1', e2, e3, e4, ef⟩ := L9.bx.five
                go_simp
                refine hK _ _ ⟨(((((hS9.set _ _ (by simp; omega) (by simp; omega)).set _ _ (by simp; omega) (by simp; omega)).set _ _ (by simp; omega) (by simp; omega)).set _ _ (by simp; omega) (by simp; omega)).set _ _ (by simp; omega) (by simp; omega)), ?_⟩
                clear hK K
                try simp only [Act.put, List.getElem_toArray, List.getElem_cons_succ, List.getElem_cons_zero, List.setIfInBounds_toArray, List.set_cons_zero, List.set_cons_succ]
                refine phase_done (by kernel_rfl) ?_
                go_wp2_with fail
                go_meet
                exact ⟨_, two_left L7 (Nat.le_refl _) hy.is k8 r8 ((Ext.refl _).alloc _) (BN) (by have := k8.size; omega)⟩
              · go_simp
                have hS9 := hS8.ext ((Ext.refl w8).alloc (.cells #[.int .i64 op, .int .i64 num, .string ⟨text.toArray⟩, .slice ka kn kc, .int .i64 at_, .int .i64 op2, .int .i64 num2, .string ⟨text2.toArray⟩, .slice ka2 kn2 kc2, .int .i64 at2] 100))
                have L9 := (L7.move r8 k8).ext ((Ext.refl w8).alloc (.cells #[.int .i64 op, .int .i64 num, .string ⟨text.toArray⟩, .slice ka kn kc, .int .i64 at_, .int .i64 op2, .int .i64 num2, .string ⟨text2.toArray⟩, .slice ka2 kn2 kc2, .int .i64 at2] 100))
                have BN := Blk.new w8 100 ([.int .i64 op, .int .i64 num, .string ⟨text.toArray⟩, .slice ka kn kc, .int .i64 at_] ++ [.int .i64 op2, .int .i64 num2, .string ⟨text2.toArray⟩, .slice ka2 kn2 kc2, .int .i64 at2])
                refine hK _ _ ⟨hS9, ?_⟩
                clear hK K
                try simp only [Act.put, List.getElem_toArray, List.getElem_cons_succ, List.getElem_cons_zero, List.setIfInBounds_toArray, List.set_cons_zero, List.set_cons_succ]
                refine phase_one (i := 4) (by kernel_rfl) (by omega) rfl (by rfl) (fun K hK => ?_)
                go_simp
                refine hK _ _ ⟨hS9, ?_⟩
                clear hK K
                try simp only [Act.put, List.getElem_toArray, List.getElem_cons_succ, List.getElem_cons_zero, List.setIfInBounds_toArray, List.set_cons_zero, List.set_cons_succ]
                refine phase_one (i := 13) (by kernel_rfl) (by omega) rfl (by rfl) (fun K hK => ?_)
                go_simp
                refine hK _ _ ⟨hS9, ?_⟩
                clear hK K
                try simp only [Act.put, List.getElem_toArray, List.getElem_cons_succ, List.getElem_cons_zero, List.setIfInBounds_toArray, List.set_cons_zero, List.set_cons_succ]
                refine phase_one (i := 14) (by kernel_rfl) (by omega) rfl (by rfl) (fun K hK => ?_)
                obtain ⟨e0, e1', e2, e3, e4, ef⟩ := L9.bx.five
                go_simp
                refine hK _ _ ⟨(((((hS9.set _ _ (by simp; omega) (by simp; omega)).set _ _ (by simp; omega) (by simp; omega)).set _ _ (by simp; omega) (by simp; omega)).set _ _ (by simp; omega) (by simp; omega)).set _ _ (by simp; omega) (by simp; omega)), ?_⟩
                clear hK K
                try simp only [Act.put, List.getElem_toArray, List.getElem_cons_succ, List.getElem_cons_zero, List.setIfInBounds_toArray, List.set_cons_zero, List.set_cons_succ]
                refine phase_done (by kernel_rfl) ?_
                go_wp2_with fail
                go_meet
                exact ⟨_, two_left L7 (Nat.le_refl _) hy.is k8 r8 ((Ext.refl _).alloc _) (BN) (by have := k8.size; omega)⟩
          case rest =>
            obtain ⟨nb, L8⟩ := hcut
            have hpl : placeOf n us = headPlace us := by
              obtain ⟨t0, q0, he, _⟩ := isOp_cons HOP.out
              rw [he]; rfl
            have HPL := hid hpl
            clear hpl
            obtain ⟨g3, ⟨x0, x1, x2, x3, x4, xf⟩, ⟨z0, z1, z2, z3, z4, zf⟩⟩ := L8.cells
            by_cases h2 : m = 2
            · have hm2 : ((m : Int) == 2) = true := by rw [h2]; rfl
              have HR5 := hid (show R = .ok (.mk 6 0 (levelSigns m)[k0] [x, y] (placeOf n us)) r2 by rw [HR4.out, if_pos h2, HH.out, HPL.out])
              clear h2
              go_wp2_with fail
              obtain ⟨wF, hwF, BF, rF, kF, hX⟩ := L8.ans
              rw [← hwF]
              obtain ⟨q0, q1, q2, q3, q4, _⟩ := BF.five
              refine bodyPost_ret (v := .agg #[.int .i64 6, .int .i64 0, .string ⟨((levelSigns m)[k0]).toArray⟩, .slice (some ⟨nb, 0, none⟩) 2 2, .int .i64 (placeOf n us)]) (by simp [results, Tryz.results90, go_sem, q0, q1, q2, q3, q4]) rfl ?_
              rw [HR5.out]
              exact ⟨_, rfl, hX, rF, kF⟩
            · have hm2 : ((m : Int) == 2) = false := by simp; omega
              have HR5 := hid (show R = levelGo next m k (.mk 6 0 (levelSigns m)[k0] [x, y] (placeOf n us)) r2 by rw [HR4.out, if_neg h2, HH.out, HPL.out])
              clear h2
              go_wp2_with fail
              go_roundg k
              case measure => omega
              case rel =>
                have h8 := HFn.out
                have h81 := y.size_pos
                have h82 : y.size + r2.length ≤ us.tail.length := h8.1
                exact ⟨_, r2, _, L8, h8.2.2, by omega, HR5.out⟩
end Go.Proofs.YtaehlakefgnfmaaGreatDoor
