/-
  DERIVED. Expressions so deep, all of them; what stmt keeps in memory.
-/
import Derived.Test.YtaehlakefgnfmaaGreatDoorLevel
namespace Go.Proofs.YtaehlakefgnfmaaGreatDoor
set_option linter.unusedSimpArgs false
set_option linter.unusedVariables false
set_option maxRecDepth 100000
open Go.RowKit

/-- EXPR and ONE, so deep. -/
theorem expr_all : ∀ k d, k + d = 33 → ExprC 80 d (EK k).1 ∧ OneC d (EK k).2 := by
  intro k
  induction k with
  | zero => intro d h; exact ⟨expr_no d (by omega), .inr ⟨by omega, rfl⟩⟩
  | succ k ih =>
    intro d h
    obtain ⟨h1, h2⟩ := ih (d + 1) (by omega)
    have hI := inv_EK k
    have h0 := one_any d (by omega) (EK k).1 (EK k).2 (primary_any d (by omega) (EK k).1 h1 hI.1) h2
    have i0 := inv_one hI.1 hI.2
    have l5 := level_five d _ h0
    have l4 := level_any 4 d (by omega) (by omega) (levelS (oneS (EK k).1 (EK k).2) 0) l5 (inv_level i0 0 (by omega))
    have l3 := level_any 3 d (by omega) (by omega) (levelS (oneS (EK k).1 (EK k).2) 1) l4 (inv_level i0 1 (by omega))
    have l2 := level_any 2 d (by omega) (by omega) (levelS (oneS (EK k).1 (EK k).2) 2) l3 (inv_level i0 2 (by omega))
    have l1 := level_any 1 d (by omega) (by omega) (levelS (oneS (EK k).1 (EK k).2) 3) l2 (inv_level i0 3 (by omega))
    have l0 := level_any 0 d (by omega) (by omega) (levelS (oneS (EK k).1 (EK k).2) 4) l1 (inv_level i0 4 (by omega))
    exact ⟨expr_ok d (by omega) _ l0, .inl ⟨by omega, h0⟩⟩

theorem six_set {w : World} {b : Nat} {t : TypeId} {z0 z1 z2 z3 z4 z5 : Value} (h : Blk w b t [z0, z1, z2, z3, z4, z5]) (v0 v1 v2 v3 v4 v5 : Value) :
    Blk ((((((w.setCell ⟨b, 0, none⟩ v0).setCell ⟨b, 1, none⟩ v1).setCell ⟨b, 2, none⟩ v2).setCell ⟨b, 3, none⟩ v3).setCell ⟨b, 4, none⟩ v4).setCell ⟨b, 5, none⟩ v5) b t [v0, v1, v2, v3, v4, v5] ∧
    Keep [b] w ((((((w.setCell ⟨b, 0, none⟩ v0).setCell ⟨b, 1, none⟩ v1).setCell ⟨b, 2, none⟩ v2).setCell ⟨b, 3, none⟩ v3).setCell ⟨b, 4, none⟩ v4).setCell ⟨b, 5, none⟩ v5) :=
  ⟨(((((h.set 0 v0).set 1 v1).set 2 v2).set 3 v3).set 4 v4).set 5 v5, ((((((Keep.refl [b] w).setCell (by simp) v0).setCell (by simp) v1).setCell (by simp) v2).setCell (by simp) v3).setCell (by simp) v4).setCell (by simp) v5⟩

/-- Statements in a row, in new memory; a statement. -/
def encB (B : Nat) (w' : World) (l : List St) (v : Value) : Prop := RowIs w' (B ≤ ·) v l.length (StsIs w' (B ≤ ·) l)
def encS (B : Nat) (w' : World) (x : St) (v : Value) : Prop := ∃ vs, v = .agg vs.toArray ∧ StIs w' (B ≤ ·) x vs
def BlockC (d : Nat) (p : Rd (List St)) : Prop := ∀ (w : World) (br n : Nat) (ts : List Tok), RdAt w br n ts → Wf ts → Calls Tryz.prog 30 #[.pointer (some ⟨br, 0, none⟩), .int .i64 d] w (Ans w br n (encB w.heap.size) (p ts))
def StmtC (d : Nat) (p : Rd St) : Prop := ∀ (w : World) (br n : Nat) (ts : List Tok), RdAt w br n ts → Wf ts → Calls Tryz.prog 59 #[.pointer (some ⟨br, 0, none⟩), .int .i64 d] w (Ans w br n (encS w.heap.size) (p ts))

/-- Where stmt stands, its expressions under way. -/
structure StAt (w wr : World) (br n d : Nat) (ts : List Tok) (op : Nat) (text : List UInt8) (es : List Ex) (at_ : Nat) (se : Value) : Prop where
  lr : br < w.heap.size
  b2 : Blk wr w.heap.size 44 [.pointer (some ⟨br, 0, none⟩)]
  b3 : Blk wr (w.heap.size + 1) 3 [.int .i64 d]
  b4 : Blk wr (w.heap.size + 1 + 1) 78 [.int .i64 0, .string ⟨#[]⟩, .slice none 0 0, .slice none 0 0, .slice none 0 0, .int .i64 0]
  b5 : Blk wr (w.heap.size + 1 + 1 + 1) 78 [.int .i64 op, .string ⟨text.toArray⟩, se, .slice none 0 0, .slice none 0 0, .int .i64 at_]
  own : OwnX exEnc 100 wr (w.heap.size + 4) se es
  rd : RdAt wr br n ts
  keep : Keep [br] w wr
theorem StAt.move {w wr w' : World} {br n d op at_ : Nat} {ts ts' : List Tok} {text : List UInt8} {es : List Ex} {se : Value} (h : StAt w wr br n d ts op text es at_ se) (r : RdAt w' br n ts') (k : Keep [br] wr w') : StAt w w' br n d ts' op text es at_ se := by
  have := h.lr
  exact ⟨h.lr, h.b2.keep k (by simp; omega), h.b3.keep k (by simp; omega), h.b4.keep k (by simp; omega), h.b5.keep k (by simp; omega), h.own.keep k (by simp; omega), r, h.keep.trans' k⟩
theorem StAt.ext {w wr w' : World} {br n d op at_ : Nat} {ts : List Tok} {text : List UInt8} {es : List Ex} {se : Value} (h : StAt w wr br n d ts op text es at_ se) (e : Ext wr w') : StAt w w' br n d ts op text es at_ se := h.move (h.rd.ext e) (.ofExt e)
theorem StAt.size {w wr : World} {br n d op at_ : Nat} {ts : List Tok} {text : List UInt8} {es : List Ex} {se : Value} (h : StAt w wr br n d ts op text es at_ se) : w.heap.size + 4 ≤ wr.heap.size := by have := h.b5.lt; omega
theorem StAt.setOp {w wr : World} {br n d op at_ : Nat} {ts : List Tok} {text : List UInt8} {es : List Ex} {se : Value} (h : StAt w wr br n d ts op text es at_ se) (op' : Nat) (v : Value) (hv : v = .int .i64 op') :
    StAt w (wr.setCell ⟨w.heap.size + 1 + 1 + 1, 0, none⟩ v) br n d ts op' text es at_ se := by
  subst hv
  have := h.lr
  have k := Keep.set wr ⟨w.heap.size + 1 + 1 + 1, 0, none⟩ (.int .i64 op')
  exact ⟨h.lr, h.b2.keep k (by simp; omega), h.b3.keep k (by simp), h.b4.keep k (by simp), h.b5.set 0 _, h.own.keep k (by simp), h.rd.keep k (by simp; omega), h.keep.setCell (.inr (show w.heap.size ≤ w.heap.size + 1 + 1 + 1 by omega)) _⟩
theorem StAt.setText {w wr : World} {br n d op at_ : Nat} {ts : List Tok} {text : List UInt8} {es : List Ex} {se : Value} (h : StAt w wr br n d ts op text es at_ se) (text' : List UInt8) :
    StAt w (wr.setCell ⟨w.heap.size + 1 + 1 + 1, 1, none⟩ (.string ⟨text'.toArray⟩)) br n d ts op text' es at_ se := by
  have := h.lr
  have k := Keep.set wr ⟨w.heap.size + 1 + 1 + 1, 1, none⟩ (.string ⟨text'.toArray⟩)
  exact ⟨h.lr, h.b2.keep k (by simp; omega), h.b3.keep k (by simp), h.b4.keep k (by simp), h.b5.set 1 _, h.own.keep k (by simp), h.rd.keep k (by simp; omega), h.keep.setCell (.inr (show w.heap.size ≤ w.heap.size + 1 + 1 + 1 by omega)) _⟩
/-- Where stmt stands, its expressions done. -/
structure StBt (w wr : World) (br n d : Nat) (ts : List Tok) (op : Nat) (text : List UInt8) (es : List Ex) (b l : List St) (at_ : Nat) (se vb vl : Value) : Prop where
  lr : br < w.heap.size
  b2 : Blk wr w.heap.size 44 [.pointer (some ⟨br, 0, none⟩)]
  b3 : Blk wr (w.heap.size + 1) 3 [.int .i64 d]
  b4 : Blk wr (w.heap.size + 1 + 1) 78 [.int .i64 0, .string ⟨#[]⟩, .slice none 0 0, .slice none 0 0, .slice none 0 0, .int .i64 0]
  b5 : Blk wr (w.heap.size + 1 + 1 + 1) 78 [.int .i64 op, .string ⟨text.toArray⟩, se, vb, vl, .int .i64 at_]
  ex : RowIs wr (w.heap.size + 4 ≤ ·) se es.length (fun ks => ExsIs wr (w.heap.size + 4 ≤ ·) es ks)
  bd : RowIs wr (w.heap.size + 4 ≤ ·) vb b.length (fun ks => StsIs wr (w.heap.size + 4 ≤ ·) b ks)
  el : RowIs wr (w.heap.size + 4 ≤ ·) vl l.length (fun ks => StsIs wr (w.heap.size + 4 ≤ ·) l ks)
  rd : RdAt wr br n ts
  keep : Keep [br] w wr
theorem rowS_none (w : World) (F : Nat → Prop) : RowIs w F (.slice none 0 0) 0 (fun ks => StsIs w F [] ks) := ⟨none, 0, [], rfl, Nat.le_refl _, CellsIn.nil _ _ _, by simp only [StsIs]⟩
theorem StAt.done {w wr : World} {br n d op at_ : Nat} {ts : List Tok} {text : List UInt8} {es : List Ex} {se : Value} (h : StAt w wr br n d ts op text es at_ se) : StBt w wr br n d ts op text es [] [] at_ se (.slice none 0 0) (.slice none 0 0) :=
  ⟨h.lr, h.b2, h.b3, h.b4, h.b5, h.own.row, rowS_none _ _, rowS_none _ _, h.rd, h.keep⟩
theorem RowIs.exs {w w' : World} {F G : Nat → Prop} {v : Value} {n : Nat} {es : List Ex} (h : RowIs w F v n (fun ks => ExsIs w F es ks)) (c : Carry w w' F G) : RowIs w' G v n (fun ks => ExsIs w' G es ks) := h.carry c fun ks hk => ExsIs.carry c es ks hk
theorem RowIs.sts {w w' : World} {F G : Nat → Prop} {v : Value} {n : Nat} {es : List St} (h : RowIs w F v n (fun ks => StsIs w F es ks)) (c : Carry w w' F G) : RowIs w' G v n (fun ks => StsIs w' G es ks) := h.carry c fun ks hk => StsIs.carry c es ks hk
theorem StBt.move {w wr w' : World} {br n d op at_ : Nat} {ts ts' : List Tok} {text : List UInt8} {es : List Ex} {b l : List St} {se vb vl : Value} (h : StBt w wr br n d ts op text es b l at_ se vb vl) (r : RdAt w' br n ts') (k : Keep [br] wr w') : StBt w w' br n d ts' op text es b l at_ se vb vl := by
  have := h.lr
  have c : Carry wr w' (w.heap.size + 4 ≤ ·) (w.heap.size + 4 ≤ ·) := Carry.keep k (fun b hb _ hf => by simp at hb; omega) fun b _ hf => hf
  exact ⟨h.lr, h.b2.keep k (by simp; omega), h.b3.keep k (by simp; omega), h.b4.keep k (by simp; omega), h.b5.keep k (by simp; omega), h.ex.exs c, h.bd.sts c, h.el.sts c, r, h.keep.trans' k⟩
theorem StBt.size {w wr : World} {br n d op at_ : Nat} {ts : List Tok} {text : List UInt8} {es : List Ex} {b l : List St} {se vb vl : Value} (h : StBt w wr br n d ts op text es b l at_ se vb vl) : w.heap.size + 4 ≤ wr.heap.size := by have := h.b5.lt; omega
theorem StBt.setBody {w wr : World} {br n d op at_ : Nat} {ts : List Tok} {text : List UInt8} {es : List Ex} {b l b' : List St} {se vb vl vb' : Value} (h : StBt w wr br n d ts op text es b l at_ se vb vl) {B : Nat} (hb : encB B wr b' vb') (hB : w.heap.size + 4 ≤ B) :
    StBt w (wr.setCell ⟨w.heap.size + 1 + 1 + 1, 3, none⟩ vb') br n d ts op text es b' l at_ se vb' vl := by
  have := h.lr
  have k := Keep.set wr ⟨w.heap.size + 1 + 1 + 1, 3, none⟩ vb'
  have c : Carry wr (wr.setCell ⟨w.heap.size + 1 + 1 + 1, 3, none⟩ vb') (w.heap.size + 4 ≤ ·) (w.heap.size + 4 ≤ ·) := Carry.keep k (fun b hb _ hf => by simp at hb; omega) fun b _ hf => hf
  have c' : Carry wr (wr.setCell ⟨w.heap.size + 1 + 1 + 1, 3, none⟩ vb') (B ≤ ·) (w.heap.size + 4 ≤ ·) := Carry.keep k (fun b hb _ hf => by simp at hb; omega) fun b _ hf => by omega
  exact ⟨h.lr, h.b2.keep k (by simp; omega), h.b3.keep k (by simp), h.b4.keep k (by simp), h.b5.set 3 _, h.ex.exs c, RowIs.sts hb c', h.el.sts c, h.rd.keep k (by simp; omega), h.keep.setCell (.inr (show w.heap.size ≤ w.heap.size + 1 + 1 + 1 by omega)) _⟩
theorem StBt.setElse {w wr : World} {br n d op at_ : Nat} {ts : List Tok} {text : List UInt8} {es : List Ex} {b l b' : List St} {se vb vl vb' : Value} (h : StBt w wr br n d ts op text es b l at_ se vb vl) {B : Nat} (hb : encB B wr b' vb') (hB : w.heap.size + 4 ≤ B) :
    StBt w (wr.setCell ⟨w.heap.size + 1 + 1 + 1, 4, none⟩ vb') br n d ts op text es b b' at_ se vb vb' := by
  have := h.lr
  have k := Keep.set wr ⟨w.heap.size + 1 + 1 + 1, 4, none⟩ vb'
  have c : Carry wr (wr.setCell ⟨w.heap.size + 1 + 1 + 1, 4, none⟩ vb') (w.heap.size + 4 ≤ ·) (w.heap.size + 4 ≤ ·) := Carry.keep k (fun b hb _ hf => by simp at hb; omega) fun b _ hf => hf
  have c' : Carry wr (wr.setCell ⟨w.heap.size + 1 + 1 + 1, 4, none⟩ vb') (B ≤ ·) (w.heap.size + 4 ≤ ·) := Carry.keep k (fun b hb _ hf => by simp at hb; omega) fun b _ hf => by omega
  exact ⟨h.lr, h.b2.keep k (by simp; omega), h.b3.keep k (by simp), h.b4.keep k (by simp), h.b5.set 4 _, h.ex.exs c, h.bd.sts c, RowIs.sts hb c', h.rd.keep k (by simp; omega), h.keep.setCell (.inr (show w.heap.size ≤ w.heap.size + 1 + 1 + 1 by omega)) _⟩
/-- The cells, one by one. -/
def StCells (w wr : World) (br d : Nat) (v0 v1 v2 v3 v4 v5 : Value) : Prop :=
    wr.cell? ⟨w.heap.size, 0, none⟩ = some (.pointer (some ⟨br, 0, none⟩)) ∧ wr.cell? ⟨w.heap.size + 1, 0, none⟩ = some (.int .i64 d) ∧
    (wr.cell? ⟨w.heap.size + 1 + 1 + 1, 0, none⟩ = some v0 ∧ wr.cell? ⟨w.heap.size + 1 + 1 + 1, 1, none⟩ = some v1 ∧ wr.cell? ⟨w.heap.size + 1 + 1 + 1, 2, none⟩ = some v2 ∧ wr.cell? ⟨w.heap.size + 1 + 1 + 1, 3, none⟩ = some v3 ∧ wr.cell? ⟨w.heap.size + 1 + 1 + 1, 4, none⟩ = some v4 ∧ wr.cell? ⟨w.heap.size + 1 + 1 + 1, 5, none⟩ = some v5 ∧ (∀ i, wr.frozen? ⟨w.heap.size + 1 + 1 + 1, i, none⟩ = false)) ∧
    (wr.cell? ⟨w.heap.size + 1 + 1, 0, none⟩ = some (.int .i64 0) ∧ wr.cell? ⟨w.heap.size + 1 + 1, 1, none⟩ = some (.string ⟨#[]⟩) ∧ wr.cell? ⟨w.heap.size + 1 + 1, 2, none⟩ = some (.slice none 0 0) ∧ wr.cell? ⟨w.heap.size + 1 + 1, 3, none⟩ = some (.slice none 0 0) ∧ wr.cell? ⟨w.heap.size + 1 + 1, 4, none⟩ = some (.slice none 0 0) ∧ wr.cell? ⟨w.heap.size + 1 + 1, 5, none⟩ = some (.int .i64 0) ∧ (∀ i, wr.frozen? ⟨w.heap.size + 1 + 1, i, none⟩ = false))
theorem StAt.cells {w wr : World} {br n d op at_ : Nat} {ts : List Tok} {text : List UInt8} {es : List Ex} {se : Value} (h : StAt w wr br n d ts op text es at_ se) : StCells w wr br d (.int .i64 op) (.string ⟨text.toArray⟩) se (.slice none 0 0) (.slice none 0 0) (.int .i64 at_) :=
  ⟨h.b2.cell 0, h.b3.cell 0, h.b5.six, h.b4.six⟩
theorem StBt.cells {w wr : World} {br n d op at_ : Nat} {ts : List Tok} {text : List UInt8} {es : List Ex} {b l : List St} {se vb vl : Value} (h : StBt w wr br n d ts op text es b l at_ se vb vl) : StCells w wr br d (.int .i64 op) (.string ⟨text.toArray⟩) se vb vl (.int .i64 at_) :=
  ⟨h.b2.cell 0, h.b3.cell 0, h.b5.six, h.b4.six⟩
/-- The statement copied into the result. -/
theorem StBt.ans {w wr : World} {br n d op at_ : Nat} {ts : List Tok} {text : List UInt8} {es : List Ex} {b l : List St} {se vb vl : Value} (h : StBt w wr br n d ts op text es b l at_ se vb vl) (v : Value) (hv : v = .int .i64 op) :
    ∃ wF : World, wF = (((((wr.setCell ⟨w.heap.size + 1 + 1, 0, none⟩ v).setCell ⟨w.heap.size + 1 + 1, 1, none⟩ (.string ⟨text.toArray⟩)).setCell ⟨w.heap.size + 1 + 1, 2, none⟩ se).setCell ⟨w.heap.size + 1 + 1, 3, none⟩ vb).setCell ⟨w.heap.size + 1 + 1, 4, none⟩ vl).setCell ⟨w.heap.size + 1 + 1, 5, none⟩ (.int .i64 at_) ∧
      Blk wF (w.heap.size + 1 + 1) 78 [v, .string ⟨text.toArray⟩, se, vb, vl, .int .i64 at_] ∧ RdAt wF br n ts ∧ Keep [br] w wF ∧ encS w.heap.size wF (.mk op text es b l at_) (.agg #[v, .string ⟨text.toArray⟩, se, vb, vl, .int .i64 at_]) := by
  subst hv
  have := h.lr
  obtain ⟨BF, KF⟩ := six_set h.b4 (.int .i64 op) (.string ⟨text.toArray⟩) se vb vl (.int .i64 at_)
  refine ⟨_, rfl, BF, h.rd.keep KF (by simp; omega), h.keep.trans KF (by simp; omega), _, rfl, ?_⟩
  generalize (((((wr.setCell ⟨w.heap.size + 1 + 1, 0, none⟩ (.int .i64 op)).setCell ⟨w.heap.size + 1 + 1, 1, none⟩ (.string ⟨text.toArray⟩)).setCell ⟨w.heap.size + 1 + 1, 2, none⟩ se).setCell ⟨w.heap.size + 1 + 1, 3, none⟩ vb).setCell ⟨w.heap.size + 1 + 1, 4, none⟩ vl).setCell ⟨w.heap.size + 1 + 1, 5, none⟩ (.int .i64 at_) = wF at KF ⊢
  have c : Carry wr wF (w.heap.size + 4 ≤ ·) (w.heap.size ≤ ·) := Carry.keep KF (fun b hb _ hf => by simp at hb; omega) fun b _ hf => by omega
  simp only [StIs]
  exact ⟨se, vb, vl, rfl, h.ex.exs c, h.bd.sts c, h.el.sts c⟩
theorem StAt.form {w wr : World} {br n d op at_ : Nat} {ts : List Tok} {text : List UInt8} {es : List Ex} {se : Value} (h : StAt w wr br n d ts op text es at_ se) : ∃ (a : Option Addr) (k c : Nat), se = .slice a k c := by
  obtain ⟨ks, hrow, _⟩ := h.own
  obtain ⟨a, c, rfl, _⟩ := owned_cells hrow
  exact ⟨a, _, c, rfl⟩
theorem stAt_begin {w : World} {br n d : Nat} {ts : List Tok} (hr : RdAt w br n ts) (p : Nat) :
    StAt w ((((w.alloc (.cells #[.pointer (some ⟨br, 0, none⟩)] 44)).alloc (.cells #[.int .i64 d] 3)).alloc (.cells #[.int .i64 0, .string ⟨#[]⟩, .slice none 0 0, .slice none 0 0, .slice none 0 0, .int .i64 0] 78)).alloc (.cells #[.int .i64 0, .string ⟨#[]⟩, .slice none 0 0, .slice none 0 0, .slice none 0 0, .int .i64 p] 78)) br n d ts 0 [] [] p (.slice none 0 0) := by
  have lr := hr.lt
  have b2 := (((Blk.new w 44 [.pointer (some ⟨br, 0, none⟩)]).alloc (.cells #[.int .i64 d] 3)).alloc (.cells #[.int .i64 0, .string ⟨#[]⟩, .slice none 0 0, .slice none 0 0, .slice none 0 0, .int .i64 0] 78)).alloc (.cells #[.int .i64 0, .string ⟨#[]⟩, .slice none 0 0, .slice none 0 0, .slice none 0 0, .int .i64 p] 78)
  have b3 := ((Blk.new (w.alloc (.cells #[.pointer (some ⟨br, 0, none⟩)] 44)) 3 [.int .i64 d]).alloc (.cells #[.int .i64 0, .string ⟨#[]⟩, .slice none 0 0, .slice none 0 0, .slice none 0 0, .int .i64 0] 78)).alloc (.cells #[.int .i64 0, .string ⟨#[]⟩, .slice none 0 0, .slice none 0 0, .slice none 0 0, .int .i64 p] 78)
  have b4 := (Blk.new ((w.alloc (.cells #[.pointer (some ⟨br, 0, none⟩)] 44)).alloc (.cells #[.int .i64 d] 3)) 78 [.int .i64 0, .string ⟨#[]⟩, .slice none 0 0, .slice none 0 0, .slice none 0 0, .int .i64 0]).alloc (.cells #[.int .i64 0, .string ⟨#[]⟩, .slice none 0 0, .slice none 0 0, .slice none 0 0, .int .i64 p] 78)
  have b5 := Blk.new (((w.alloc (.cells #[.pointer (some ⟨br, 0, none⟩)] 44)).alloc (.cells #[.int .i64 d] 3)).alloc (.cells #[.int .i64 0, .string ⟨#[]⟩, .slice none 0 0, .slice none 0 0, .slice none 0 0, .int .i64 0] 78)) 78 [.int .i64 0, .string ⟨#[]⟩, .slice none 0 0, .slice none 0 0, .slice none 0 0, .int .i64 p]
  have e4 : Ext w ((((w.alloc (.cells #[.pointer (some ⟨br, 0, none⟩)] 44)).alloc (.cells #[.int .i64 d] 3)).alloc (.cells #[.int .i64 0, .string ⟨#[]⟩, .slice none 0 0, .slice none 0 0, .slice none 0 0, .int .i64 0] 78)).alloc (.cells #[.int .i64 0, .string ⟨#[]⟩, .slice none 0 0, .slice none 0 0, .slice none 0 0, .int .i64 p] 78)) := ((((Ext.refl w).alloc _).alloc _).alloc _).alloc _
  simp only [World.size_alloc] at b2 b3 b4 b5
  exact ⟨lr, b2, b3, b4, b5, OwnX.nil _ _ _ _, hr.ext e4, .ofExt e4⟩
/-- The closure that reads an expression more. -/
def KidEnds (w : World) (br n d op at_ : Nat) (text : List UInt8) (es : List Ex) (R : Res Ex) (e : Ending) (w' : World) : Prop :=
  match R with
  | .ok x r => e = .returned (.tuple #[]) ∧ ∃ se, StAt w w' br n d r op text (es ++ [x]) at_ se
  | .err c r => e = .panicked [faultV c (placeOf n r)] ∧ Keep [br] w w'
theorem st_kid {w wr : World} {br n d op at_ : Nat} {ts : List Tok} {text : List UInt8} {es : List Ex} {se : Value} (hd : d ≤ 100) (p : Rd Ex) (hC : ExprC 80 (d + 1) p) (h : StAt w wr br n d ts op text es at_ se) (hw : Wf ts) (hl : es.length ≤ 100) :
    Calls Tryz.prog 79 #[.pointer (some ⟨w.heap.size + 1 + 1 + 1, 0, none⟩), .pointer (some ⟨w.heap.size, 0, none⟩), .pointer (some ⟨w.heap.size + 1, 0, none⟩)] wr (KidEnds w br n d op at_ text es (p ts)) := by
  have lr := h.lr
  have hsz := h.size
  have lown : ∀ k ∈ ownL se, w.heap.size + 4 ≤ k := fun k hk => by
    obtain ⟨ks, hrow, _⟩ := h.own
    exact (hrow.lt k (mem_ownL.1 hk)).1
  refine (exprs_any d hd p hC wr br n ts (w.heap.size + 1 + 1 + 1) w.heap.size (w.heap.size + 1) (w.heap.size + 4) _ _ _ _ _ se es h.b5 h.b2 h.b3 h.own h.rd hw (by omega) (by omega) (by omega) (by omega) hsz (by omega) (by omega) (by omega) (by omega)).mono ?_
  intro e w' h1
  cases hp : p ts with
  | ok x r =>
    rw [hp] at h1
    obtain ⟨rfl, ⟨se', h3, h4⟩, r3, k3⟩ := h1
    have hno : ∀ b, br < b → b < w.heap.size + 1 + 1 + 1 → b ∉ [br, w.heap.size + 1 + 1 + 1] ++ ownL se := by
      intro b g1 g2 hm
      simp only [List.mem_append, List.mem_cons, List.not_mem_nil, or_false] at hm
      rcases hm with (hm | hm) | hm
      · omega
      · omega
      · have := lown b hm; omega
    refine ⟨rfl, se', lr, h.b2.keep k3 (hno _ (by omega) (by omega)), h.b3.keep k3 (hno _ (by omega) (by omega)), h.b4.keep k3 (hno _ (by omega) (by omega)), h3, h4, r3, h.keep.trans k3 ?_⟩
    intro x hx
    simp only [List.mem_append, List.mem_cons, List.not_mem_nil, or_false] at hx ⊢
    rcases hx with (hx | hx) | hx
    · exact .inl hx
    · right; omega
    · right; have := lown x hx; omega
  | err c r =>
    rw [hp] at h1
    obtain ⟨rfl, k3⟩ := h1
    exact ⟨rfl, h.keep.trans' k3⟩
theorem place_eq {n : Nat} {ts : List Tok} (h : ts ≠ []) : placeOf n ts = headPlace ts := by
  cases ts with
  | nil => exact absurd rfl h
  | cons t r => rfl
end Go.Proofs.YtaehlakefgnfmaaGreatDoor
