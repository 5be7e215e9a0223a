/-
  DERIVED. THE WALKS of the expressions' functions.
-/
import Derived.Test.YtaehlakefgnfmaaGreatDoorKid
import Derived.Test.YtaehlakefgnfmaaGreatDoorList
namespace Go.Proofs.YtaehlakefgnfmaaGreatDoor
set_option linter.unusedSimpArgs false
set_option linter.unusedVariables false
set_option maxRecDepth 100000
open Go.RowKit

theorem encX.carry {B B' : Nat} {w w' : World} {x : Ex} {v : Value} {S : List Nat} (h : encX B w x v) (k : Keep S w w') (hS : ∀ b ∈ S, b < B ∨ w.heap.size ≤ b) (hB : B' ≤ B) : encX B' w' x v := by
  obtain ⟨vs, h1, h2⟩ := h
  exact ⟨vs, h1, ExIs.carry (Carry.keep k (fun b hb hl hf => by have := hS b hb; omega) fun b _ hf => by omega) _ _ h2⟩
theorem encX.ext {B B' : Nat} {w w' : World} {x : Ex} {v : Value} (h : encX B w x v) (e : Ext w w') (hB : B' ≤ B) : encX B' w' x v := h.carry (S := []) (.ofExt e) (by simp) hB
/-- How such a value looks. -/
theorem encX.form {B : Nat} {w : World} {x : Ex} {v : Value} (h : encX B w x v) : ∃ (op num : Nat) (text : List UInt8) (ka : Option Addr) (kn kc at_ : Nat), v = .agg #[.int .i64 op, .int .i64 num, .string ⟨text.toArray⟩, .slice ka kn kc, .int .i64 at_] := by
  obtain ⟨vs, rfl, h2⟩ := h
  cases x
  simp only [ExIs] at h2
  obtain ⟨kv, rfl, ka, kc, kks, rfl, _⟩ := h2
  exact ⟨_, _, _, _, _, _, _, rfl⟩

/-- Five cells, one by one. -/
theorem Blk.five {w : World} {b : Nat} {t : TypeId} {v0 v1 v2 v3 v4 : Value} (h : Blk w b t [v0, v1, v2, v3, v4]) :
    w.cell? ⟨b, 0, none⟩ = some v0 ∧ w.cell? ⟨b, 1, none⟩ = some v1 ∧ w.cell? ⟨b, 2, none⟩ = some v2 ∧ w.cell? ⟨b, 3, none⟩ = some v3 ∧ w.cell? ⟨b, 4, none⟩ = some v4 ∧ (∀ i, w.frozen? ⟨b, i, none⟩ = false) :=
  ⟨h.cell 0, h.cell 1, h.cell 2, h.cell 3, h.cell 4, h.frozen⟩
theorem Blk.six {w : World} {b : Nat} {t : TypeId} {v0 v1 v2 v3 v4 v5 : Value} (h : Blk w b t [v0, v1, v2, v3, v4, v5]) :
    w.cell? ⟨b, 0, none⟩ = some v0 ∧ w.cell? ⟨b, 1, none⟩ = some v1 ∧ w.cell? ⟨b, 2, none⟩ = some v2 ∧ w.cell? ⟨b, 3, none⟩ = some v3 ∧ w.cell? ⟨b, 4, none⟩ = some v4 ∧ w.cell? ⟨b, 5, none⟩ = some v5 ∧ (∀ i, w.frozen? ⟨b, i, none⟩ = false) :=
  ⟨h.cell 0, h.cell 1, h.cell 2, h.cell 3, h.cell 4, h.cell 5, h.frozen⟩

/-- Five stores into a block of five cells. -/
theorem five_set {w : World} {b : Nat} {t : TypeId} {z0 z1 z2 z3 z4 : Value} (h : Blk w b t [z0, z1, z2, z3, z4]) (v0 v1 v2 v3 v4 : Value) :
    Blk (((((w.setCell ⟨b, 0, none⟩ v0).setCell ⟨b, 1, none⟩ v1).setCell ⟨b, 2, none⟩ v2).setCell ⟨b, 3, none⟩ v3).setCell ⟨b, 4, none⟩ v4) b t [v0, v1, v2, v3, v4] ∧
    Keep [b] w (((((w.setCell ⟨b, 0, none⟩ v0).setCell ⟨b, 1, none⟩ v1).setCell ⟨b, 2, none⟩ v2).setCell ⟨b, 3, none⟩ v3).setCell ⟨b, 4, none⟩ v4) :=
  ⟨((((h.set 0 v0).set 1 v1).set 2 v2).set 3 v3).set 4 v4, (((((Keep.refl [b] w).setCell (by simp) v0).setCell (by simp) v1).setCell (by simp) v2).setCell (by simp) v3).setCell (by simp) v4⟩
theorem must_t {α : Type} {s : List UInt8} {ts : List Tok} {k : List Tok → Res α} (h : isSign s ts = true) : must s ts k = k ts.tail := by unfold must; rw [if_pos h]
theorem must_f {α : Type} {s : List UInt8} {ts : List Tok} {k : List Tok → Res α} (h : isSign s ts = false) : must s ts k = .err 41 ts := by unfold must; rw [if_neg (by rw [h]; decide)]
theorem name_t {α : Type} {ts : List Tok} {k : List UInt8 → List Tok → Res α} (h : isName ts = true) : name ts k = k (headText ts) ts.tail := by unfold name; rw [if_pos h]
theorem name_f {α : Type} {ts : List Tok} {k : List UInt8 → List Tok → Res α} (h : isName ts = false) : name ts k = .err 41 ts := by unfold name; rw [if_neg (by rw [h]; decide)]
theorem mustY (w : World) (br n : Nat) (ts : List Tok) (hr : RdAt w br n ts) (l : List UInt8) (h : isSign l ts = true) (b : Nat) (hb : w.heap.size = b) :
    Calls Tryz.prog 24 #[.pointer (some ⟨br, 0, none⟩), .slice (some ⟨b, 0, none⟩) 1 1] (w.alloc (.cells #[.string ⟨l.toArray⟩] 9)) fun e w' => e = .returned (.tuple #[]) ∧ RdAt w' br n ts.tail ∧ Keep [br] w w' := by
  subst hb; exact musty w br n ts hr l h
theorem mustN (w : World) (br n : Nat) (ts : List Tok) (hr : RdAt w br n ts) (l : List UInt8) (h : isSign l ts = false) (b : Nat) (hb : w.heap.size = b) :
    Calls Tryz.prog 24 #[.pointer (some ⟨br, 0, none⟩), .slice (some ⟨b, 0, none⟩) 1 1] (w.alloc (.cells #[.string ⟨l.toArray⟩] 9)) fun e w' => e = .panicked [faultV 41 (placeOf n ts)] ∧ Keep [br] w w' := by
  subst hb; exact mustn w br n ts hr l h

set_option maxHeartbeats 1000000 in
theorem inner_any (d : Nat) (hd : d ≤ 100) (p : Rd Ex) (hC : ExprC 80 (d + 1) p) (hi : Inv Ex.size WFx p) : ExprC 111 d (innerS p) := by
  intro w br n ts hr hw
  have lr := hr.lt
  have HC := hid hC
  clear hC
  have HI := hid hi
  clear hi
  have r0 := hr.ext ((Ext.refl _).alloc (.cells #[.int .i64 0, .int .i64 0, .string ⟨#[]⟩, .slice none 0 0, .int .i64 0] 100))
  cases h1 : isSign [40] ts with
  | false =>
    have HR := hid (show innerS p ts = .err 41 ts by simp only [innerS, must_f h1])
    have H1 := hid h1
    clear h1
    go_enter Tryz.func111, Tryz.ntmps111
    go_wp2_with fail
    (with_reducible refine (mustN _ br n ts r0 _ H1.out _ (by simp)).mono ?_)
    rintro e w1 ⟨rfl, k1⟩
    go_wp2_with fail
    refine ⟨rfl, ?_⟩
    rw [HR.out]
    exact ⟨rfl, ((Keep.refl _ _).alloc _).trans' k1⟩
  | true =>
    have hwt := hw.tail
    have HF := hid (HI.out _ hwt)
    have H1 := hid h1
    cases h2 : p ts.tail with
    | err c r =>
      have HR := hid (show innerS p ts = .err c r by simp only [innerS, must_t h1, h2, Res.bind])
      have H2 := hid h2
      clear h1 h2
      go_enter Tryz.func111, Tryz.ntmps111
      go_wp2_with fail
      (with_reducible refine (mustY _ br n ts r0 _ H1.out _ (by simp)).mono ?_)
      rintro e w1 ⟨rfl, r1, k1⟩
      go_wp2_with fail
      refine (HC.out _ br n _ r1 hwt).mono ?_
      rw [H2.out]
      rintro e w2 ⟨rfl, k2⟩
      go_wp2_with fail
      refine ⟨rfl, ?_⟩
      rw [HR.out]
      exact ⟨rfl, (((Keep.refl _ _).alloc _).trans' k1).trans' k2⟩
    | ok x r =>
      have H2 := hid h2
      have hF := HF.out
      rw [h2] at hF
      cases h3 : isSign [41] r with
      | false =>
        have HR := hid (show innerS p ts = .err 41 r by simp only [innerS, must_t h1, h2, Res.bind, must_f h3])
        have H3 := hid h3
        clear h1 h2 h3
        go_enter Tryz.func111, Tryz.ntmps111
        go_wp2_with fail
        (with_reducible refine (mustY _ br n ts r0 _ H1.out _ (by simp)).mono ?_)
        rintro e w1 ⟨rfl, r1, k1⟩
        go_wp2_with fail
        refine (HC.out _ br n _ r1 hwt).mono ?_
        rw [H2.out]
        rintro e w2 ⟨v, rfl, hx, r2, k2⟩
        obtain ⟨op, num, text, ka, kn, kc, at_, rfl⟩ := hx.form
        go_wp2_with fail
        (with_reducible refine (mustN _ br n r (r2.ext ((Ext.refl _).alloc _)) _ H3.out _ (by simp)).mono ?_)
        rintro e w3 ⟨rfl, k3⟩
        go_wp2_with fail
        refine ⟨rfl, ?_⟩
        rw [HR.out]
        exact ⟨rfl, (((((Keep.refl _ _).alloc _).trans' k1).trans' k2).alloc _).trans' k3⟩
      | true =>
        have HR := hid (show innerS p ts = .ok x r.tail by simp only [innerS, must_t h1, h2, Res.bind, must_t h3])
        have H3 := hid h3
        clear h1 h2 h3
        go_enter Tryz.func111, Tryz.ntmps111
        go_wp2_with fail
        (with_reducible refine (mustY _ br n ts r0 _ H1.out _ (by simp)).mono ?_)
        rintro e w1 ⟨rfl, r1, k1⟩
        go_wp2_with fail
        refine (HC.out _ br n _ r1 hwt).mono ?_
        rw [H2.out]
        rintro e w2 ⟨v, rfl, hx, r2, k2⟩
        obtain ⟨op, num, text, ka, kn, kc, at_, rfl⟩ := hx.form
        go_wp2_with fail
        (with_reducible refine (mustY _ br n r (r2.ext ((Ext.refl _).alloc _)) _ H3.out _ (by simp)).mono ?_)
        rintro e w3 ⟨rfl, r3, k3⟩
        have kw := ((((Keep.refl [br] w).alloc (.cells #[.int .i64 0, .int .i64 0, .string ⟨#[]⟩, .slice none 0 0, .int .i64 0] 100)).trans' k1).trans' k2)
        have l2 := r2.lt
        have lw : w.heap.size + 1 ≤ w1.heap.size := by have := k1.size; simp at this; omega
        have lw2 : w1.heap.size ≤ w2.heap.size := k2.size
        have lw3 : w2.heap.size + 1 ≤ w3.heap.size := by have := k3.size; simp at this; omega
        have B4 := ((((Blk.new w 100 [.int .i64 0, .int .i64 0, .string ⟨#[]⟩, .slice none 0 0, .int .i64 0]).keep k1 (by simp; omega)).keep k2 (by simp; omega)).alloc _).keep k3 (by simp; omega)
        have B5 := (Blk.new w2 100 [.int .i64 op, .int .i64 num, .string ⟨text.toArray⟩, .slice ka kn kc, .int .i64 at_]).keep k3 (by simp; omega)
        obtain ⟨z0, z1, z2, z3, z4, zf⟩ := B4.five
        obtain ⟨y0, y1, y2, y3, y4, yf⟩ := B5.five
        go_wp2_with fail
        obtain ⟨BF, KF⟩ := five_set B4 (.int .i64 op) (.int .i64 num) (.string ⟨text.toArray⟩) (.slice ka kn kc) (.int .i64 at_)
        generalize (((((w3.setCell ⟨w.heap.size, 0, none⟩ (.int .i64 op)).setCell ⟨w.heap.size, 1, none⟩ (.int .i64 num)).setCell ⟨w.heap.size, 2, none⟩ (.string ⟨text.toArray⟩)).setCell ⟨w.heap.size, 3, none⟩ (.slice ka kn kc)).setCell ⟨w.heap.size, 4, none⟩ (.int .i64 at_)) = wF at BF KF ⊢
        obtain ⟨q0, q1, q2, q3, q4, _⟩ := BF.five
        refine bodyPost_ret (v := .agg #[.int .i64 op, .int .i64 num, .string ⟨text.toArray⟩, .slice ka kn kc, .int .i64 at_]) (by simp [results, Tryz.results111, go_sem, q0, q1, q2, q3, q4]) rfl ?_
        rw [HR.out]
        refine ⟨_, rfl, ?_, (r3.keep KF (by simp; omega)), ((((((Keep.refl [br] w).alloc _).trans' k1).trans' k2).alloc _).trans' k3).trans KF (by simp)⟩
        exact (((hx.ext ((Ext.refl _).alloc _) (Nat.le_refl _)).carry k3 (by simp; omega) (Nat.le_refl _)).carry KF (by simp; omega) (by omega))
end Go.Proofs.YtaehlakefgnfmaaGreatDoor
/-
  DERIVED. THE WALKS of expr, one.
-/
namespace Go.Proofs.YtaehlakefgnfmaaGreatDoor
set_option linter.unusedSimpArgs false
set_option linter.unusedVariables false
set_option maxRecDepth 100000
open Go.RowKit

theorem encX.is {B : Nat} {w : World} {x : Ex} {l : List Value} (h : encX B w x (.agg l.toArray)) : ExIs w (B ≤ ·) x l := by
  obtain ⟨vs, h1, h2⟩ := h
  have : l = vs := by simpa using h1
  rw [this]; exact h2
theorem row_one {w : World} {B nb : Nat} {x : Ex} {vs : List Value} (hx : ExIs w (B ≤ ·) x vs) (hb : Blk w nb 100 vs) (hB : B ≤ nb) : RowIs w (B ≤ ·) (.slice (some ⟨nb, 0, none⟩) 1 1) 1 (fun ks => ExsIs w (B ≤ ·) [x] ks) := by
  refine ⟨some ⟨nb, 0, none⟩, 1, vs, rfl, Nat.le_refl _, fun i v hv => ⟨nb, 0, rfl, hB, by rw [Nat.zero_add, hb.cell i, hv]⟩, ?_⟩
  simp only [ExsIs]
  exact ⟨vs, [], by simp, hx, rfl⟩
theorem row_none (w : World) (F : Nat → Prop) : RowIs w F (.slice none 0 0) 0 (fun ks => ExsIs w F [] ks) := ⟨none, 0, [], rfl, Nat.le_refl _, CellsIn.nil _ _ _, by simp only [ExsIs]⟩
theorem encX.mk {w : World} {B op num at_ : Nat} {text : List UInt8} {kids : List Ex} {kv : Value} (h : RowIs w (B ≤ ·) kv kids.length (fun ks => ExsIs w (B ≤ ·) kids ks)) :
    encX B w (.mk op num text kids at_) (.agg #[.int .i64 op, .int .i64 num, .string ⟨text.toArray⟩, kv, .int .i64 at_]) :=
  ⟨[.int .i64 op, .int .i64 num, .string ⟨text.toArray⟩, kv, .int .i64 at_], rfl, by simp only [ExIs]; exact ⟨kv, rfl, h⟩⟩

/-- A function that reads what is of a level, so deep. -/
def LevelC (m d : Nat) (p : Rd Ex) : Prop := ∀ (w : World) (br n : Nat) (ts : List Tok), RdAt w br n ts → Wf ts → Calls Tryz.prog 90 #[.pointer (some ⟨br, 0, none⟩), .int .i64 m, .int .i64 d] w (Ans w br n (encX w.heap.size) (p ts))

theorem deep_ok1 (w : World) (br d : Nat) (hd : d + 1 ≤ 32) :
    Calls Tryz.prog 58 #[.pointer (some ⟨br, 0, none⟩), .int .i64 ((d : Int) + 1)] w fun e w' => e = .returned (.int .i64 ((d : Int) + 1)) ∧ w = w' := deep_ok w br (d + 1) hd
theorem deep_no1 (w : World) (br n d : Nat) (ts : List Tok) (hr : RdAt w br n ts) (hd : 32 < d + 1) :
    Calls Tryz.prog 58 #[.pointer (some ⟨br, 0, none⟩), .int .i64 ((d : Int) + 1)] w fun e w' => e = .panicked [faultV 42 (placeOf n ts)] ∧ w = w' := deep_no w br n (d + 1) ts hr hd
set_option maxHeartbeats 1000000 in
theorem expr_ok (d : Nat) (hd : d ≤ 32) (p : Rd Ex) (hC : LevelC 0 d p) : ExprC 80 d p := by
  intro w br n ts hr hw
  have lr := hr.lt
  have HC := hid hC
  clear hC
  have r0 := hr.ext ((Ext.refl _).alloc (.cells #[.int .i64 0, .int .i64 0, .string ⟨#[]⟩, .slice none 0 0, .int .i64 0] 100))
  go_enter Tryz.func80, Tryz.ntmps80
  go_wp2_with fail
  (with_reducible refine (deep_ok _ br d hd).mono ?_)
  rintro e w' ⟨rfl, rfl⟩
  go_wp2_with fail
  refine (HC.out _ br n ts r0 hw).mono ?_
  intro e w1
  cases hp : p ts with
  | err c r =>
    rintro ⟨rfl, k1⟩
    have HP := hid hp
    clear hp
    go_wp2_with fail
    refine ⟨rfl, ?_⟩
    try rw [HP.out]
    exact ⟨rfl, ((Keep.refl _ _).alloc _).trans' k1⟩
  | ok x r =>
    rintro ⟨v, rfl, hx, r1, k1⟩
    have HP := hid hp
    clear hp
    obtain ⟨op, num, text, ka, kn, kc, at_, rfl⟩ := hx.form
    have B4 := (Blk.new w 100 [.int .i64 0, .int .i64 0, .string ⟨#[]⟩, .slice none 0 0, .int .i64 0]).keep k1 (by simp; omega)
    obtain ⟨z0, z1, z2, z3, z4, zf⟩ := B4.five
    have lw : w.heap.size + 1 ≤ w1.heap.size := by have := k1.size; simp at this; omega
    go_wp2_with fail
    obtain ⟨BF, KF⟩ := five_set B4 (.int .i64 op) (.int .i64 num) (.string ⟨text.toArray⟩) (.slice ka kn kc) (.int .i64 at_)
    generalize (((((w1.setCell ⟨w.heap.size, 0, none⟩ (.int .i64 op)).setCell ⟨w.heap.size, 1, none⟩ (.int .i64 num)).setCell ⟨w.heap.size, 2, none⟩ (.string ⟨text.toArray⟩)).setCell ⟨w.heap.size, 3, none⟩ (.slice ka kn kc)).setCell ⟨w.heap.size, 4, none⟩ (.int .i64 at_)) = wF at BF KF ⊢
    obtain ⟨q0, q1, q2, q3, q4, _⟩ := BF.five
    refine bodyPost_ret (v := .agg #[.int .i64 op, .int .i64 num, .string ⟨text.toArray⟩, .slice ka kn kc, .int .i64 at_]) (by simp [results, Tryz.results80, go_sem, q0, q1, q2, q3, q4]) rfl ?_
    try rw [HP.out]
    refine ⟨_, rfl, ?_, (r1.keep KF (by simp; omega)), (((Keep.refl [br] w).alloc _).trans' k1).trans KF (by simp)⟩
    exact hx.carry KF (by simp) (by simp)
set_option maxHeartbeats 1000000 in
theorem expr_no (d : Nat) (hd : 32 < d) : ExprC 80 d (fun ts => .err 42 ts) := by
  intro w br n ts hr hw
  have r0 := hr.ext ((Ext.refl _).alloc (.cells #[.int .i64 0, .int .i64 0, .string ⟨#[]⟩, .slice none 0 0, .int .i64 0] 100))
  go_enter Tryz.func80, Tryz.ntmps80
  go_wp2_with fail
  (with_reducible refine (deep_no _ br n d ts r0 hd).mono ?_)
  rintro e w' ⟨rfl, rfl⟩
  go_wp2_with fail
  exact ⟨rfl, rfl, (Keep.refl _ _).alloc _⟩

/-- What has one sign ahead already: or it is too deep. -/
def OneC (d : Nat) (o : Rd Ex) : Prop := (d ≤ 32 ∧ ExprC 97 d o) ∨ (32 < d ∧ o = fun ts => .err 42 ts)

/-- Where the loop over the two signs stands. -/
def OneRel (W : World) (br n : Nat) (ts : List Tok) (i : Value) (wr : World) : Prop :=
  ∃ k : Nat, i = .int .i64 k ∧ RdAt wr br n ts ∧ Keep [br] W wr ∧ (k = 0 ∨ (k = 1 ∧ isSign [45] ts = false) ∨ (k = 2 ∧ isSign [45] ts = false ∧ isSign [33] ts = false))
set_option maxHeartbeats 4000000 in
theorem one_any (d : Nat) (hd : d ≤ 100) (e o : Rd Ex) (hP : ExprC 104 d (primaryS e)) (hO : OneC (d + 1) o) : ExprC 97 d (oneS e o) := by
  intro w br n ts hr hw
  have lr := hr.lt
  have HP := hid hP
  have HO := hid hO
  clear hP hO
  have r0 := hr.ext ((Ext.refl _).alloc (.cells #[.int .i64 0, .int .i64 0, .string ⟨#[]⟩, .slice none 0 0, .int .i64 0] 100))
  have r1 := r0.ext ((Ext.refl _).alloc (.cells #[.string ⟨#[45]⟩, .string ⟨#[33]⟩] 9))
  have B4 := (Blk.new w 100 [.int .i64 0, .int .i64 0, .string ⟨#[]⟩, .slice none 0 0, .int .i64 0]).alloc (.cells #[.string ⟨#[45]⟩, .string ⟨#[33]⟩] 9)
  have BS := Blk.new (w.alloc (.cells #[.int .i64 0, .int .i64 0, .string ⟨#[]⟩, .slice none 0 0, .int .i64 0] 100)) 9 [.string ⟨#[45]⟩, .string ⟨#[33]⟩]
  have kw := ((Keep.refl [br] w).alloc (.cells #[.int .i64 0, .int .i64 0, .string ⟨#[]⟩, .slice none 0 0, .int .i64 0] 100)).alloc (.cells #[.string ⟨#[45]⟩, .string ⟨#[33]⟩] 9)
  rw [show (w.alloc (.cells #[.int .i64 0, .int .i64 0, .string ⟨#[]⟩, .slice none 0 0, .int .i64 0] 100)).heap.size = w.heap.size + 1 by simp] at BS
  have HR45 : Hid (isSign [45] ts = true → oneS e o ts = (o ts.tail).bind fun x r => .ok (.mk 7 0 [45] [x] (headPlace ts)) r) := fun h => by unfold oneS; rw [if_pos h]
  have HR33 : Hid (isSign [45] ts = false → isSign [33] ts = true → oneS e o ts = (o ts.tail).bind fun x r => .ok (.mk 7 0 [33] [x] (headPlace ts)) r) := fun h h' => by unfold oneS; rw [if_neg (by rw [h]; decide), if_pos h']
  have HR0 : Hid (isSign [45] ts = false → isSign [33] ts = false → oneS e o ts = primaryS e ts) := fun h h' => by unfold oneS; rw [if_neg (by rw [h]; decide), if_neg (by rw [h']; decide)]
  generalize oneS e o ts = R at HR45 HR33 HR0 ⊢
  go_enter Tryz.func97, Tryz.ntmps97
  go_wp2_with fail
  (with_reducible refine (place_any _ br n ts r0).mono ?_)
  rintro e1 w' ⟨rfl, rfl⟩
  go_wp2_with fail
  go_loopw [7, 12] (fun _ i wr => OneRel ((w.alloc (.cells #[.int .i64 0, .int .i64 0, .string ⟨#[]⟩, .slice none 0 0, .int .i64 0] 100)).alloc (.cells #[.string ⟨#[45]⟩, .string ⟨#[33]⟩] 9)) br n ts i wr) (fun _ i _ => (2 - intOf i).toNat)
  case atStart => exact ⟨0, rfl, r1, Keep.refl _ _, .inl rfl⟩
  case round =>
    obtain ⟨k, rfl, r2, k2, hk⟩ := hrel
    have hbs := (BS.keep k2 (by simp; omega))
    have s0 := hbs.cell 0
    have s1 := hbs.cell 1
    simp only [List.getElem?_cons_zero, List.getElem?_cons_succ] at s0 s1
    clear hbs
    rcases hk with rfl | ⟨rfl, h45⟩ | ⟨rfl, h45, h33⟩
    · cases h1 : isSign [45] ts with
      | true =>
        have H45 := hid h1
        replace HR45 := hid (HR45.out h1)
        clear h1
        go_wp2_with fail
        (with_reducible refine (take_yes _ br n ts r2 _ H45.out).mono ?_)
        rintro e1 w3 ⟨rfl, r3, k3⟩
        have k13 := k2.trans' k3
        have B43 := B4.keep k13 (by simp; omega)
        rcases HO.out with ⟨hd32, hone⟩ | ⟨hd32, ho⟩
        · have HN := hid hone
          clear hone
          go_wp2_with fail
          (with_reducible refine (deep_ok1 _ br d hd32).mono ?_)
          rintro e1 w' ⟨rfl, rfl⟩
          go_wp2_with fail
          refine (HN.out _ br n _ r3 hw.tail).mono ?_
          intro e1 w4
          cases ho : o ts.tail with
          | err c r =>
            rintro ⟨rfl, k4⟩
            have HR2 := hid (show R = .err c r by rw [HR45.out, ho]; rfl)
            clear ho
            go_wp2_with fail
            refine ⟨rfl, ?_⟩
            rw [HR2.out]
            exact ⟨rfl, kw.trans' (k13.trans' k4)⟩
          | ok x r =>
            rintro ⟨v, rfl, hx, r4, k4⟩
            have HR2 := hid (show R = .ok (.mk 7 0 [45] [x] (headPlace ts)) r by rw [HR45.out, ho]; rfl)
            clear ho
            have hplace : placeOf n ts = headPlace ts := by
              obtain ⟨t, q, rfl, _⟩ := isSign_cons H45.out
              rfl
            have HPL := hid hplace
            clear hplace
            obtain ⟨op, num, text, ka, kn, kc, at_, rfl⟩ := hx.form
            have B44 := (B43.keep k4 (by simp; omega)).alloc (.cells #[.int .i64 op, .int .i64 num, .string ⟨text.toArray⟩, .slice ka kn kc, .int .i64 at_] 100)
            have lw4 : w.heap.size + 2 ≤ w4.heap.size := by have h1 := k13.size; have h2 := k4.size; simp at h1; omega
            have lw4' : w.heap.size < w4.heap.size := by omega
            obtain ⟨z0, z1, z2, z3, z4, zf⟩ := (B43.keep k4 (by simp; omega)).five
            go_wp2_with fail
            obtain ⟨BF, KF⟩ := five_set (B43.keep k4 (by simp; omega)) (.int .i64 7) (.int .i64 0) (.string ⟨#[45]⟩) (.slice (some ⟨w4.heap.size, 0, none⟩) 1 1) (.int .i64 (placeOf n ts))
            have hsz : (((((w4.setCell ⟨w.heap.size, 0, none⟩ (.int .i64 7)).setCell ⟨w.heap.size, 1, none⟩ (.int .i64 0)).setCell ⟨w.heap.size, 2, none⟩ (.string ⟨#[45]⟩)).setCell ⟨w.heap.size, 3, none⟩ (.slice (some ⟨w4.heap.size, 0, none⟩) 1 1)).setCell ⟨w.heap.size, 4, none⟩ (.int .i64 (placeOf n ts))).heap.size = w4.heap.size := by simp [World.setCell]
            generalize (((((w4.setCell ⟨w.heap.size, 0, none⟩ (.int .i64 7)).setCell ⟨w.heap.size, 1, none⟩ (.int .i64 0)).setCell ⟨w.heap.size, 2, none⟩ (.string ⟨#[45]⟩)).setCell ⟨w.heap.size, 3, none⟩ (.slice (some ⟨w4.heap.size, 0, none⟩) 1 1)).setCell ⟨w.heap.size, 4, none⟩ (.int .i64 (placeOf n ts))) = wS at BF KF hsz ⊢
            have BX := Blk.new wS 100 [.int .i64 op, .int .i64 num, .string ⟨text.toArray⟩, .slice ka kn kc, .int .i64 at_]
            rw [hsz] at BX
            obtain ⟨q0, q1, q2, q3, q4, _⟩ := (BF.alloc (.cells #[.int .i64 op, .int .i64 num, .string ⟨text.toArray⟩, .slice ka kn kc, .int .i64 at_] 100)).five
            refine bodyPost_ret (v := .agg #[.int .i64 7, .int .i64 0, .string ⟨#[45]⟩, .slice (some ⟨w4.heap.size, 0, none⟩) 1 1, .int .i64 (placeOf n ts)]) (by simp only [results, Tryz.results97]; simp [go_sem, q0, q1, q2, q3, q4]) rfl ?_
            rw [HR2.out, ← HPL.out]
            have lw3 : w.heap.size + 2 ≤ w3.heap.size := by have h1 := k13.size; simp at h1; omega
            refine ⟨_, rfl, ?_, (r4.keep KF (by simp; omega)).ext ((Ext.refl _).alloc _), ((kw.trans' (k13.trans' k4)).trans KF (by simp)).alloc _⟩
            have hxF := (((hx.carry KF (by simp; omega) (Nat.le_refl _)).ext ((Ext.refl _).alloc (.cells #[.int .i64 op, .int .i64 num, .string ⟨text.toArray⟩, .slice ka kn kc, .int .i64 at_] 100)) (show w.heap.size ≤ w3.heap.size by omega))).is
            exact encX.mk (kids := [x]) (text := [45]) (row_one hxF BX (by omega))
        · have HN := hid ho
          have HR2 := hid (show R = .err 42 ts.tail by rw [HR45.out, ho]; rfl)
          clear ho
          go_wp2_with fail
          (with_reducible refine (deep_no1 _ br n d _ r3 hd32).mono ?_)
          rintro e1 w' ⟨rfl, rfl⟩
          go_wp2_with fail
          refine ⟨rfl, ?_⟩
          rw [HR2.out]
          exact ⟨rfl, kw.trans' k13⟩
      | false =>
        have H45 := hid h1
        clear h1
        go_wp2_with fail
        (with_reducible refine (take_no _ br n ts r2 _ H45.out).mono ?_)
        rintro e1 w3 ⟨rfl, r3, k3⟩
        go_wp2_with fail
        go_roundw
        case rel => exact ⟨1, rfl, r3, k2.trans' k3, .inr (.inl ⟨rfl, H45.out⟩)⟩
        case measure => simp [intOf]
    · have H45 := hid h45
      clear h45
      cases h1 : isSign [33] ts with
      | true =>
        have H33 := hid h1
        replace HR33 := hid (HR33.out H45.out h1)
        clear h1
        go_wp2_with fail
        (with_reducible refine (take_yes _ br n ts r2 _ H33.out).mono ?_)
        rintro e1 w3 ⟨rfl, r3, k3⟩
        have k13 := k2.trans' k3
        have B43 := B4.keep k13 (by simp; omega)
        rcases HO.out with ⟨hd32, hone⟩ | ⟨hd32, ho⟩
        · have HN := hid hone
          clear hone
          go_wp2_with fail
          (with_reducible refine (deep_ok1 _ br d hd32).mono ?_)
          rintro e1 w' ⟨rfl, rfl⟩
          go_wp2_with fail
          refine (HN.out _ br n _ r3 hw.tail).mono ?_
          intro e1 w4
          cases ho : o ts.tail with
          | err c r =>
            rintro ⟨rfl, k4⟩
            have HR2 := hid (show R = .err c r by rw [HR33.out, ho]; rfl)
            clear ho
            go_wp2_with fail
            refine ⟨rfl, ?_⟩
            rw [HR2.out]
            exact ⟨rfl, kw.trans' (k13.trans' k4)⟩
          | ok x r =>
            rintro ⟨v, rfl, hx, r4, k4⟩
            have HR2 := hid (show R = .ok (.mk 7 0 [33] [x] (headPlace ts)) r by rw [HR33.out, ho]; rfl)
            clear ho
            have hplace : placeOf n ts = headPlace ts := by
              obtain ⟨t, q, rfl, _⟩ := isSign_cons H33.out
              rfl
            have HPL := hid hplace
            clear hplace
            obtain ⟨op, num, text, ka, kn, kc, at_, rfl⟩ := hx.form
            have B44 := (B43.keep k4 (by simp; omega)).alloc (.cells #[.int .i64 op, .int .i64 num, .string ⟨text.toArray⟩, .slice ka kn kc, .int .i64 at_] 100)
            have lw4 : w.heap.size + 2 ≤ w4.heap.size := by have h1 := k13.size; have h2 := k4.size; simp at h1; omega
            have lw4' : w.heap.size < w4.heap.size := by omega
            obtain ⟨z0, z1, z2, z3, z4, zf⟩ := (B43.keep k4 (by simp; omega)).five
            go_wp2_with fail
            obtain ⟨BF, KF⟩ := five_set (B43.keep k4 (by simp; omega)) (.int .i64 7) (.int .i64 0) (.string ⟨#[33]⟩) (.slice (some ⟨w4.heap.size, 0, none⟩) 1 1) (.int .i64 (placeOf n ts))
            have hsz : (((((w4.setCell ⟨w.heap.size, 0, none⟩ (.int .i64 7)).setCell ⟨w.heap.size, 1, none⟩ (.int .i64 0)).setCell ⟨w.heap.size, 2, none⟩ (.string ⟨#[33]⟩)).setCell ⟨w.heap.size, 3, none⟩ (.slice (some ⟨w4.heap.size, 0, none⟩) 1 1)).setCell ⟨w.heap.size, 4, none⟩ (.int .i64 (placeOf n ts))).heap.size = w4.heap.size := by simp [World.setCell]
            generalize (((((w4.setCell ⟨w.heap.size, 0, none⟩ (.int .i64 7)).setCell ⟨w.heap.size, 1, none⟩ (.int .i64 0)).setCell ⟨w.heap.size, 2, none⟩ (.string ⟨#[33]⟩)).setCell ⟨w.heap.size, 3, none⟩ (.slice (some ⟨w4.heap.size, 0, none⟩) 1 1)).setCell ⟨w.heap.size, 4, none⟩ (.int .i64 (placeOf n ts))) = wS at BF KF hsz ⊢
            have BX := Blk.new wS 100 [.int .i64 op, .int .i64 num, .string ⟨text.toArray⟩, .slice ka kn kc, .int .i64 at_]
            rw [hsz] at BX
            obtain ⟨q0, q1, q2, q3, q4, _⟩ := (BF.alloc (.cells #[.int .i64 op, .int .i64 num, .string ⟨text.toArray⟩, .slice ka kn kc, .int .i64 at_] 100)).five
            refine bodyPost_ret (v := .agg #[.int .i64 7, .int .i64 0, .string ⟨#[33]⟩, .slice (some ⟨w4.heap.size, 0, none⟩) 1 1, .int .i64 (placeOf n ts)]) (by simp only [results, Tryz.results97]; simp [go_sem, q0, q1, q2, q3, q4]) rfl ?_
            rw [HR2.out, ← HPL.out]
            have lw3 : w.heap.size + 2 ≤ w3.heap.size := by have h1 := k13.size; simp at h1; omega
            refine ⟨_, rfl, ?_, (r4.keep KF (by simp; omega)).ext ((Ext.refl _).alloc _), ((kw.trans' (k13.trans' k4)).trans KF (by simp)).alloc _⟩
            have hxF := (((hx.carry KF (by simp; omega) (Nat.le_refl _)).ext ((Ext.refl _).alloc (.cells #[.int .i64 op, .int .i64 num, .string ⟨text.toArray⟩, .slice ka kn kc, .int .i64 at_] 100)) (show w.heap.size ≤ w3.heap.size by omega))).is
            exact encX.mk (kids := [x]) (text := [33]) (row_one hxF BX (by omega))
        · have HN := hid ho
          have HR2 := hid (show R = .err 42 ts.tail by rw [HR33.out, ho]; rfl)
          clear ho
          go_wp2_with fail
          (with_reducible refine (deep_no1 _ br n d _ r3 hd32).mono ?_)
          rintro e1 w' ⟨rfl, rfl⟩
          go_wp2_with fail
          refine ⟨rfl, ?_⟩
          rw [HR2.out]
          exact ⟨rfl, kw.trans' k13⟩
      | false =>
        have H33 := hid h1
        clear h1
        go_wp2_with fail
        (with_reducible refine (take_no _ br n ts r2 _ H33.out).mono ?_)
        rintro e1 w3 ⟨rfl, r3, k3⟩
        go_wp2_with fail
        go_roundw
        case rel => exact ⟨2, rfl, r3, k2.trans' k3, .inr (.inr ⟨rfl, H45.out, H33.out⟩)⟩
        case measure => simp [intOf]
    · have HR2 := hid (HR0.out h45 h33)
      clear h45 h33
      go_wp2_with fail
      refine (HP.out _ br n ts r2 hw).mono ?_
      intro e1 w3
      cases hp : primaryS e ts with
      | err c r =>
        rintro ⟨rfl, k3⟩
        have HR3 := hid (show R = .err c r by rw [HR2.out, hp])
        clear hp
        go_wp2_with fail
        refine ⟨rfl, ?_⟩
        rw [HR3.out]
        exact ⟨rfl, kw.trans' (k2.trans' k3)⟩
      | ok x r =>
        rintro ⟨v, rfl, hx, r3, k3⟩
        have HR3 := hid (show R = .ok x r by rw [HR2.out, hp])
        clear hp
        obtain ⟨op, num, text, ka, kn, kc, at_, rfl⟩ := hx.form
        have B43 := (B4.keep k2 (by simp; omega)).keep k3 (by simp; omega)
        obtain ⟨z0, z1, z2, z3, z4, zf⟩ := B43.five
        have lw2 : w.heap.size + 2 ≤ wr.heap.size := by have h1 := k2.size; simp at h1; omega
        have lw3 : wr.heap.size ≤ w3.heap.size := k3.size
        go_wp2_with fail
        obtain ⟨BF, KF⟩ := five_set B43 (.int .i64 op) (.int .i64 num) (.string ⟨text.toArray⟩) (.slice ka kn kc) (.int .i64 at_)
        generalize (((((w3.setCell ⟨w.heap.size, 0, none⟩ (.int .i64 op)).setCell ⟨w.heap.size, 1, none⟩ (.int .i64 num)).setCell ⟨w.heap.size, 2, none⟩ (.string ⟨text.toArray⟩)).setCell ⟨w.heap.size, 3, none⟩ (.slice ka kn kc)).setCell ⟨w.heap.size, 4, none⟩ (.int .i64 at_)) = wF at BF KF ⊢
        obtain ⟨q0, q1, q2, q3, q4, _⟩ := BF.five
        refine bodyPost_ret (v := .agg #[.int .i64 op, .int .i64 num, .string ⟨text.toArray⟩, .slice ka kn kc, .int .i64 at_]) (by simp [results, Tryz.results97, go_sem, q0, q1, q2, q3, q4]) rfl ?_
        rw [HR3.out]
        refine ⟨_, rfl, ?_, (r3.keep KF (by simp; omega)), (kw.trans' (k2.trans' k3)).trans KF (by simp)⟩
        exact hx.carry KF (by simp; omega) (by omega)
end Go.Proofs.YtaehlakefgnfmaaGreatDoor
