/-
  DERIVED. THE WALKS of the expressions' functions.
-/
import Derived.Test.YtaehlakefgnfmaaDoorKid
import Derived.Test.YtaehlakefgnfmaaDoorList
namespace Go.Proofs.YtaehlakefgnfmaaDoor
set_option linter.unusedSimpArgs false
set_option linter.unusedVariables false
set_option maxRecDepth 100000
open Go.RowKit

theorem encX.carry {B B' : Nat} {w w' : World} {x : Ex} {v : Value} {S : List Nat} (h : encX B w x v) (k : Keep S w w') (hS : ∀ b ∈ S, b < B ∨ w.heap.size ≤ b) (hB : B' ≤ B) : encX B' w' x v := by
  obtain ⟨vs, h1, h2⟩ := h
  exact ⟨vs, h1, ExIs.carry (Carry.keep k (fun b hb hl hf => by have := hS b hb; omega) fun b _ hf => by omega) _ _ h2⟩
theorem encX.ext {B B' : Nat} {w w' : World} {x : Ex} {v : Value} (h : encX B w x v) (e : Ext w w') (hB : B' ≤ B) : encX B' w' x v := h.carry (S := []) (.ofExt e) (by simp) hB
/-- How such a value looks. -/
theorem encX.form {B : Nat} {w : World} {x : Ex} {v : Value} (h : encX B w x v) : ∃ (op num : Nat) (text : List UInt8) (ka : Option Addr) (kn kc at_ : Nat), v = .agg #[.int .i64 op, .int .i64 num, .string ⟨text.toArray⟩, .slice ka kn kc, .int .i64 at_] := by
  obtain ⟨vs, rfl, h2⟩ := h
  cases x
  simp only [ExIs] at h2
  obtain ⟨kv, rfl, ka, kc, kks, rfl, _⟩ := h2
  exact ⟨_, _, _, _, _, _, _, rfl⟩

/-- Five cells, one by one. -/
theorem Blk.five {w : World} {b : Nat} {t : TypeId} {v0 v1 v2 v3 v4 : Value} (h : Blk w b t [v0, v1, v2, v3, v4]) :
    w.cell? ⟨b, 0, none⟩ = some v0 ∧ w.cell? ⟨b, 1, none⟩ = some v1 ∧ w.cell? ⟨b, 2, none⟩ = some v2 ∧ w.cell? ⟨b, 3, none⟩ = some v3 ∧ w.cell? ⟨b, 4, none⟩ = some v4 ∧ (∀ i, w.frozen? ⟨b, i, none⟩ = false) :=
  ⟨h.cell 0, h.cell 1, h.cell 2, h.cell 3, h.cell 4, h.frozen⟩
theorem Blk.six {w : World} {b : Nat} {t : TypeId} {v0 v1 v2 v3 v4 v5 : Value} (h : Blk w b t [v0, v1, v2, v3, v4, v5]) :
    w.cell? ⟨b, 0, none⟩ = some v0 ∧ w.cell? ⟨b, 1, none⟩ = some v1 ∧ w.cell? ⟨b, 2, none⟩ = some v2 ∧ w.cell? ⟨b, 3, none⟩ = some v3 ∧ w.cell? ⟨b, 4, none⟩ = some v4 ∧ w.cell? ⟨b, 5, none⟩ = some v5 ∧ (∀ i, w.frozen? ⟨b, i, none⟩ = false) :=
  ⟨h.cell 0, h.cell 1, h.cell 2, h.cell 3, h.cell 4, h.cell 5, h.frozen⟩

/-- Five stores into a block of five cells. -/
theorem five_set {w : World} {b : Nat} {t : TypeId} {z0 z1 z2 z3 z4 : Value} (h : Blk w b t [z0, z1, z2, z3, z4]) (v0 v1 v2 v3 v4 : Value) :
    Blk (((((w.setCell ⟨b, 0, none⟩ v0).setCell ⟨b, 1, none⟩ v1).setCell ⟨b, 2, none⟩ v2).setCell ⟨b, 3, none⟩ v3).setCell ⟨b, 4, none⟩ v4) b t [v0, v1, v2, v3, v4] ∧
    Keep [b] w (((((w.setCell ⟨b, 0, none⟩ v0).setCell ⟨b, 1, none⟩ v1).setCell ⟨b, 2, none⟩ v2).setCell ⟨b, 3, none⟩ v3).setCell ⟨b, 4, none⟩ v4) :=
  ⟨((((h.set 0 v0).set 1 v1).set 2 v2).set 3 v3).set 4 v4, (((((Keep.refl [b] w).setCell (by simp) v0).setCell (by simp) v1).setCell (by simp) v2).setCell (by simp) v3).setCell (by simp) v4⟩
theorem must_t {α : Type} {s : List UInt8} {ts : List Tok} {k : List Tok → Res α} (h : isSign s ts = true) : must s ts k = k ts.tail := by unfold must; rw [if_pos h]
theorem must_f {α : Type} {s : List UInt8} {ts : List Tok} {k : List Tok → Res α} (h : isSign s ts = false) : must s ts k = .err 41 ts := by unfold must; rw [if_neg (by rw [h]; decide)]
theorem name_t {α : Type} {ts : List Tok} {k : List UInt8 → List Tok → Res α} (h : isName ts = true) : name ts k = k (headText ts) ts.tail := by unfold name; rw [if_pos h]
theorem name_f {α : Type} {ts : List Tok} {k : List UInt8 → List Tok → Res α} (h : isName ts = false) : name ts k = .err 41 ts := by unfold name; rw [if_neg (by rw [h]; decide)]
theorem mustY (w : World) (br n : Nat) (ts : List Tok) (hr : RdAt w br n ts) (l : List UInt8) (h : isSign l ts = true) (b : Nat) (hb : w.heap.size = b) :
    Calls Tryd.prog 26 #[.pointer (some ⟨br, 0, none⟩), .slice (some ⟨b, 0, none⟩) 1 1] (w.alloc (.cells #[.string ⟨l.toArray⟩] 9)) fun e w' => e = .returned (.tuple #[]) ∧ RdAt w' br n ts.tail ∧ Keep [br] w w' := by
  subst hb; exact musty w br n ts hr l h
theorem mustN (w : World) (br n : Nat) (ts : List Tok) (hr : RdAt w br n ts) (l : List UInt8) (h : isSign l ts = false) (b : Nat) (hb : w.heap.size = b) :
    Calls Tryd.prog 26 #[.pointer (some ⟨br, 0, none⟩), .slice (some ⟨b, 0, none⟩) 1 1] (w.alloc (.cells #[.string ⟨l.toArray⟩] 9)) fun e w' => e = .panicked [faultV 41 (placeOf n ts)] ∧ Keep [br] w w' := by
  subst hb; exact mustn w br n ts hr l h

set_option maxHeartbeats 1000000 in
theorem inner_any (d : Nat) (hd : d ≤ 100) (p : Rd Ex) (hC : ExprC 64 (d + 1) p) (hi : Inv Ex.size WFx p) : ExprC 86 d (innerS p) := by
  intro w br n ts hr hw
  have lr := hr.lt
  have HC := hid hC
  clear hC
  have HI := hid hi
  clear hi
  have r0 := hr.ext ((Ext.refl _).alloc (.cells #[.int .i64 0, .int .i64 0, .string ⟨#[]⟩, .slice none 0 0, .int .i64 0] 39))
  cases h1 : isSign [40] ts with
  | false =>
    have HR := hid (show innerS p ts = .err 41 ts by simp only [innerS, must_f h1])
    have H1 := hid h1
    clear h1
    go_enter Tryd.func86, Tryd.ntmps86
    go_wp2_with fail
    (with_reducible refine (mustN _ br n ts r0 _ H1.out _ (by simp)).mono ?_)
    rintro e w1 ⟨rfl, k1⟩
    go_wp2_with fail
    refine ⟨rfl, ?_⟩
    rw [HR.out]
    exact ⟨rfl, ((Keep.refl _ _).alloc _).trans' k1⟩
  | true =>
    have hwt := hw.tail
    have HF := hid (HI.out _ hwt)
    have H1 := hid h1
    cases h2 : p ts.tail with
    | err c r =>
      have HR := hid (show innerS p ts = .err c r by simp only [innerS, must_t h1, h2, Res.bind])
      have H2 := hid h2
      clear h1 h2
      go_enter Tryd.func86, Tryd.ntmps86
      go_wp2_with fail
      (with_reducible refine (mustY _ br n ts r0 _ H1.out _ (by simp)).mono ?_)
      rintro e w1 ⟨rfl, r1, k1⟩
      go_wp2_with fail
      refine (HC.out _ br n _ r1 hwt).mono ?_
      rw [H2.out]
      rintro e w2 ⟨rfl, k2⟩
      go_wp2_with fail
      refine ⟨rfl, ?_⟩
      rw [HR.out]
      exact ⟨rfl, (((Keep.refl _ _).alloc _).trans' k1).trans' k2⟩
    | ok x r =>
      have H2 := hid h2
      have hF := HF.out
      rw [h2] at hF
      cases h3 : isSign [41] r with
      | false =>
        have HR := hid (show innerS p ts = .err 41 r by simp only [innerS, must_t h1, h2, Res.bind, must_f h3])
        have H3 := hid h3
        clear h1 h2 h3
        go_enter Tryd.func86, Tryd.ntmps86
        go_wp2_with fail
        (with_reducible refine (mustY _ br n ts r0 _ H1.out _ (by simp)).mono ?_)
        rintro e w1 ⟨rfl, r1, k1⟩
        go_wp2_with fail
        refine (HC.out _ br n _ r1 hwt).mono ?_
        rw [H2.out]
        rintro e w2 ⟨v, rfl, hx, r2, k2⟩
        obtain ⟨op, num, text, ka, kn, kc, at_, rfl⟩ := hx.form
        go_wp2_with fail
        (with_reducible refine (mustN _ br n r (r2.ext ((Ext.refl _).alloc _)) _ H3.out _ (by simp)).mono ?_)
        rintro e w3 ⟨rfl, k3⟩
        go_wp2_with fail
        refine ⟨rfl, ?_⟩
        rw [HR.out]
        exact ⟨rfl, (((((Keep.refl _ _).alloc _).trans' k1).trans' k2).alloc _).trans' k3⟩
      | true =>
        have HR := hid (show innerS p ts = .ok x r.tail by simp only [innerS, must_t h1, h2, Res.bind, must_t h3])
        have H3 := hid h3
        clear h1 h2 h3
        go_enter Tryd.func86, Tryd.ntmps86
        go_wp2_with fail
        (with_reducible refine (mustY _ br n ts r0 _ H1.out _ (by simp)).mono ?_)
        rintro e w1 ⟨rfl, r1, k1⟩
        go_wp2_with fail
        refine (HC.out _ br n _ r1 hwt).mono ?_
        rw [H2.out]
        rintro e w2 ⟨v, rfl, hx, r2, k2⟩
        obtain ⟨op, num, text, ka, kn, kc, at_, rfl⟩ := hx.form
        go_wp2_with fail
        (with_reducible refine (mustY _ br n r (r2.ext ((Ext.refl _).alloc _)) _ H3.out _ (by simp)).mono ?_)
        rintro e w3 ⟨rfl, r3, k3⟩
        have kw := ((((Keep.refl [br] w).alloc (.cells #[.int .i64 0, .int .i64 0, .string ⟨#[]⟩, .slice none 0 0, .int .i64 0] 39)).trans' k1).trans' k2)
        have l2 := r2.lt
        have lw : w.heap.size + 1 ≤ w1.heap.size := by have := k1.size; simp at this; omega
        have lw2 : w1.heap.size ≤ w2.heap.size := k2.size
        have lw3 : w2.heap.size + 1 ≤ w3.heap.size := by have := k3.size; simp at this; omega
        have B4 := ((((Blk.new w 39 [.int .i64 0, .int .i64 0, .string ⟨#[]⟩, .slice none 0 0, .int .i64 0]).keep k1 (by simp; omega)).keep k2 (by simp; omega)).alloc _).keep k3 (by simp; omega)
        have B5 := (Blk.new w2 39 [.int .i64 op, .int .i64 num, .string ⟨text.toArray⟩, .slice ka kn kc, .int .i64 at_]).keep k3 (by simp; omega)
        obtain ⟨z0, z1, z2, z3, z4, zf⟩ := B4.five
        obtain ⟨y0, y1, y2, y3, y4, yf⟩ := B5.five
        go_wp2_with fail
        obtain ⟨BF, KF⟩ := five_set B4 (.int .i64 op) (.int .i64 num) (.string ⟨text.toArray⟩) (.slice ka kn kc) (.int .i64 at_)
        generalize (((((w3.setCell ⟨w.heap.size, 0, none⟩ (.int .i64 op)).setCell ⟨w.heap.size, 1, none⟩ (.int .i64 num)).setCell ⟨w.heap.size, 2, none⟩ (.string ⟨text.toArray⟩)).setCell ⟨w.heap.size, 3, none⟩ (.slice ka kn kc)).setCell ⟨w.heap.size, 4, none⟩ (.int .i64 at_)) = wF at BF KF ⊢
        obtain ⟨q0, q1, q2, q3, q4, _⟩ := BF.five
        refine bodyPost_ret (v := .agg #[.int .i64 op, .int .i64 num, .string ⟨text.toArray⟩, .slice ka kn kc, .int .i64 at_]) (by simp [results, Tryd.results86, go_sem, q0, q1, q2, q3, q4]) rfl ?_
        rw [HR.out]
        refine ⟨_, rfl, ?_, (r3.keep KF (by simp; omega)), ((((((Keep.refl [br] w).alloc _).trans' k1).trans' k2).alloc _).trans' k3).trans KF (by simp)⟩
        exact (((hx.ext ((Ext.refl _).alloc _) (Nat.le_refl _)).carry k3 (by simp; omega) (Nat.le_refl _)).carry KF (by simp; omega) (by omega))
end Go.Proofs.YtaehlakefgnfmaaDoor
