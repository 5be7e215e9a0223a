/-
  DERIVED. THE WALK of primary (printed by gen_prim.py).
-/
import Derived.Test.YtaehlakefgnfmaaGreatDoorExpr
namespace Go.Proofs.YtaehlakefgnfmaaGreatDoor
set_option linter.unusedSimpArgs false
set_option linter.unusedVariables false
set_option maxRecDepth 100000
open Go.RowKit

/-- Where primary stands: its four blocks, the reader, what it has kept. -/
structure PrAt (w wr : World) (br n d : Nat) (ts : List Tok) (vs : List Value) : Prop where
  lr : br < w.heap.size
  b2 : Blk wr w.heap.size 44 [.pointer (some ⟨br, 0, none⟩)]
  b3 : Blk wr (w.heap.size + 1) 3 [.int .i64 d]
  b4 : Blk wr (w.heap.size + 1 + 1) 100 [.int .i64 0, .int .i64 0, .string ⟨#[]⟩, .slice none 0 0, .int .i64 0]
  b5 : Blk wr (w.heap.size + 1 + 1 + 1) 100 vs
  rd : RdAt wr br n ts
  keep : Keep [br] w wr
theorem PrAt.move {w wr w' : World} {br n d : Nat} {ts ts' : List Tok} {vs : List Value} (h : PrAt w wr br n d ts vs) (r : RdAt w' br n ts') (k : Keep [br] wr w') : PrAt w w' br n d ts' vs := by
  have := h.lr
  exact ⟨h.lr, h.b2.keep k (by simp; omega), h.b3.keep k (by simp; omega), h.b4.keep k (by simp; omega), h.b5.keep k (by simp; omega), r, h.keep.trans' k⟩
theorem PrAt.ext {w wr w' : World} {br n d : Nat} {ts : List Tok} {vs : List Value} (h : PrAt w wr br n d ts vs) (e : Ext wr w') : PrAt w w' br n d ts vs := h.move (h.rd.ext e) (.ofExt e)
theorem PrAt.alloc {w wr : World} {br n d : Nat} {ts : List Tok} {vs : List Value} (h : PrAt w wr br n d ts vs) (o : Obj) : PrAt w (wr.alloc o) br n d ts vs := h.ext ((Ext.refl _).alloc o)
theorem PrAt.size {w wr : World} {br n d : Nat} {ts : List Tok} {vs : List Value} (h : PrAt w wr br n d ts vs) : w.heap.size + 4 ≤ wr.heap.size := by have := h.b5.lt; omega
theorem PrAt.set {w wr : World} {br n d : Nat} {ts : List Tok} {vs : List Value} (h : PrAt w wr br n d ts vs) (i : Nat) (v : Value) : PrAt w (wr.setCell ⟨w.heap.size + 1 + 1 + 1, i, none⟩ v) br n d ts (vs.set i v) := by
  have := h.lr
  have k := Keep.set wr ⟨w.heap.size + 1 + 1 + 1, i, none⟩ v
  exact ⟨h.lr, h.b2.keep k (by simp; omega), h.b3.keep k (by simp), h.b4.keep k (by simp), h.b5.set i v, h.rd.keep k (by simp; omega), h.keep.setCell (.inr (show w.heap.size ≤ w.heap.size + 1 + 1 + 1 by omega)) v⟩
theorem PrAt.cells {w wr : World} {br n d : Nat} {ts : List Tok} {v0 v1 v2 v3 v4 : Value} (h : PrAt w wr br n d ts [v0, v1, v2, v3, v4]) :
    wr.cell? ⟨w.heap.size, 0, none⟩ = some (.pointer (some ⟨br, 0, none⟩)) ∧ wr.cell? ⟨w.heap.size + 1, 0, none⟩ = some (.int .i64 d) ∧
    (wr.cell? ⟨w.heap.size + 1 + 1 + 1, 0, none⟩ = some v0 ∧ wr.cell? ⟨w.heap.size + 1 + 1 + 1, 1, none⟩ = some v1 ∧ wr.cell? ⟨w.heap.size + 1 + 1 + 1, 2, none⟩ = some v2 ∧ wr.cell? ⟨w.heap.size + 1 + 1 + 1, 3, none⟩ = some v3 ∧ wr.cell? ⟨w.heap.size + 1 + 1 + 1, 4, none⟩ = some v4 ∧ (∀ i, wr.frozen? ⟨w.heap.size + 1 + 1 + 1, i, none⟩ = false)) ∧
    (wr.cell? ⟨w.heap.size + 1 + 1, 0, none⟩ = some (.int .i64 0) ∧ wr.cell? ⟨w.heap.size + 1 + 1, 1, none⟩ = some (.int .i64 0) ∧ wr.cell? ⟨w.heap.size + 1 + 1, 2, none⟩ = some (.string ⟨#[]⟩) ∧ wr.cell? ⟨w.heap.size + 1 + 1, 3, none⟩ = some (.slice none 0 0) ∧ wr.cell? ⟨w.heap.size + 1 + 1, 4, none⟩ = some (.int .i64 0) ∧ (∀ i, wr.frozen? ⟨w.heap.size + 1 + 1, i, none⟩ = false)) :=
  ⟨h.b2.cell 0, h.b3.cell 0, h.b5.five, h.b4.five⟩
/-- The result's five cells laid. -/
theorem PrAt.put {w wr : World} {br n d : Nat} {ts : List Tok} {vs : List Value} (h : PrAt w wr br n d ts vs) (v0 v1 v2 v3 v4 : Value) :
    ((∃ wF : World, wF = ((((wr.setCell ⟨w.heap.size + 1 + 1, 0, none⟩ v0).setCell ⟨w.heap.size + 1 + 1, 1, none⟩ v1).setCell ⟨w.heap.size + 1 + 1, 2, none⟩ v2).setCell ⟨w.heap.size + 1 + 1, 3, none⟩ v3).setCell ⟨w.heap.size + 1 + 1, 4, none⟩ v4 ∧
      Blk wF (w.heap.size + 1 + 1) 100 [v0, v1, v2, v3, v4] ∧ RdAt wF br n ts ∧ Keep [br] w wF ∧ Keep [w.heap.size + 1 + 1] wr wF)) := by
  have := h.lr
  obtain ⟨BF, KF⟩ := five_set h.b4 v0 v1 v2 v3 v4
  exact ⟨_, rfl, BF, h.rd.keep KF (by simp; omega), h.keep.trans KF (by simp; omega), KF⟩
theorem encX.leaf {w : World} {B op num at_ : Nat} {text : List UInt8} : encX B w (.mk op num text [] at_) (.agg #[.int .i64 op, .int .i64 num, .string ⟨text.toArray⟩, .slice none 0 0, .int .i64 at_]) := encX.mk (kids := []) (row_none _ _)
theorem bind_t {α β : Type} {R : Res α} {a : α} {r : List Tok} {k : α → List Tok → Res β} (h : R = .ok a r) : R.bind k = k a r := by rw [h]; rfl
theorem bind_f {α β : Type} {R : Res α} {e : Nat} {r : List Tok} {k : α → List Tok → Res β} (h : R = .err e r) : R.bind k = .err e r := by rw [h]; rfl

theorem prAt_begin {w : World} {br n d : Nat} {ts : List Tok} (hr : RdAt w br n ts) (p : Nat) :
    PrAt w ((((w.alloc (.cells #[.pointer (some ⟨br, 0, none⟩)] 44)).alloc (.cells #[.int .i64 d] 3)).alloc (.cells #[.int .i64 0, .int .i64 0, .string ⟨#[]⟩, .slice none 0 0, .int .i64 0] 100)).alloc (.cells #[.int .i64 0, .int .i64 0, .string ⟨#[]⟩, .slice none 0 0, .int .i64 p] 100)) br n d ts [.int .i64 0, .int .i64 0, .string ⟨#[]⟩, .slice none 0 0, .int .i64 p] := by
  have lr := hr.lt
  have b2 := (((Blk.new w 44 [.pointer (some ⟨br, 0, none⟩)]).alloc (.cells #[.int .i64 d] 3)).alloc (.cells #[.int .i64 0, .int .i64 0, .string ⟨#[]⟩, .slice none 0 0, .int .i64 0] 100)).alloc (.cells #[.int .i64 0, .int .i64 0, .string ⟨#[]⟩, .slice none 0 0, .int .i64 p] 100)
  have b3 := ((Blk.new (w.alloc (.cells #[.pointer (some ⟨br, 0, none⟩)] 44)) 3 [.int .i64 d]).alloc (.cells #[.int .i64 0, .int .i64 0, .string ⟨#[]⟩, .slice none 0 0, .int .i64 0] 100)).alloc (.cells #[.int .i64 0, .int .i64 0, .string ⟨#[]⟩, .slice none 0 0, .int .i64 p] 100)
  have b4 := (Blk.new ((w.alloc (.cells #[.pointer (some ⟨br, 0, none⟩)] 44)).alloc (.cells #[.int .i64 d] 3)) 100 [.int .i64 0, .int .i64 0, .string ⟨#[]⟩, .slice none 0 0, .int .i64 0]).alloc (.cells #[.int .i64 0, .int .i64 0, .string ⟨#[]⟩, .slice none 0 0, .int .i64 p] 100)
  have b5 := Blk.new (((w.alloc (.cells #[.pointer (some ⟨br, 0, none⟩)] 44)).alloc (.cells #[.int .i64 d] 3)).alloc (.cells #[.int .i64 0, .int .i64 0, .string ⟨#[]⟩, .slice none 0 0, .int .i64 0] 100)) 100 [.int .i64 0, .int .i64 0, .string ⟨#[]⟩, .slice none 0 0, .int .i64 p]
  have e4 : Ext w ((((w.alloc (.cells #[.pointer (some ⟨br, 0, none⟩)] 44)).alloc (.cells #[.int .i64 d] 3)).alloc (.cells #[.int .i64 0, .int .i64 0, .string ⟨#[]⟩, .slice none 0 0, .int .i64 0] 100)).alloc (.cells #[.int .i64 0, .int .i64 0, .string ⟨#[]⟩, .slice none 0 0, .int .i64 p] 100)) := ((((Ext.refl w).alloc _).alloc _).alloc _).alloc _
  simp only [World.size_alloc] at b2 b3 b4 b5
  exact ⟨lr, b2, b3, b4, b5, hr.ext e4, .ofExt e4⟩

set_option maxHeartbeats 4000000 in
theorem prim_num (d : Nat) (hd : d ≤ 100) (e : Rd Ex) (w : World) (br n : Nat) (t : Tok) (r : List Tok) (hr : RdAt w br n (t :: r)) (hk : t.kind = 2) :
    Calls Tryz.prog 104 #[.pointer (some ⟨br, 0, none⟩), .int .i64 d] w (Ans w br n (encX w.heap.size) (.ok (.mk 1 t.num [] [] t.place) r)) := by
  have P0 := prAt_begin (d := d) hr t.place
  have lr := hr.lt
  go_enter Tryz.func104, Tryz.ntmps104
  go_wp2_with fail
  (with_reducible refine (place_any _ br n (t :: r) (((hr.ext ((Ext.refl _).alloc _)).ext ((Ext.refl _).alloc _)).ext ((Ext.refl _).alloc _))).mono ?_)
  rintro e1 w' ⟨rfl, rfl⟩
  rw [show placeOf n (t :: r) = t.place from rfl]
  obtain ⟨b, off, cap, hne, c0, c1, fz, d0, d1, d2, d3, hcap, hmax, _, _⟩ := P0.rd.cons
  have hl0 : ((r.length : Int) + 1 > 0) := by omega
  have hl1 : ¬ ((r.length : Int) + 1 ≤ 0) := by omega
  have hk2 : ((t.kind : Int) == 2) = true := by rw [hk]; rfl
  have HK := hid (show Calls Tryz.prog 56 #[.pointer (some ⟨br, 0, none⟩), .int .i64 2] _ _ by have := kind_yes _ br n t r (P0.alloc (.cells #[.int .i64 2, .string ⟨t.text.toArray⟩, .int .i64 t.num, .int .i64 t.place] 63)).rd; rw [hk] at this; exact this)
  have P0h := hid P0
  clear P0
  go_wp2_with fail
  refine HK.out.mono ?_
  rintro e1 w1 ⟨rfl, r1, k1⟩
  simp only [tokV]
  have P1 := (P0h.out.alloc _).move r1 k1
  obtain ⟨g2, g3, ⟨x0, x1, x2, x3, x4, xf⟩, ⟨y0, y1, y2, y3, y4, yf⟩⟩ := P1.cells
  have hf := Tryz.tokNum
  go_wp2_with fail
  obtain ⟨wF, hwF, BF, rF, kF, KF⟩ := ((P1.set 0 (.int .i64 1)).set 1 (.int .i64 t.num)).put (.int .i64 1) (.int .i64 t.num) (.string ⟨#[]⟩) (.slice none 0 0) (.int .i64 t.place)
  rw [← hwF]
  obtain ⟨q0, q1, q2, q3, q4, _⟩ := BF.five
  exact bodyPost_ret (v := .agg #[.int .i64 1, .int .i64 t.num, .string ⟨#[]⟩, .slice none 0 0, .int .i64 t.place]) (by simp [results, Tryz.results104, go_sem, q0, q1, q2, q3, q4]) rfl ⟨_, rfl, encX.leaf (text := []), rF, kF⟩

set_option maxHeartbeats 4000000 in
theorem prim_text (d : Nat) (hd : d ≤ 100) (w : World) (br n : Nat) (t : Tok) (r : List Tok) (hr : RdAt w br n (t :: r)) (hk : t.kind = 3) :
    Calls Tryz.prog 104 #[.pointer (some ⟨br, 0, none⟩), .int .i64 d] w (Ans w br n (encX w.heap.size) (.ok (.mk 3 0 t.text [] t.place) r)) := by
  have P0 := prAt_begin (d := d) hr t.place
  have lr := hr.lt
  go_enter Tryz.func104, Tryz.ntmps104
  go_wp2_with fail
  (with_reducible refine (place_any _ br n (t :: r) (((hr.ext ((Ext.refl _).alloc _)).ext ((Ext.refl _).alloc _)).ext ((Ext.refl _).alloc _))).mono ?_)
  rintro e1 w' ⟨rfl, rfl⟩
  rw [show placeOf n (t :: r) = t.place from rfl]
  obtain ⟨b, off, cap, hne, c0, c1, fz, d0, d1, d2, d3, hcap, hmax, _, _⟩ := P0.rd.cons
  have hl0 : ((r.length : Int) + 1 > 0) := by omega
  have hl1 : ¬ ((r.length : Int) + 1 ≤ 0) := by omega
  have P0h := hid (P0.alloc (.cells #[.int .i64 3, .string ⟨t.text.toArray⟩, .int .i64 t.num, .int .i64 t.place] 63))
  clear P0
  have HK := hid (show Calls Tryz.prog 56 #[.pointer (some ⟨br, 0, none⟩), .int .i64 3] _ _ by have := kind_yes _ br n t r P0h.out.rd; rw [hk] at this; exact this)
  go_wp2_with fail
  refine HK.out.mono ?_
  rintro e1 w1 ⟨rfl, r1, k1⟩
  simp only [tokV]
  have P1 := P0h.out.move r1 k1
  obtain ⟨g2, g3, ⟨x0, x1, x2, x3, x4, xf⟩, ⟨y0, y1, y2, y3, y4, yf⟩⟩ := P1.cells
  have hf := Tryz.tokText
  go_wp2_with fail
  obtain ⟨wF, hwF, BF, rF, kF, KF⟩ := (((P1.set 0 (.int .i64 3)).set 2 (.string ⟨t.text.toArray⟩))).put (.int .i64 3) (.int .i64 0) (.string ⟨t.text.toArray⟩) (.slice none 0 0) (.int .i64 t.place)
  rw [← hwF]
  obtain ⟨q0, q1, q2, q3, q4, _⟩ := BF.five
  exact bodyPost_ret (v := .agg #[.int .i64 3, .int .i64 0, .string ⟨t.text.toArray⟩, .slice none 0 0, .int .i64 t.place]) (by simp [results, Tryz.results104, go_sem, q0, q1, q2, q3, q4]) rfl ⟨_, rfl, encX.leaf, rF, kF⟩

set_option maxHeartbeats 4000000 in
theorem prim_name (d : Nat) (hd : d ≤ 100) (w : World) (br n : Nat) (t : Tok) (r : List Tok) (hr : RdAt w br n (t :: r)) (hk : t.kind = 1) (hp : isSign [40] r = false) :
    Calls Tryz.prog 104 #[.pointer (some ⟨br, 0, none⟩), .int .i64 d] w (Ans w br n (encX w.heap.size) (.ok (.mk 4 0 t.text [] t.place) r)) := by
  have HP := hid hp
  clear hp
  have P0 := prAt_begin (d := d) hr t.place
  have lr := hr.lt
  go_enter Tryz.func104, Tryz.ntmps104
  go_wp2_with fail
  (with_reducible refine (place_any _ br n (t :: r) (((hr.ext ((Ext.refl _).alloc _)).ext ((Ext.refl _).alloc _)).ext ((Ext.refl _).alloc _))).mono ?_)
  rintro e1 w' ⟨rfl, rfl⟩
  rw [show placeOf n (t :: r) = t.place from rfl]
  obtain ⟨b, off, cap, hne, c0, c1, fz, d0, d1, d2, d3, hcap, hmax, _, _⟩ := P0.rd.cons
  have hl0 : ((r.length : Int) + 1 > 0) := by omega
  have hl1 : ¬ ((r.length : Int) + 1 ≤ 0) := by omega
  have P0h := hid (P0.alloc (.cells #[.int .i64 1, .string ⟨t.text.toArray⟩, .int .i64 t.num, .int .i64 t.place] 63))
  clear P0
  have HK := hid (name_yes _ br n (t :: r) P0h.out.rd (by simp [isName, hk]))
  have HT := hid (show headText (t :: r) = t.text from rfl)
  go_wp2_with fail
  refine HK.out.mono ?_
  rintro e1 w1 ⟨rfl, r1, k1⟩
  rw [HT.out]
  have P1 := P0h.out.move r1 k1
  obtain ⟨g2, g3, ⟨x0, x1, x2, x3, x4, xf⟩, ⟨y0, y1, y2, y3, y4, yf⟩⟩ := P1.cells
  go_wp2_with fail
  have P2 : PrAt w _ br n d r [.int .i64 4, .int .i64 0, .string ⟨t.text.toArray⟩, .slice none 0 0, .int .i64 t.place] := (P1.set 0 (.int .i64 4)).set 2 (.string ⟨t.text.toArray⟩)
  clear g2 g3 x0 x1 x2 x3 x4 xf y0 y1 y2 y3 y4 yf
  (with_reducible refine (take_no _ br n r P2.rd _ HP.out).mono ?_)
  rintro e1 w2 ⟨rfl, r2, k2⟩
  have P3 := P2.move r2 k2
  obtain ⟨g2, g3, ⟨x0, x1, x2, x3, x4, xf⟩, ⟨y0, y1, y2, y3, y4, yf⟩⟩ := P3.cells
  go_wp2_with fail
  obtain ⟨wF, hwF, BF, rF, kF, KF⟩ := (P3).put (.int .i64 4) (.int .i64 0) (.string ⟨t.text.toArray⟩) (.slice none 0 0) (.int .i64 t.place)
  rw [← hwF]
  obtain ⟨q0, q1, q2, q3, q4, _⟩ := BF.five
  exact bodyPost_ret (v := .agg #[.int .i64 4, .int .i64 0, .string ⟨t.text.toArray⟩, .slice none 0 0, .int .i64 t.place]) (by simp [results, Tryz.results104, go_sem, q0, q1, q2, q3, q4]) rfl ⟨_, rfl, encX.leaf, rF, kF⟩

/-- What list keeps while primary's closure reads. -/
structure PrK (w : World) (br d : Nat) (wr : World) : Prop where
  b2 : Blk wr w.heap.size 44 [.pointer (some ⟨br, 0, none⟩)]
  b3 : Blk wr (w.heap.size + 1) 3 [.int .i64 d]
  b4 : Blk wr (w.heap.size + 1 + 1) 100 [.int .i64 0, .int .i64 0, .string ⟨#[]⟩, .slice none 0 0, .int .i64 0]
  keep : Keep [br] w wr
  size : w.heap.size + 4 ≤ wr.heap.size
def PrI (w : World) (c0 c1 c2 c4 : Value) (wr : World) (acc : List Ex) : Prop :=
  ∃ sv, Blk wr (w.heap.size + 1 + 1 + 1) 100 [c0, c1, c2, sv, c4] ∧ OwnX exEnc 100 wr (w.heap.size + 4) sv acc
theorem prim_reads (d : Nat) (hd : d ≤ 100) (p : Rd Ex) (hC : ExprC 80 (d + 1) p) (w : World) (br n : Nat) (lr : br < w.heap.size) (c0 c1 c2 c4 : Value) :
    Reads p 110 #[.pointer (some ⟨w.heap.size + 1 + 1 + 1, 0, none⟩), .pointer (some ⟨w.heap.size, 0, none⟩), .pointer (some ⟨w.heap.size + 1, 0, none⟩)] br n (PrK w br d) (PrI w c0 c1 c2 c4) where
  enters := fun _ => by simp [go_sem]
  keeps := fun h k => ⟨h.b2.keep k (by simp; omega), h.b3.keep k (by simp; omega), h.b4.keep k (by simp; omega), h.keep.trans' k, Nat.le_trans h.size k.size⟩
  stays := fun ⟨sv, h1, h2⟩ k => ⟨sv, h1.keep k (by simp; omega), h2.keep k (by simp; omega)⟩
  step := fun wr ts acc hr hw hK ⟨sv, h1, h2⟩ hacc => by
    have lown : ∀ k ∈ ownL sv, w.heap.size + 4 ≤ k := fun k hk => by
      obtain ⟨ks, hrow, _⟩ := h2
      exact (hrow.lt k (mem_ownL.1 hk)).1
    refine (kid_any d hd p hC wr br n ts (w.heap.size + 1 + 1 + 1) w.heap.size (w.heap.size + 1) (w.heap.size + 4) c0 c1 c2 c4 sv acc h1 hK.b2 hK.b3 h2 hr hw (by omega) (by omega) (by omega) (by omega) hK.size (by omega) (by omega) (by omega) (by omega)).mono ?_
    intro e w' h
    cases hp : p ts with
    | ok x r =>
      rw [hp] at h
      obtain ⟨rfl, h3, r3, k3⟩ := h
      have hno : ∀ b, br < b → b < w.heap.size + 1 + 1 + 1 → b ∉ [br, w.heap.size + 1 + 1 + 1] ++ ownL sv := by
        intro b g1 g2 hm
        simp only [List.mem_append, List.mem_cons, List.not_mem_nil, or_false] at hm
        rcases hm with (hm | hm) | hm
        · omega
        · omega
        · have := lown b hm; omega
      refine ⟨rfl, h3, r3, hK.b2.keep k3 (hno _ (by omega) (by omega)), hK.b3.keep k3 (hno _ (by omega) (by omega)), hK.b4.keep k3 (hno _ (by omega) (by omega)), hK.keep.trans k3 ?_, Nat.le_trans hK.size k3.size⟩
      intro x hx
      simp only [List.mem_append, List.mem_cons, List.not_mem_nil, or_false] at hx ⊢
      rcases hx with (hx | hx) | hx
      · exact .inl hx
      · right; omega
      · right; have := lown x hx; omega
    | err c r =>
      rw [hp] at h
      obtain ⟨rfl, k3⟩ := h
      exact ⟨rfl, hK.b2.keep k3 (by simp; omega), hK.b3.keep k3 (by simp; omega), hK.b4.keep k3 (by simp; omega), hK.keep.trans' k3, Nat.le_trans hK.size k3.size⟩

set_option maxHeartbeats 4000000 in
theorem prim_call_ok (d : Nat) (hd : d ≤ 100) (p : Rd Ex) (hC : ExprC 80 (d + 1) p) (hi : Inv Ex.size WFx p) (w : World) (br n : Nat) (t : Tok) (r : List Tok) (hr : RdAt w br n (t :: r)) (hw : Wf (t :: r)) (hk : t.kind = 1) (hp : isSign [40] r = true) (ks : List Ex) (q : List Tok) (hl : listS p r.tail = .ok ks q) :
    Calls Tryz.prog 104 #[.pointer (some ⟨br, 0, none⟩), .int .i64 d] w (Ans w br n (encX w.heap.size) (.ok (.mk 5 0 t.text ks t.place) q)) := by
  have HP := hid hp
  have HL := hid hl
  have HW := hid hw
  have HI := hid hi
  have HR := hid (prim_reads d hd p hC w br n hr.lt (.int .i64 5) (.int .i64 0) (.string ⟨t.text.toArray⟩) (.int .i64 t.place))
  have hmf : ∀ (fn : Fn) (first cap : Array Value) (w : World), (Instr.makeFunc fn first cap).run Tryz.prog w = .ok (.func fn first cap) w := fun _ _ _ _ => rfl
  clear hp hl hC hi hw
  have P0 := prAt_begin (d := d) hr t.place
  have lr := hr.lt
  go_enter Tryz.func104, Tryz.ntmps104
  go_wp2_with fail
  (with_reducible refine (place_any _ br n (t :: r) (((hr.ext ((Ext.refl _).alloc _)).ext ((Ext.refl _).alloc _)).ext ((Ext.refl _).alloc _))).mono ?_)
  rintro e1 w' ⟨rfl, rfl⟩
  rw [show placeOf n (t :: r) = t.place from rfl]
  obtain ⟨b, off, cap, hne, c0, c1, fz, d0, d1, d2, d3, hcap, hmax, _, _⟩ := P0.rd.cons
  have hl0 : ((r.length : Int) + 1 > 0) := by omega
  have hl1 : ¬ ((r.length : Int) + 1 ≤ 0) := by omega
  have P0h := hid (P0.alloc (.cells #[.int .i64 1, .string ⟨t.text.toArray⟩, .int .i64 t.num, .int .i64 t.place] 63))
  clear P0
  have HK := hid (name_yes _ br n (t :: r) P0h.out.rd (by simp [isName, hk]))
  have HT := hid (show headText (t :: r) = t.text from rfl)
  go_wp2_with fail
  refine HK.out.mono ?_
  rintro e1 w1 ⟨rfl, r1, k1⟩
  rw [HT.out]
  have P1 := P0h.out.move r1 k1
  obtain ⟨g2, g3, ⟨x0, x1, x2, x3, x4, xf⟩, ⟨y0, y1, y2, y3, y4, yf⟩⟩ := P1.cells
  go_wp2_with fail
  have P2 : PrAt w _ br n d r [.int .i64 4, .int .i64 0, .string ⟨t.text.toArray⟩, .slice none 0 0, .int .i64 t.place] := (P1.set 0 (.int .i64 4)).set 2 (.string ⟨t.text.toArray⟩)
  clear g2 g3 x0 x1 x2 x3 x4 xf y0 y1 y2 y3 y4 yf
  (with_reducible refine (take_yes _ br n r P2.rd _ HP.out).mono ?_)
  rintro e1 w2 ⟨rfl, r2, k2⟩
  have P3 := P2.move r2 k2
  obtain ⟨g2, g3, ⟨x0, x1, x2, x3, x4, xf⟩, ⟨y0, y1, y2, y3, y4, yf⟩⟩ := P3.cells
  go_wp2_with fail
  have P4 : PrAt w _ br n d r.tail [.int .i64 5, .int .i64 0, .string ⟨t.text.toArray⟩, .slice none 0 0, .int .i64 t.place] := P3.set 0 (.int .i64 5)
  have hsz := P4.size
  clear g2 g3 x0 x1 x2 x3 x4 xf y0 y1 y2 y3 y4 yf
  refine (list_any HR.out HI.out Ex.size_pos _ r.tail P4.rd HW.out.tail.tail ⟨P4.b2, P4.b3, P4.b4, P4.keep, hsz⟩ ⟨_, P4.b5, OwnX.nil exEnc 100 _ _⟩).mono ?_
  rw [HL.out]
  rintro e1 w4 ⟨rfl, ⟨sv, h5, hown⟩, r4, k4⟩
  obtain ⟨sa, scap, sks, rfl, hrow⟩ := hown.row
  have P5 : PrAt w w4 br n d q _ := ⟨P4.lr, k4.b2, k4.b3, k4.b4, h5, r4, k4.keep⟩
  obtain ⟨g2, g3, ⟨x0, x1, x2, x3, x4, xf⟩, ⟨y0, y1, y2, y3, y4, yf⟩⟩ := P5.cells
  go_wp2_with fail
  obtain ⟨wF, hwF, BF, rF, kF, KF⟩ := P5.put (.int .i64 5) (.int .i64 0) (.string ⟨t.text.toArray⟩) (.slice sa ks.length scap) (.int .i64 t.place)
  rw [← hwF]
  obtain ⟨q0, q1, q2, q3, q4, _⟩ := BF.five
  refine bodyPost_ret (v := .agg #[.int .i64 5, .int .i64 0, .string ⟨t.text.toArray⟩, .slice sa ks.length scap, .int .i64 t.place]) (by simp [results, Tryz.results104, go_sem, q0, q1, q2, q3, q4]) rfl ⟨_, rfl, encX.mk ?_, rF, kF⟩
  have ca : Carry w4 wF (w.heap.size + 4 ≤ ·) (w.heap.size ≤ ·) := Carry.keep KF (fun b hb _ hf => by simp at hb; omega) (fun b _ hf => by omega)
  exact RowIs.carry (Q := exEnc.all w4 (w.heap.size + 4 ≤ ·) ks) ⟨sa, scap, sks, rfl, hrow⟩ ca (fun us hu => exEnc.carries ca _ _ hu)

set_option maxHeartbeats 4000000 in
theorem prim_call_err (d : Nat) (hd : d ≤ 100) (p : Rd Ex) (hC : ExprC 80 (d + 1) p) (hi : Inv Ex.size WFx p) (w : World) (br n : Nat) (t : Tok) (r : List Tok) (hr : RdAt w br n (t :: r)) (hw : Wf (t :: r)) (hk : t.kind = 1) (hp : isSign [40] r = true) (c : Nat) (q : List Tok) (hl : listS p r.tail = .err c q) :
    Calls Tryz.prog 104 #[.pointer (some ⟨br, 0, none⟩), .int .i64 d] w (Ans w br n (encX w.heap.size) (.err c q : Res Ex)) := by
  have HP := hid hp
  have HL := hid hl
  have HW := hid hw
  have HI := hid hi
  have HR := hid (prim_reads d hd p hC w br n hr.lt (.int .i64 5) (.int .i64 0) (.string ⟨t.text.toArray⟩) (.int .i64 t.place))
  have hmf : ∀ (fn : Fn) (first cap : Array Value) (w : World), (Instr.makeFunc fn first cap).run Tryz.prog w = .ok (.func fn first cap) w := fun _ _ _ _ => rfl
  clear hp hl hC hi hw
  have P0 := prAt_begin (d := d) hr t.place
  have lr := hr.lt
  go_enter Tryz.func104, Tryz.ntmps104
  go_wp2_with fail
  (with_reducible refine (place_any _ br n (t :: r) (((hr.ext ((Ext.refl _).alloc _)).ext ((Ext.refl _).alloc _)).ext ((Ext.refl _).alloc _))).mono ?_)
  rintro e1 w' ⟨rfl, rfl⟩
  rw [show placeOf n (t :: r) = t.place from rfl]
  obtain ⟨b, off, cap, hne, c0, c1, fz, d0, d1, d2, d3, hcap, hmax, _, _⟩ := P0.rd.cons
  have hl0 : ((r.length : Int) + 1 > 0) := by omega
  have hl1 : ¬ ((r.length : Int) + 1 ≤ 0) := by omega
  have P0h := hid (P0.alloc (.cells #[.int .i64 1, .string ⟨t.text.toArray⟩, .int .i64 t.num, .int .i64 t.place] 63))
  clear P0
  have HK := hid (name_yes _ br n (t :: r) P0h.out.rd (by simp [isName, hk]))
  have HT := hid (show headText (t :: r) = t.text from rfl)
  go_wp2_with fail
  refine HK.out.mono ?_
  rintro e1 w1 ⟨rfl, r1, k1⟩
  rw [HT.out]
  have P1 := P0h.out.move r1 k1
  obtain ⟨g2, g3, ⟨x0, x1, x2, x3, x4, xf⟩, ⟨y0, y1, y2, y3, y4, yf⟩⟩ := P1.cells
  go_wp2_with fail
  have P2 : PrAt w _ br n d r [.int .i64 4, .int .i64 0, .string ⟨t.text.toArray⟩, .slice none 0 0, .int .i64 t.place] := (P1.set 0 (.int .i64 4)).set 2 (.string ⟨t.text.toArray⟩)
  clear g2 g3 x0 x1 x2 x3 x4 xf y0 y1 y2 y3 y4 yf
  (with_reducible refine (take_yes _ br n r P2.rd _ HP.out).mono ?_)
  rintro e1 w2 ⟨rfl, r2, k2⟩
  have P3 := P2.move r2 k2
  obtain ⟨g2, g3, ⟨x0, x1, x2, x3, x4, xf⟩, ⟨y0, y1, y2, y3, y4, yf⟩⟩ := P3.cells
  go_wp2_with fail
  have P4 : PrAt w _ br n d r.tail [.int .i64 5, .int .i64 0, .string ⟨t.text.toArray⟩, .slice none 0 0, .int .i64 t.place] := P3.set 0 (.int .i64 5)
  have hsz := P4.size
  clear g2 g3 x0 x1 x2 x3 x4 xf y0 y1 y2 y3 y4 yf
  refine (list_any HR.out HI.out Ex.size_pos _ r.tail P4.rd HW.out.tail.tail ⟨P4.b2, P4.b3, P4.b4, P4.keep, hsz⟩ ⟨_, P4.b5, OwnX.nil exEnc 100 _ _⟩).mono ?_
  rw [HL.out]
  rintro e1 w4 ⟨rfl, k4⟩
  go_wp2_with fail
  exact ⟨rfl, rfl, k4.keep⟩

set_option maxHeartbeats 4000000 in
theorem prim_true (d : Nat) (hd : d ≤ 100) (w : World) (br n : Nat) (t : Tok) (r : List Tok) (hr : RdAt w br n (t :: r)) (hk : t.kind ≠ 1 ∧ t.kind ≠ 2 ∧ t.kind ≠ 3)  (h0 : isSign [116, 114, 117, 101] (t :: r) = true) :
    Calls Tryz.prog 104 #[.pointer (some ⟨br, 0, none⟩), .int .i64 d] w (Ans w br n (encX w.heap.size) (.ok (.mk 2 1 [] [] t.place) r)) := by
  have H0 := hid h0
  clear h0
  have P0 := prAt_begin (d := d) hr t.place
  have lr := hr.lt
  have i1 : ((t.kind : Int) == 1) = false := by simp; omega
  have i2 : ((t.kind : Int) == 2) = false := by simp; omega
  have i3 : ((t.kind : Int) == 3) = false := by simp; omega
  go_enter Tryz.func104, Tryz.ntmps104
  go_wp2_with fail
  (with_reducible refine (place_any _ br n (t :: r) (((hr.ext ((Ext.refl _).alloc _)).ext ((Ext.refl _).alloc _)).ext ((Ext.refl _).alloc _))).mono ?_)
  rintro e1 w' ⟨rfl, rfl⟩
  rw [show placeOf n (t :: r) = t.place from rfl]
  obtain ⟨b, off, cap, hne, c0, c1, fz, d0, d1, d2, d3, hcap, hmax, _, _⟩ := P0.rd.cons
  have hl0 : ((r.length : Int) + 1 > 0) := by omega
  have hl1 : ¬ ((r.length : Int) + 1 ≤ 0) := by omega
  have P0h := hid (P0.alloc (.cells #[.int .i64 t.kind, .string ⟨t.text.toArray⟩, .int .i64 t.num, .int .i64 t.place] 63))
  clear P0
  go_wp2_with fail
  (with_reducible refine (take_yes _ br n (t :: r) P0h.out.rd _ H0.out).mono ?_)
  rintro e1 w1 ⟨rfl, r1, k1⟩
  have P1 := P0h.out.move r1 k1
  obtain ⟨g2, g3, ⟨x0, x1, x2, x3, x4, xf⟩, ⟨y0, y1, y2, y3, y4, yf⟩⟩ := P1.cells
  go_wp2_with fail
  obtain ⟨wF, hwF, BF, rF, kF, KF⟩ := (((P1.set 0 (.int .i64 2)).set 1 (.int .i64 1))).put (.int .i64 2) (.int .i64 1) (.string ⟨#[]⟩) (.slice none 0 0) (.int .i64 t.place)
  rw [← hwF]
  obtain ⟨q0, q1, q2, q3, q4, _⟩ := BF.five
  exact bodyPost_ret (v := .agg #[.int .i64 2, .int .i64 1, .string ⟨#[]⟩, .slice none 0 0, .int .i64 t.place]) (by simp [results, Tryz.results104, go_sem, q0, q1, q2, q3, q4]) rfl ⟨_, rfl, encX.leaf (text := []), rF, kF⟩

set_option maxHeartbeats 4000000 in
theorem prim_false (d : Nat) (hd : d ≤ 100) (w : World) (br n : Nat) (t : Tok) (r : List Tok) (hr : RdAt w br n (t :: r)) (hk : t.kind ≠ 1 ∧ t.kind ≠ 2 ∧ t.kind ≠ 3) (h0 : isSign [116, 114, 117, 101] (t :: r) = false) (h1 : isSign [102, 97, 108, 115, 101] (t :: r) = true) :
    Calls Tryz.prog 104 #[.pointer (some ⟨br, 0, none⟩), .int .i64 d] w (Ans w br n (encX w.heap.size) (.ok (.mk 2 0 [] [] t.place) r)) := by
  have H0 := hid h0
  clear h0
  have H1 := hid h1
  clear h1
  have P0 := prAt_begin (d := d) hr t.place
  have lr := hr.lt
  have i1 : ((t.kind : Int) == 1) = false := by simp; omega
  have i2 : ((t.kind : Int) == 2) = false := by simp; omega
  have i3 : ((t.kind : Int) == 3) = false := by simp; omega
  go_enter Tryz.func104, Tryz.ntmps104
  go_wp2_with fail
  (with_reducible refine (place_any _ br n (t :: r) (((hr.ext ((Ext.refl _).alloc _)).ext ((Ext.refl _).alloc _)).ext ((Ext.refl _).alloc _))).mono ?_)
  rintro e1 w' ⟨rfl, rfl⟩
  rw [show placeOf n (t :: r) = t.place from rfl]
  obtain ⟨b, off, cap, hne, c0, c1, fz, d0, d1, d2, d3, hcap, hmax, _, _⟩ := P0.rd.cons
  have hl0 : ((r.length : Int) + 1 > 0) := by omega
  have hl1 : ¬ ((r.length : Int) + 1 ≤ 0) := by omega
  have P0h := hid (P0.alloc (.cells #[.int .i64 t.kind, .string ⟨t.text.toArray⟩, .int .i64 t.num, .int .i64 t.place] 63))
  clear P0
  go_wp2_with fail
  (with_reducible refine (take_no _ br n (t :: r) P0h.out.rd _ H0.out).mono ?_)
  rintro e1 w1 ⟨rfl, r1, k1⟩
  have P1 := P0h.out.move r1 k1
  obtain ⟨g2, g3, ⟨x0, x1, x2, x3, x4, xf⟩, ⟨y0, y1, y2, y3, y4, yf⟩⟩ := P1.cells
  go_wp2_with fail
  (with_reducible refine (take_yes _ br n (t :: r) P1.rd _ H1.out).mono ?_)
  rintro e1 w2 ⟨rfl, r2, k2⟩
  clear g2 g3 x0 x1 x2 x3 x4 xf y0 y1 y2 y3 y4 yf
  have P2 := P1.move r2 k2
  obtain ⟨g2, g3, ⟨x0, x1, x2, x3, x4, xf⟩, ⟨y0, y1, y2, y3, y4, yf⟩⟩ := P2.cells
  go_wp2_with fail
  obtain ⟨wF, hwF, BF, rF, kF, KF⟩ := ((P2.set 0 (.int .i64 2))).put (.int .i64 2) (.int .i64 0) (.string ⟨#[]⟩) (.slice none 0 0) (.int .i64 t.place)
  rw [← hwF]
  obtain ⟨q0, q1, q2, q3, q4, _⟩ := BF.five
  exact bodyPost_ret (v := .agg #[.int .i64 2, .int .i64 0, .string ⟨#[]⟩, .slice none 0 0, .int .i64 t.place]) (by simp [results, Tryz.results104, go_sem, q0, q1, q2, q3, q4]) rfl ⟨_, rfl, encX.leaf (text := []), rF, kF⟩

set_option maxHeartbeats 4000000 in
theorem prim_par_ok (d : Nat) (hd : d ≤ 100) (w : World) (br n : Nat) (t : Tok) (r : List Tok) (hr : RdAt w br n (t :: r)) (hk : t.kind ≠ 1 ∧ t.kind ≠ 2 ∧ t.kind ≠ 3) (h0 : isSign [116, 114, 117, 101] (t :: r) = false) (h1 : isSign [102, 97, 108, 115, 101] (t :: r) = false) (h2 : isSign [40] (t :: r) = true) (p : Rd Ex) (hC : ExprC 111 d (innerS p)) (hw : Wf (t :: r)) (x : Ex) (q : List Tok) (hx : innerS p (t :: r) = .ok x q) :
    Calls Tryz.prog 104 #[.pointer (some ⟨br, 0, none⟩), .int .i64 d] w (Ans w br n (encX w.heap.size) (.ok x q)) := by
  have H0 := hid h0
  clear h0
  have H1 := hid h1
  clear h1
  have H2 := hid h2
  clear h2
  have HC := hid hC
  have HX := hid hx
  have HW := hid hw
  clear hC hx hw
  have P0 := prAt_begin (d := d) hr t.place
  have lr := hr.lt
  have i1 : ((t.kind : Int) == 1) = false := by simp; omega
  have i2 : ((t.kind : Int) == 2) = false := by simp; omega
  have i3 : ((t.kind : Int) == 3) = false := by simp; omega
  go_enter Tryz.func104, Tryz.ntmps104
  go_wp2_with fail
  (with_reducible refine (place_any _ br n (t :: r) (((hr.ext ((Ext.refl _).alloc _)).ext ((Ext.refl _).alloc _)).ext ((Ext.refl _).alloc _))).mono ?_)
  rintro e1 w' ⟨rfl, rfl⟩
  rw [show placeOf n (t :: r) = t.place from rfl]
  obtain ⟨b, off, cap, hne, c0, c1, fz, d0, d1, d2, d3, hcap, hmax, _, _⟩ := P0.rd.cons
  have hl0 : ((r.length : Int) + 1 > 0) := by omega
  have hl1 : ¬ ((r.length : Int) + 1 ≤ 0) := by omega
  have P0h := hid (P0.alloc (.cells #[.int .i64 t.kind, .string ⟨t.text.toArray⟩, .int .i64 t.num, .int .i64 t.place] 63))
  clear P0
  go_wp2_with fail
  (with_reducible refine (take_no _ br n (t :: r) P0h.out.rd _ H0.out).mono ?_)
  rintro e1 w1 ⟨rfl, r1, k1⟩
  have P1 := P0h.out.move r1 k1
  obtain ⟨g2, g3, ⟨x0, x1, x2, x3, x4, xf⟩, ⟨y0, y1, y2, y3, y4, yf⟩⟩ := P1.cells
  go_wp2_with fail
  (with_reducible refine (take_no _ br n (t :: r) P1.rd _ H1.out).mono ?_)
  rintro e1 w2 ⟨rfl, r2, k2⟩
  clear g2 g3 x0 x1 x2 x3 x4 xf y0 y1 y2 y3 y4 yf
  have P2 := P1.move r2 k2
  obtain ⟨g2, g3, ⟨x0, x1, x2, x3, x4, xf⟩, ⟨y0, y1, y2, y3, y4, yf⟩⟩ := P2.cells
  go_wp2_with fail
  (with_reducible refine (at0_any _ br n (t :: r) P2.rd _).mono ?_)
  rintro e1 w3 ⟨rfl, rfl⟩
  rw [show isSign (ByteArray.mk #[40]).data.toList (t :: r) = true from H2.out]
  go_wp2_with fail
  refine (HC.out _ br n (t :: r) P2.rd HW.out).mono ?_
  rw [HX.out]
  rintro e1 w7 ⟨v, rfl, hv, r7, k7⟩
  have hsz := P2.size
  obtain ⟨op, num, text, ka, kn, kc, at_, rfl⟩ := hv.form
  clear g2 g3 x0 x1 x2 x3 x4 xf y0 y1 y2 y3 y4 yf
  have P7 := P2.move r7 k7
  have hsz7 := P7.size
  have hlt5 : w.heap.size + 1 + 1 + 1 < w7.heap.size := by omega
  have hlt4 : w.heap.size + 1 + 1 < w7.heap.size := by omega
  obtain ⟨g2, g3, ⟨x0, x1, x2, x3, x4, xf⟩, ⟨y0, y1, y2, y3, y4, yf⟩⟩ := P7.cells
  go_wp2_with fail
  obtain ⟨wF, hwF, BF, rF, kF, KF⟩ := P7.put (.int .i64 op) (.int .i64 num) (.string ⟨text.toArray⟩) (.slice ka kn kc) (.int .i64 at_)
  rw [← hwF]
  obtain ⟨q0, q1, q2, q3, q4, _⟩ := BF.five
  refine bodyPost_ret (v := .agg #[.int .i64 op, .int .i64 num, .string ⟨text.toArray⟩, .slice ka kn kc, .int .i64 at_]) (by simp [results, Tryz.results104, go_sem, q0, q1, q2, q3, q4]) rfl ⟨_, rfl, ?_, rF, kF⟩
  exact hv.carry KF (by simp; omega) (by omega)

set_option maxHeartbeats 4000000 in
theorem prim_par_err (d : Nat) (hd : d ≤ 100) (w : World) (br n : Nat) (t : Tok) (r : List Tok) (hr : RdAt w br n (t :: r)) (hk : t.kind ≠ 1 ∧ t.kind ≠ 2 ∧ t.kind ≠ 3) (h0 : isSign [116, 114, 117, 101] (t :: r) = false) (h1 : isSign [102, 97, 108, 115, 101] (t :: r) = false) (h2 : isSign [40] (t :: r) = true) (p : Rd Ex) (hC : ExprC 111 d (innerS p)) (hw : Wf (t :: r)) (c : Nat) (q : List Tok) (hx : innerS p (t :: r) = .err c q) :
    Calls Tryz.prog 104 #[.pointer (some ⟨br, 0, none⟩), .int .i64 d] w (Ans w br n (encX w.heap.size) (.err c q : Res Ex)) := by
  have H0 := hid h0
  clear h0
  have H1 := hid h1
  clear h1
  have H2 := hid h2
  clear h2
  have HC := hid hC
  have HX := hid hx
  have HW := hid hw
  clear hC hx hw
  have P0 := prAt_begin (d := d) hr t.place
  have lr := hr.lt
  have i1 : ((t.kind : Int) == 1) = false := by simp; omega
  have i2 : ((t.kind : Int) == 2) = false := by simp; omega
  have i3 : ((t.kind : Int) == 3) = false := by simp; omega
  go_enter Tryz.func104, Tryz.ntmps104
  go_wp2_with fail
  (with_reducible refine (place_any _ br n (t :: r) (((hr.ext ((Ext.refl _).alloc _)).ext ((Ext.refl _).alloc _)).ext ((Ext.refl _).alloc _))).mono ?_)
  rintro e1 w' ⟨rfl, rfl⟩
  rw [show placeOf n (t :: r) = t.place from rfl]
  obtain ⟨b, off, cap, hne, c0, c1, fz, d0, d1, d2, d3, hcap, hmax, _, _⟩ := P0.rd.cons
  have hl0 : ((r.length : Int) + 1 > 0) := by omega
  have hl1 : ¬ ((r.length : Int) + 1 ≤ 0) := by omega
  have P0h := hid (P0.alloc (.cells #[.int .i64 t.kind, .string ⟨t.text.toArray⟩, .int .i64 t.num, .int .i64 t.place] 63))
  clear P0
  go_wp2_with fail
  (with_reducible refine (take_no _ br n (t :: r) P0h.out.rd _ H0.out).mono ?_)
  rintro e1 w1 ⟨rfl, r1, k1⟩
  have P1 := P0h.out.move r1 k1
  obtain ⟨g2, g3, ⟨x0, x1, x2, x3, x4, xf⟩, ⟨y0, y1, y2, y3, y4, yf⟩⟩ := P1.cells
  go_wp2_with fail
  (with_reducible refine (take_no _ br n (t :: r) P1.rd _ H1.out).mono ?_)
  rintro e1 w2 ⟨rfl, r2, k2⟩
  clear g2 g3 x0 x1 x2 x3 x4 xf y0 y1 y2 y3 y4 yf
  have P2 := P1.move r2 k2
  obtain ⟨g2, g3, ⟨x0, x1, x2, x3, x4, xf⟩, ⟨y0, y1, y2, y3, y4, yf⟩⟩ := P2.cells
  go_wp2_with fail
  (with_reducible refine (at0_any _ br n (t :: r) P2.rd _).mono ?_)
  rintro e1 w3 ⟨rfl, rfl⟩
  rw [show isSign (ByteArray.mk #[40]).data.toList (t :: r) = true from H2.out]
  go_wp2_with fail
  refine (HC.out _ br n (t :: r) P2.rd HW.out).mono ?_
  rw [HX.out]
  rintro e1 w7 ⟨rfl, k7⟩
  go_wp2_with fail
  exact ⟨rfl, rfl, P2.keep.trans' k7⟩

set_option maxHeartbeats 4000000 in
theorem prim_get_ok (d : Nat) (hd : d ≤ 100) (w : World) (br n : Nat) (t : Tok) (r : List Tok) (hr : RdAt w br n (t :: r)) (hk : t.kind ≠ 1 ∧ t.kind ≠ 2 ∧ t.kind ≠ 3) (h0 : isSign [116, 114, 117, 101] (t :: r) = false) (h1 : isSign [102, 97, 108, 115, 101] (t :: r) = false) (h2 : isSign [40] (t :: r) = false) (h3 : isSign [103, 101, 116] (t :: r) = true) (p : Rd Ex) (hC : ExprC 111 d (innerS p)) (hw : Wf (t :: r)) (x : Ex) (q : List Tok) (hx : innerS p r = .ok x q) :
    Calls Tryz.prog 104 #[.pointer (some ⟨br, 0, none⟩), .int .i64 d] w (Ans w br n (encX w.heap.size) (.ok (.mk 8 0 [] [x] t.place) q)) := by
  have H0 := hid h0
  clear h0
  have H1 := hid h1
  clear h1
  have H2 := hid h2
  clear h2
  have H3 := hid h3
  clear h3
  have HC := hid hC
  have HX := hid hx
  have HW := hid hw
  clear hC hx hw
  have P0 := prAt_begin (d := d) hr t.place
  have lr := hr.lt
  have i1 : ((t.kind : Int) == 1) = false := by simp; omega
  have i2 : ((t.kind : Int) == 2) = false := by simp; omega
  have i3 : ((t.kind : Int) == 3) = false := by simp; omega
  go_enter Tryz.func104, Tryz.ntmps104
  go_wp2_with fail
  (with_reducible refine (place_any _ br n (t :: r) (((hr.ext ((Ext.refl _).alloc _)).ext ((Ext.refl _).alloc _)).ext ((Ext.refl _).alloc _))).mono ?_)
  rintro e1 w' ⟨rfl, rfl⟩
  rw [show placeOf n (t :: r) = t.place from rfl]
  obtain ⟨b, off, cap, hne, c0, c1, fz, d0, d1, d2, d3, hcap, hmax, _, _⟩ := P0.rd.cons
  have hl0 : ((r.length : Int) + 1 > 0) := by omega
  have hl1 : ¬ ((r.length : Int) + 1 ≤ 0) := by omega
  have P0h := hid (P0.alloc (.cells #[.int .i64 t.kind, .string ⟨t.text.toArray⟩, .int .i64 t.num, .int .i64 t.place] 63))
  clear P0
  go_wp2_with fail
  (with_reducible refine (take_no _ br n (t :: r) P0h.out.rd _ H0.out).mono ?_)
  rintro e1 w1 ⟨rfl, r1, k1⟩
  have P1 := P0h.out.move r1 k1
  obtain ⟨g2, g3, ⟨x0, x1, x2, x3, x4, xf⟩, ⟨y0, y1, y2, y3, y4, yf⟩⟩ := P1.cells
  go_wp2_with fail
  (with_reducible refine (take_no _ br n (t :: r) P1.rd _ H1.out).mono ?_)
  rintro e1 w2 ⟨rfl, r2, k2⟩
  clear g2 g3 x0 x1 x2 x3 x4 xf y0 y1 y2 y3 y4 yf
  have P2 := P1.move r2 k2
  obtain ⟨g2, g3, ⟨x0, x1, x2, x3, x4, xf⟩, ⟨y0, y1, y2, y3, y4, yf⟩⟩ := P2.cells
  go_wp2_with fail
  (with_reducible refine (at0_any _ br n (t :: r) P2.rd _).mono ?_)
  rintro e1 w3 ⟨rfl, rfl⟩
  rw [show isSign (ByteArray.mk #[40]).data.toList (t :: r) = false from H2.out]
  go_wp2_with fail
  (with_reducible refine (take_yes _ br n (t :: r) P2.rd _ H3.out).mono ?_)
  rintro e1 w4 ⟨rfl, r4, k4⟩
  clear g2 g3 x0 x1 x2 x3 x4 xf y0 y1 y2 y3 y4 yf
  have P4 := P2.move r4 k4
  obtain ⟨g2, g3, ⟨x0, x1, x2, x3, x4, xf⟩, ⟨y0, y1, y2, y3, y4, yf⟩⟩ := P4.cells
  go_wp2_with fail
  refine (HC.out _ br n r P4.rd HW.out.tail).mono ?_
  rw [HX.out]
  rintro e1 w7 ⟨v, rfl, hv, r7, k7⟩
  have hsz := P4.size
  obtain ⟨op, num, text, ka, kn, kc, at_, rfl⟩ := hv.form
  clear g2 g3 x0 x1 x2 x3 x4 xf y0 y1 y2 y3 y4 yf
  have P7 := P4.move r7 k7
  have hsz7 := P7.size
  have hlt5 : w.heap.size + 1 + 1 + 1 < w7.heap.size := by omega
  have hlt4 : w.heap.size + 1 + 1 < w7.heap.size := by omega
  obtain ⟨g2, g3, ⟨x0, x1, x2, x3, x4, xf⟩, ⟨y0, y1, y2, y3, y4, yf⟩⟩ := P7.cells
  go_wp2_with fail
  obtain ⟨wF, hwF, BF, rF, kF, KF⟩ := ((P7.set 0 (.int .i64 8)).set 3 (.slice (some ⟨w7.heap.size, 0, none⟩) 1 1)).put (.int .i64 8) (.int .i64 0) (.string ⟨#[]⟩) (.slice (some ⟨w7.heap.size, 0, none⟩) 1 1) (.int .i64 t.place)
  rw [← hwF]
  have hF : wF.heap.size = w7.heap.size := by rw [hwF]; simp [World.setCell]
  have K9 : Keep [w.heap.size + 1 + 1 + 1, w.heap.size + 1 + 1] w7 wF := (((Keep.refl _ _).setCell (p := ⟨w.heap.size + 1 + 1 + 1, 0, none⟩) (by simp) (.int .i64 8)).setCell (p := ⟨w.heap.size + 1 + 1 + 1, 3, none⟩) (by simp) (.slice (some ⟨w7.heap.size, 0, none⟩) 1 1)).trans KF (by simp)
  have BX := Blk.new wF 100 [.int .i64 op, .int .i64 num, .string ⟨text.toArray⟩, .slice ka kn kc, .int .i64 at_]
  rw [hF] at BX
  obtain ⟨q0, q1, q2, q3, q4, _⟩ := (BF.alloc (.cells #[.int .i64 op, .int .i64 num, .string ⟨text.toArray⟩, .slice ka kn kc, .int .i64 at_] 100)).five
  refine bodyPost_ret (v := .agg #[.int .i64 8, .int .i64 0, .string ⟨#[]⟩, .slice (some ⟨w7.heap.size, 0, none⟩) 1 1, .int .i64 t.place]) (by simp only [results, Tryz.results104]; simp [go_sem, q0, q1, q2, q3, q4]) rfl ⟨_, rfl, ?_, rF.ext ((Ext.refl _).alloc _), kF.alloc _⟩
  have hxF := ((hv.carry K9 (by simp; omega) (Nat.le_refl _)).ext ((Ext.refl _).alloc (.cells #[.int .i64 op, .int .i64 num, .string ⟨text.toArray⟩, .slice ka kn kc, .int .i64 at_] 100)) (show w.heap.size ≤ _ by omega)).is
  exact encX.mk (kids := [x]) (text := []) (row_one hxF BX (by omega))

set_option maxHeartbeats 4000000 in
theorem prim_get_err (d : Nat) (hd : d ≤ 100) (w : World) (br n : Nat) (t : Tok) (r : List Tok) (hr : RdAt w br n (t :: r)) (hk : t.kind ≠ 1 ∧ t.kind ≠ 2 ∧ t.kind ≠ 3) (h0 : isSign [116, 114, 117, 101] (t :: r) = false) (h1 : isSign [102, 97, 108, 115, 101] (t :: r) = false) (h2 : isSign [40] (t :: r) = false) (h3 : isSign [103, 101, 116] (t :: r) = true) (p : Rd Ex) (hC : ExprC 111 d (innerS p)) (hw : Wf (t :: r)) (c : Nat) (q : List Tok) (hx : innerS p r = .err c q) :
    Calls Tryz.prog 104 #[.pointer (some ⟨br, 0, none⟩), .int .i64 d] w (Ans w br n (encX w.heap.size) (.err c q : Res Ex)) := by
  have H0 := hid h0
  clear h0
  have H1 := hid h1
  clear h1
  have H2 := hid h2
  clear h2
  have H3 := hid h3
  clear h3
  have HC := hid hC
  have HX := hid hx
  have HW := hid hw
  clear hC hx hw
  have P0 := prAt_begin (d := d) hr t.place
  have lr := hr.lt
  have i1 : ((t.kind : Int) == 1) = false := by simp; omega
  have i2 : ((t.kind : Int) == 2) = false := by simp; omega
  have i3 : ((t.kind : Int) == 3) = false := by simp; omega
  go_enter Tryz.func104, Tryz.ntmps104
  go_wp2_with fail
  (with_reducible refine (place_any _ br n (t :: r) (((hr.ext ((Ext.refl _).alloc _)).ext ((Ext.refl _).alloc _)).ext ((Ext.refl _).alloc _))).mono ?_)
  rintro e1 w' ⟨rfl, rfl⟩
  rw [show placeOf n (t :: r) = t.place from rfl]
  obtain ⟨b, off, cap, hne, c0, c1, fz, d0, d1, d2, d3, hcap, hmax, _, _⟩ := P0.rd.cons
  have hl0 : ((r.length : Int) + 1 > 0) := by omega
  have hl1 : ¬ ((r.length : Int) + 1 ≤ 0) := by omega
  have P0h := hid (P0.alloc (.cells #[.int .i64 t.kind, .string ⟨t.text.toArray⟩, .int .i64 t.num, .int .i64 t.place] 63))
  clear P0
  go_wp2_with fail
  (with_reducible refine (take_no _ br n (t :: r) P0h.out.rd _ H0.out).mono ?_)
  rintro e1 w1 ⟨rfl, r1, k1⟩
  have P1 := P0h.out.move r1 k1
  obtain ⟨g2, g3, ⟨x0, x1, x2, x3, x4, xf⟩, ⟨y0, y1, y2, y3, y4, yf⟩⟩ := P1.cells
  go_wp2_with fail
  (with_reducible refine (take_no _ br n (t :: r) P1.rd _ H1.out).mono ?_)
  rintro e1 w2 ⟨rfl, r2, k2⟩
  clear g2 g3 x0 x1 x2 x3 x4 xf y0 y1 y2 y3 y4 yf
  have P2 := P1.move r2 k2
  obtain ⟨g2, g3, ⟨x0, x1, x2, x3, x4, xf⟩, ⟨y0, y1, y2, y3, y4, yf⟩⟩ := P2.cells
  go_wp2_with fail
  (with_reducible refine (at0_any _ br n (t :: r) P2.rd _).mono ?_)
  rintro e1 w3 ⟨rfl, rfl⟩
  rw [show isSign (ByteArray.mk #[40]).data.toList (t :: r) = false from H2.out]
  go_wp2_with fail
  (with_reducible refine (take_yes _ br n (t :: r) P2.rd _ H3.out).mono ?_)
  rintro e1 w4 ⟨rfl, r4, k4⟩
  clear g2 g3 x0 x1 x2 x3 x4 xf y0 y1 y2 y3 y4 yf
  have P4 := P2.move r4 k4
  obtain ⟨g2, g3, ⟨x0, x1, x2, x3, x4, xf⟩, ⟨y0, y1, y2, y3, y4, yf⟩⟩ := P4.cells
  go_wp2_with fail
  refine (HC.out _ br n r P4.rd HW.out.tail).mono ?_
  rw [HX.out]
  rintro e1 w7 ⟨rfl, k7⟩
  go_wp2_with fail
  exact ⟨rfl, rfl, P4.keep.trans' k7⟩

set_option maxHeartbeats 4000000 in
theorem prim_has_ok (d : Nat) (hd : d ≤ 100) (w : World) (br n : Nat) (t : Tok) (r : List Tok) (hr : RdAt w br n (t :: r)) (hk : t.kind ≠ 1 ∧ t.kind ≠ 2 ∧ t.kind ≠ 3) (h0 : isSign [116, 114, 117, 101] (t :: r) = false) (h1 : isSign [102, 97, 108, 115, 101] (t :: r) = false) (h2 : isSign [40] (t :: r) = false) (h3 : isSign [103, 101, 116] (t :: r) = false) (h4 : isSign [104, 97, 115] (t :: r) = true) (p : Rd Ex) (hC : ExprC 111 d (innerS p)) (hw : Wf (t :: r)) (x : Ex) (q : List Tok) (hx : innerS p r = .ok x q) :
    Calls Tryz.prog 104 #[.pointer (some ⟨br, 0, none⟩), .int .i64 d] w (Ans w br n (encX w.heap.size) (.ok (.mk 9 0 [] [x] t.place) q)) := by
  have H0 := hid h0
  clear h0
  have H1 := hid h1
  clear h1
  have H2 := hid h2
  clear h2
  have H3 := hid h3
  clear h3
  have H4 := hid h4
  clear h4
  have HC := hid hC
  have HX := hid hx
  have HW := hid hw
  clear hC hx hw
  have P0 := prAt_begin (d := d) hr t.place
  have lr := hr.lt
  have i1 : ((t.kind : Int) == 1) = false := by simp; omega
  have i2 : ((t.kind : Int) == 2) = false := by simp; omega
  have i3 : ((t.kind : Int) == 3) = false := by simp; omega
  go_enter Tryz.func104, Tryz.ntmps104
  go_wp2_with fail
  (with_reducible refine (place_any _ br n (t :: r) (((hr.ext ((Ext.refl _).alloc _)).ext ((Ext.refl _).alloc _)).ext ((Ext.refl _).alloc _))).mono ?_)
  rintro e1 w' ⟨rfl, rfl⟩
  rw [show placeOf n (t :: r) = t.place from rfl]
  obtain ⟨b, off, cap, hne, c0, c1, fz, d0, d1, d2, d3, hcap, hmax, _, _⟩ := P0.rd.cons
  have hl0 : ((r.length : Int) + 1 > 0) := by omega
  have hl1 : ¬ ((r.length : Int) + 1 ≤ 0) := by omega
  have P0h := hid (P0.alloc (.cells #[.int .i64 t.kind, .string ⟨t.text.toArray⟩, .int .i64 t.num, .int .i64 t.place] 63))
  clear P0
  go_wp2_with fail
  (with_reducible refine (take_no _ br n (t :: r) P0h.out.rd _ H0.out).mono ?_)
  rintro e1 w1 ⟨rfl, r1, k1⟩
  have P1 := P0h.out.move r1 k1
  obtain ⟨g2, g3, ⟨x0, x1, x2, x3, x4, xf⟩, ⟨y0, y1, y2, y3, y4, yf⟩⟩ := P1.cells
  go_wp2_with fail
  (with_reducible refine (take_no _ br n (t :: r) P1.rd _ H1.out).mono ?_)
  rintro e1 w2 ⟨rfl, r2, k2⟩
  clear g2 g3 x0 x1 x2 x3 x4 xf y0 y1 y2 y3 y4 yf
  have P2 := P1.move r2 k2
  obtain ⟨g2, g3, ⟨x0, x1, x2, x3, x4, xf⟩, ⟨y0, y1, y2, y3, y4, yf⟩⟩ := P2.cells
  go_wp2_with fail
  (with_reducible refine (at0_any _ br n (t :: r) P2.rd _).mono ?_)
  rintro e1 w3 ⟨rfl, rfl⟩
  rw [show isSign (ByteArray.mk #[40]).data.toList (t :: r) = false from H2.out]
  go_wp2_with fail
  (with_reducible refine (take_no _ br n (t :: r) P2.rd _ H3.out).mono ?_)
  rintro e1 w4 ⟨rfl, r4, k4⟩
  clear g2 g3 x0 x1 x2 x3 x4 xf y0 y1 y2 y3 y4 yf
  have P4 := P2.move r4 k4
  obtain ⟨g2, g3, ⟨x0, x1, x2, x3, x4, xf⟩, ⟨y0, y1, y2, y3, y4, yf⟩⟩ := P4.cells
  go_wp2_with fail
  (with_reducible refine (take_yes _ br n (t :: r) P4.rd _ H4.out).mono ?_)
  rintro e1 w5 ⟨rfl, r5, k5⟩
  clear g2 g3 x0 x1 x2 x3 x4 xf y0 y1 y2 y3 y4 yf
  have P5 := P4.move r5 k5
  obtain ⟨g2, g3, ⟨x0, x1, x2, x3, x4, xf⟩, ⟨y0, y1, y2, y3, y4, yf⟩⟩ := P5.cells
  go_wp2_with fail
  refine (HC.out _ br n r P5.rd HW.out.tail).mono ?_
  rw [HX.out]
  rintro e1 w7 ⟨v, rfl, hv, r7, k7⟩
  have hsz := P5.size
  obtain ⟨op, num, text, ka, kn, kc, at_, rfl⟩ := hv.form
  clear g2 g3 x0 x1 x2 x3 x4 xf y0 y1 y2 y3 y4 yf
  have P7 := P5.move r7 k7
  have hsz7 := P7.size
  have hlt5 : w.heap.size + 1 + 1 + 1 < w7.heap.size := by omega
  have hlt4 : w.heap.size + 1 + 1 < w7.heap.size := by omega
  obtain ⟨g2, g3, ⟨x0, x1, x2, x3, x4, xf⟩, ⟨y0, y1, y2, y3, y4, yf⟩⟩ := P7.cells
  go_wp2_with fail
  obtain ⟨wF, hwF, BF, rF, kF, KF⟩ := ((P7.set 0 (.int .i64 9)).set 3 (.slice (some ⟨w7.heap.size, 0, none⟩) 1 1)).put (.int .i64 9) (.int .i64 0) (.string ⟨#[]⟩) (.slice (some ⟨w7.heap.size, 0, none⟩) 1 1) (.int .i64 t.place)
  rw [← hwF]
  have hF : wF.heap.size = w7.heap.size := by rw [hwF]; simp [World.setCell]
  have K9 : Keep [w.heap.size + 1 + 1 + 1, w.heap.size + 1 + 1] w7 wF := (((Keep.refl _ _).setCell (p := ⟨w.heap.size + 1 + 1 + 1, 0, none⟩) (by simp) (.int .i64 9)).setCell (p := ⟨w.heap.size + 1 + 1 + 1, 3, none⟩) (by simp) (.slice (some ⟨w7.heap.size, 0, none⟩) 1 1)).trans KF (by simp)
  have BX := Blk.new wF 100 [.int .i64 op, .int .i64 num, .string ⟨text.toArray⟩, .slice ka kn kc, .int .i64 at_]
  rw [hF] at BX
  obtain ⟨q0, q1, q2, q3, q4, _⟩ := (BF.alloc (.cells #[.int .i64 op, .int .i64 num, .string ⟨text.toArray⟩, .slice ka kn kc, .int .i64 at_] 100)).five
  refine bodyPost_ret (v := .agg #[.int .i64 9, .int .i64 0, .string ⟨#[]⟩, .slice (some ⟨w7.heap.size, 0, none⟩) 1 1, .int .i64 t.place]) (by simp only [results, Tryz.results104]; simp [go_sem, q0, q1, q2, q3, q4]) rfl ⟨_, rfl, ?_, rF.ext ((Ext.refl _).alloc _), kF.alloc _⟩
  have hxF := ((hv.carry K9 (by simp; omega) (Nat.le_refl _)).ext ((Ext.refl _).alloc (.cells #[.int .i64 op, .int .i64 num, .string ⟨text.toArray⟩, .slice ka kn kc, .int .i64 at_] 100)) (show w.heap.size ≤ _ by omega)).is
  exact encX.mk (kids := [x]) (text := []) (row_one hxF BX (by omega))

set_option maxHeartbeats 4000000 in
theorem prim_has_err (d : Nat) (hd : d ≤ 100) (w : World) (br n : Nat) (t : Tok) (r : List Tok) (hr : RdAt w br n (t :: r)) (hk : t.kind ≠ 1 ∧ t.kind ≠ 2 ∧ t.kind ≠ 3) (h0 : isSign [116, 114, 117, 101] (t :: r) = false) (h1 : isSign [102, 97, 108, 115, 101] (t :: r) = false) (h2 : isSign [40] (t :: r) = false) (h3 : isSign [103, 101, 116] (t :: r) = false) (h4 : isSign [104, 97, 115] (t :: r) = true) (p : Rd Ex) (hC : ExprC 111 d (innerS p)) (hw : Wf (t :: r)) (c : Nat) (q : List Tok) (hx : innerS p r = .err c q) :
    Calls Tryz.prog 104 #[.pointer (some ⟨br, 0, none⟩), .int .i64 d] w (Ans w br n (encX w.heap.size) (.err c q : Res Ex)) := by
  have H0 := hid h0
  clear h0
  have H1 := hid h1
  clear h1
  have H2 := hid h2
  clear h2
  have H3 := hid h3
  clear h3
  have H4 := hid h4
  clear h4
  have HC := hid hC
  have HX := hid hx
  have HW := hid hw
  clear hC hx hw
  have P0 := prAt_begin (d := d) hr t.place
  have lr := hr.lt
  have i1 : ((t.kind : Int) == 1) = false := by simp; omega
  have i2 : ((t.kind : Int) == 2) = false := by simp; omega
  have i3 : ((t.kind : Int) == 3) = false := by simp; omega
  go_enter Tryz.func104, Tryz.ntmps104
  go_wp2_with fail
  (with_reducible refine (place_any _ br n (t :: r) (((hr.ext ((Ext.refl _).alloc _)).ext ((Ext.refl _).alloc _)).ext ((Ext.refl _).alloc _))).mono ?_)
  rintro e1 w' ⟨rfl, rfl⟩
  rw [show placeOf n (t :: r) = t.place from rfl]
  obtain ⟨b, off, cap, hne, c0, c1, fz, d0, d1, d2, d3, hcap, hmax, _, _⟩ := P0.rd.cons
  have hl0 : ((r.length : Int) + 1 > 0) := by omega
  have hl1 : ¬ ((r.length : Int) + 1 ≤ 0) := by omega
  have P0h := hid (P0.alloc (.cells #[.int .i64 t.kind, .string ⟨t.text.toArray⟩, .int .i64 t.num, .int .i64 t.place] 63))
  clear P0
  go_wp2_with fail
  (with_reducible refine (take_no _ br n (t :: r) P0h.out.rd _ H0.out).mono ?_)
  rintro e1 w1 ⟨rfl, r1, k1⟩
  have P1 := P0h.out.move r1 k1
  obtain ⟨g2, g3, ⟨x0, x1, x2, x3, x4, xf⟩, ⟨y0, y1, y2, y3, y4, yf⟩⟩ := P1.cells
  go_wp2_with fail
  (with_reducible refine (take_no _ br n (t :: r) P1.rd _ H1.out).mono ?_)
  rintro e1 w2 ⟨rfl, r2, k2⟩
  clear g2 g3 x0 x1 x2 x3 x4 xf y0 y1 y2 y3 y4 yf
  have P2 := P1.move r2 k2
  obtain ⟨g2, g3, ⟨x0, x1, x2, x3, x4, xf⟩, ⟨y0, y1, y2, y3, y4, yf⟩⟩ := P2.cells
  go_wp2_with fail
  (with_reducible refine (at0_any _ br n (t :: r) P2.rd _).mono ?_)
  rintro e1 w3 ⟨rfl, rfl⟩
  rw [show isSign (ByteArray.mk #[40]).data.toList (t :: r) = false from H2.out]
  go_wp2_with fail
  (with_reducible refine (take_no _ br n (t :: r) P2.rd _ H3.out).mono ?_)
  rintro e1 w4 ⟨rfl, r4, k4⟩
  clear g2 g3 x0 x1 x2 x3 x4 xf y0 y1 y2 y3 y4 yf
  have P4 := P2.move r4 k4
  obtain ⟨g2, g3, ⟨x0, x1, x2, x3, x4, xf⟩, ⟨y0, y1, y2, y3, y4, yf⟩⟩ := P4.cells
  go_wp2_with fail
  (with_reducible refine (take_yes _ br n (t :: r) P4.rd _ H4.out).mono ?_)
  rintro e1 w5 ⟨rfl, r5, k5⟩
  clear g2 g3 x0 x1 x2 x3 x4 xf y0 y1 y2 y3 y4 yf
  have P5 := P4.move r5 k5
  obtain ⟨g2, g3, ⟨x0, x1, x2, x3, x4, xf⟩, ⟨y0, y1, y2, y3, y4, yf⟩⟩ := P5.cells
  go_wp2_with fail
  refine (HC.out _ br n r P5.rd HW.out.tail).mono ?_
  rw [HX.out]
  rintro e1 w7 ⟨rfl, k7⟩
  go_wp2_with fail
  exact ⟨rfl, rfl, P5.keep.trans' k7⟩

set_option maxHeartbeats 4000000 in
theorem prim_len_ok (d : Nat) (hd : d ≤ 100) (w : World) (br n : Nat) (t : Tok) (r : List Tok) (hr : RdAt w br n (t :: r)) (hk : t.kind ≠ 1 ∧ t.kind ≠ 2 ∧ t.kind ≠ 3) (h0 : isSign [116, 114, 117, 101] (t :: r) = false) (h1 : isSign [102, 97, 108, 115, 101] (t :: r) = false) (h2 : isSign [40] (t :: r) = false) (h3 : isSign [103, 101, 116] (t :: r) = false) (h4 : isSign [104, 97, 115] (t :: r) = false) (h5 : isSign [108, 101, 110] (t :: r) = true) (p : Rd Ex) (hC : ExprC 111 d (innerS p)) (hw : Wf (t :: r)) (x : Ex) (q : List Tok) (hx : innerS p r = .ok x q) :
    Calls Tryz.prog 104 #[.pointer (some ⟨br, 0, none⟩), .int .i64 d] w (Ans w br n (encX w.heap.size) (.ok (.mk 10 0 [] [x] t.place) q)) := by
  have H0 := hid h0
  clear h0
  have H1 := hid h1
  clear h1
  have H2 := hid h2
  clear h2
  have H3 := hid h3
  clear h3
  have H4 := hid h4
  clear h4
  have H5 := hid h5
  clear h5
  have HC := hid hC
  have HX := hid hx
  have HW := hid hw
  clear hC hx hw
  have P0 := prAt_begin (d := d) hr t.place
  have lr := hr.lt
  have i1 : ((t.kind : Int) == 1) = false := by simp; omega
  have i2 : ((t.kind : Int) == 2) = false := by simp; omega
  have i3 : ((t.kind : Int) == 3) = false := by simp; omega
  go_enter Tryz.func104, Tryz.ntmps104
  go_wp2_with fail
  (with_reducible refine (place_any _ br n (t :: r) (((hr.ext ((Ext.refl _).alloc _)).ext ((Ext.refl _).alloc _)).ext ((Ext.refl _).alloc _))).mono ?_)
  rintro e1 w' ⟨rfl, rfl⟩
  rw [show placeOf n (t :: r) = t.place from rfl]
  obtain ⟨b, off, cap, hne, c0, c1, fz, d0, d1, d2, d3, hcap, hmax, _, _⟩ := P0.rd.cons
  have hl0 : ((r.length : Int) + 1 > 0) := by omega
  have hl1 : ¬ ((r.length : Int) + 1 ≤ 0) := by omega
  have P0h := hid (P0.alloc (.cells #[.int .i64 t.kind, .string ⟨t.text.toArray⟩, .int .i64 t.num, .int .i64 t.place] 63))
  clear P0
  go_wp2_with fail
  (with_reducible refine (take_no _ br n (t :: r) P0h.out.rd _ H0.out).mono ?_)
  rintro e1 w1 ⟨rfl, r1, k1⟩
  have P1 := P0h.out.move r1 k1
  obtain ⟨g2, g3, ⟨x0, x1, x2, x3, x4, xf⟩, ⟨y0, y1, y2, y3, y4, yf⟩⟩ := P1.cells
  go_wp2_with fail
  (with_reducible refine (take_no _ br n (t :: r) P1.rd _ H1.out).mono ?_)
  rintro e1 w2 ⟨rfl, r2, k2⟩
  clear g2 g3 x0 x1 x2 x3 x4 xf y0 y1 y2 y3 y4 yf
  have P2 := P1.move r2 k2
  obtain ⟨g2, g3, ⟨x0, x1, x2, x3, x4, xf⟩, ⟨y0, y1, y2, y3, y4, yf⟩⟩ := P2.cells
  go_wp2_with fail
  (with_reducible refine (at0_any _ br n (t :: r) P2.rd _).mono ?_)
  rintro e1 w3 ⟨rfl, rfl⟩
  rw [show isSign (ByteArray.mk #[40]).data.toList (t :: r) = false from H2.out]
  go_wp2_with fail
  (with_reducible refine (take_no _ br n (t :: r) P2.rd _ H3.out).mono ?_)
  rintro e1 w4 ⟨rfl, r4, k4⟩
  clear g2 g3 x0 x1 x2 x3 x4 xf y0 y1 y2 y3 y4 yf
  have P4 := P2.move r4 k4
  obtain ⟨g2, g3, ⟨x0, x1, x2, x3, x4, xf⟩, ⟨y0, y1, y2, y3, y4, yf⟩⟩ := P4.cells
  go_wp2_with fail
  (with_reducible refine (take_no _ br n (t :: r) P4.rd _ H4.out).mono ?_)
  rintro e1 w5 ⟨rfl, r5, k5⟩
  clear g2 g3 x0 x1 x2 x3 x4 xf y0 y1 y2 y3 y4 yf
  have P5 := P4.move r5 k5
  obtain ⟨g2, g3, ⟨x0, x1, x2, x3, x4, xf⟩, ⟨y0, y1, y2, y3, y4, yf⟩⟩ := P5.cells
  go_wp2_with fail
  (with_reducible refine (musty _ br n (t :: r) P5.rd _ H5.out).mono ?_)
  rintro e1 w6 ⟨rfl, r6, k6⟩
  clear g2 g3 x0 x1 x2 x3 x4 xf y0 y1 y2 y3 y4 yf
  have P6 := P5.move r6 k6
  obtain ⟨g2, g3, ⟨x0, x1, x2, x3, x4, xf⟩, ⟨y0, y1, y2, y3, y4, yf⟩⟩ := P6.cells
  go_wp2_with fail
  refine (HC.out _ br n r P6.rd HW.out.tail).mono ?_
  rw [HX.out]
  rintro e1 w7 ⟨v, rfl, hv, r7, k7⟩
  have hsz := P6.size
  obtain ⟨op, num, text, ka, kn, kc, at_, rfl⟩ := hv.form
  clear g2 g3 x0 x1 x2 x3 x4 xf y0 y1 y2 y3 y4 yf
  have P7 := P6.move r7 k7
  have hsz7 := P7.size
  have hlt5 : w.heap.size + 1 + 1 + 1 < w7.heap.size := by omega
  have hlt4 : w.heap.size + 1 + 1 < w7.heap.size := by omega
  obtain ⟨g2, g3, ⟨x0, x1, x2, x3, x4, xf⟩, ⟨y0, y1, y2, y3, y4, yf⟩⟩ := P7.cells
  go_wp2_with fail
  obtain ⟨wF, hwF, BF, rF, kF, KF⟩ := ((P7.set 0 (.int .i64 10)).set 3 (.slice (some ⟨w7.heap.size, 0, none⟩) 1 1)).put (.int .i64 10) (.int .i64 0) (.string ⟨#[]⟩) (.slice (some ⟨w7.heap.size, 0, none⟩) 1 1) (.int .i64 t.place)
  rw [← hwF]
  have hF : wF.heap.size = w7.heap.size := by rw [hwF]; simp [World.setCell]
  have K9 : Keep [w.heap.size + 1 + 1 + 1, w.heap.size + 1 + 1] w7 wF := (((Keep.refl _ _).setCell (p := ⟨w.heap.size + 1 + 1 + 1, 0, none⟩) (by simp) (.int .i64 10)).setCell (p := ⟨w.heap.size + 1 + 1 + 1, 3, none⟩) (by simp) (.slice (some ⟨w7.heap.size, 0, none⟩) 1 1)).trans KF (by simp)
  have BX := Blk.new wF 100 [.int .i64 op, .int .i64 num, .string ⟨text.toArray⟩, .slice ka kn kc, .int .i64 at_]
  rw [hF] at BX
  obtain ⟨q0, q1, q2, q3, q4, _⟩ := (BF.alloc (.cells #[.int .i64 op, .int .i64 num, .string ⟨text.toArray⟩, .slice ka kn kc, .int .i64 at_] 100)).five
  refine bodyPost_ret (v := .agg #[.int .i64 10, .int .i64 0, .string ⟨#[]⟩, .slice (some ⟨w7.heap.size, 0, none⟩) 1 1, .int .i64 t.place]) (by simp only [results, Tryz.results104]; simp [go_sem, q0, q1, q2, q3, q4]) rfl ⟨_, rfl, ?_, rF.ext ((Ext.refl _).alloc _), kF.alloc _⟩
  have hxF := ((hv.carry K9 (by simp; omega) (Nat.le_refl _)).ext ((Ext.refl _).alloc (.cells #[.int .i64 op, .int .i64 num, .string ⟨text.toArray⟩, .slice ka kn kc, .int .i64 at_] 100)) (show w.heap.size ≤ _ by omega)).is
  exact encX.mk (kids := [x]) (text := []) (row_one hxF BX (by omega))

set_option maxHeartbeats 4000000 in
theorem prim_len_err (d : Nat) (hd : d ≤ 100) (w : World) (br n : Nat) (t : Tok) (r : List Tok) (hr : RdAt w br n (t :: r)) (hk : t.kind ≠ 1 ∧ t.kind ≠ 2 ∧ t.kind ≠ 3) (h0 : isSign [116, 114, 117, 101] (t :: r) = false) (h1 : isSign [102, 97, 108, 115, 101] (t :: r) = false) (h2 : isSign [40] (t :: r) = false) (h3 : isSign [103, 101, 116] (t :: r) = false) (h4 : isSign [104, 97, 115] (t :: r) = false) (h5 : isSign [108, 101, 110] (t :: r) = true) (p : Rd Ex) (hC : ExprC 111 d (innerS p)) (hw : Wf (t :: r)) (c : Nat) (q : List Tok) (hx : innerS p r = .err c q) :
    Calls Tryz.prog 104 #[.pointer (some ⟨br, 0, none⟩), .int .i64 d] w (Ans w br n (encX w.heap.size) (.err c q : Res Ex)) := by
  have H0 := hid h0
  clear h0
  have H1 := hid h1
  clear h1
  have H2 := hid h2
  clear h2
  have H3 := hid h3
  clear h3
  have H4 := hid h4
  clear h4
  have H5 := hid h5
  clear h5
  have HC := hid hC
  have HX := hid hx
  have HW := hid hw
  clear hC hx hw
  have P0 := prAt_begin (d := d) hr t.place
  have lr := hr.lt
  have i1 : ((t.kind : Int) == 1) = false := by simp; omega
  have i2 : ((t.kind : Int) == 2) = false := by simp; omega
  have i3 : ((t.kind : Int) == 3) = false := by simp; omega
  go_enter Tryz.func104, Tryz.ntmps104
  go_wp2_with fail
  (with_reducible refine (place_any _ br n (t :: r) (((hr.ext ((Ext.refl _).alloc _)).ext ((Ext.refl _).alloc _)).ext ((Ext.refl _).alloc _))).mono ?_)
  rintro e1 w' ⟨rfl, rfl⟩
  rw [show placeOf n (t :: r) = t.place from rfl]
  obtain ⟨b, off, cap, hne, c0, c1, fz, d0, d1, d2, d3, hcap, hmax, _, _⟩ := P0.rd.cons
  have hl0 : ((r.length : Int) + 1 > 0) := by omega
  have hl1 : ¬ ((r.length : Int) + 1 ≤ 0) := by omega
  have P0h := hid (P0.alloc (.cells #[.int .i64 t.kind, .string ⟨t.text.toArray⟩, .int .i64 t.num, .int .i64 t.place] 63))
  clear P0
  go_wp2_with fail
  (with_reducible refine (take_no _ br n (t :: r) P0h.out.rd _ H0.out).mono ?_)
  rintro e1 w1 ⟨rfl, r1, k1⟩
  have P1 := P0h.out.move r1 k1
  obtain ⟨g2, g3, ⟨x0, x1, x2, x3, x4, xf⟩, ⟨y0, y1, y2, y3, y4, yf⟩⟩ := P1.cells
  go_wp2_with fail
  (with_reducible refine (take_no _ br n (t :: r) P1.rd _ H1.out).mono ?_)
  rintro e1 w2 ⟨rfl, r2, k2⟩
  clear g2 g3 x0 x1 x2 x3 x4 xf y0 y1 y2 y3 y4 yf
  have P2 := P1.move r2 k2
  obtain ⟨g2, g3, ⟨x0, x1, x2, x3, x4, xf⟩, ⟨y0, y1, y2, y3, y4, yf⟩⟩ := P2.cells
  go_wp2_with fail
  (with_reducible refine (at0_any _ br n (t :: r) P2.rd _).mono ?_)
  rintro e1 w3 ⟨rfl, rfl⟩
  rw [show isSign (ByteArray.mk #[40]).data.toList (t :: r) = false from H2.out]
  go_wp2_with fail
  (with_reducible refine (take_no _ br n (t :: r) P2.rd _ H3.out).mono ?_)
  rintro e1 w4 ⟨rfl, r4, k4⟩
  clear g2 g3 x0 x1 x2 x3 x4 xf y0 y1 y2 y3 y4 yf
  have P4 := P2.move r4 k4
  obtain ⟨g2, g3, ⟨x0, x1, x2, x3, x4, xf⟩, ⟨y0, y1, y2, y3, y4, yf⟩⟩ := P4.cells
  go_wp2_with fail
  (with_reducible refine (take_no _ br n (t :: r) P4.rd _ H4.out).mono ?_)
  rintro e1 w5 ⟨rfl, r5, k5⟩
  clear g2 g3 x0 x1 x2 x3 x4 xf y0 y1 y2 y3 y4 yf
  have P5 := P4.move r5 k5
  obtain ⟨g2, g3, ⟨x0, x1, x2, x3, x4, xf⟩, ⟨y0, y1, y2, y3, y4, yf⟩⟩ := P5.cells
  go_wp2_with fail
  (with_reducible refine (musty _ br n (t :: r) P5.rd _ H5.out).mono ?_)
  rintro e1 w6 ⟨rfl, r6, k6⟩
  clear g2 g3 x0 x1 x2 x3 x4 xf y0 y1 y2 y3 y4 yf
  have P6 := P5.move r6 k6
  obtain ⟨g2, g3, ⟨x0, x1, x2, x3, x4, xf⟩, ⟨y0, y1, y2, y3, y4, yf⟩⟩ := P6.cells
  go_wp2_with fail
  refine (HC.out _ br n r P6.rd HW.out.tail).mono ?_
  rw [HX.out]
  rintro e1 w7 ⟨rfl, k7⟩
  go_wp2_with fail
  exact ⟨rfl, rfl, P6.keep.trans' k7⟩

set_option maxHeartbeats 4000000 in
theorem prim_none (d : Nat) (hd : d ≤ 100) (w : World) (br n : Nat) (t : Tok) (r : List Tok) (hr : RdAt w br n (t :: r)) (hk : t.kind ≠ 1 ∧ t.kind ≠ 2 ∧ t.kind ≠ 3) (h0 : isSign [116, 114, 117, 101] (t :: r) = false) (h1 : isSign [102, 97, 108, 115, 101] (t :: r) = false) (h2 : isSign [40] (t :: r) = false) (h3 : isSign [103, 101, 116] (t :: r) = false) (h4 : isSign [104, 97, 115] (t :: r) = false) (h5 : isSign [108, 101, 110] (t :: r) = false) :
    Calls Tryz.prog 104 #[.pointer (some ⟨br, 0, none⟩), .int .i64 d] w (Ans w br n (encX w.heap.size) (.err 41 (t :: r) : Res Ex)) := by
  have H0 := hid h0
  clear h0
  have H1 := hid h1
  clear h1
  have H2 := hid h2
  clear h2
  have H3 := hid h3
  clear h3
  have H4 := hid h4
  clear h4
  have H5 := hid h5
  clear h5
  have P0 := prAt_begin (d := d) hr t.place
  have lr := hr.lt
  have i1 : ((t.kind : Int) == 1) = false := by simp; omega
  have i2 : ((t.kind : Int) == 2) = false := by simp; omega
  have i3 : ((t.kind : Int) == 3) = false := by simp; omega
  go_enter Tryz.func104, Tryz.ntmps104
  go_wp2_with fail
  (with_reducible refine (place_any _ br n (t :: r) (((hr.ext ((Ext.refl _).alloc _)).ext ((Ext.refl _).alloc _)).ext ((Ext.refl _).alloc _))).mono ?_)
  rintro e1 w' ⟨rfl, rfl⟩
  rw [show placeOf n (t :: r) = t.place from rfl]
  obtain ⟨b, off, cap, hne, c0, c1, fz, d0, d1, d2, d3, hcap, hmax, _, _⟩ := P0.rd.cons
  have hl0 : ((r.length : Int) + 1 > 0) := by omega
  have hl1 : ¬ ((r.length : Int) + 1 ≤ 0) := by omega
  have P0h := hid (P0.alloc (.cells #[.int .i64 t.kind, .string ⟨t.text.toArray⟩, .int .i64 t.num, .int .i64 t.place] 63))
  clear P0
  go_wp2_with fail
  (with_reducible refine (take_no _ br n (t :: r) P0h.out.rd _ H0.out).mono ?_)
  rintro e1 w1 ⟨rfl, r1, k1⟩
  have P1 := P0h.out.move r1 k1
  obtain ⟨g2, g3, ⟨x0, x1, x2, x3, x4, xf⟩, ⟨y0, y1, y2, y3, y4, yf⟩⟩ := P1.cells
  go_wp2_with fail
  (with_reducible refine (take_no _ br n (t :: r) P1.rd _ H1.out).mono ?_)
  rintro e1 w2 ⟨rfl, r2, k2⟩
  clear g2 g3 x0 x1 x2 x3 x4 xf y0 y1 y2 y3 y4 yf
  have P2 := P1.move r2 k2
  obtain ⟨g2, g3, ⟨x0, x1, x2, x3, x4, xf⟩, ⟨y0, y1, y2, y3, y4, yf⟩⟩ := P2.cells
  go_wp2_with fail
  (with_reducible refine (at0_any _ br n (t :: r) P2.rd _).mono ?_)
  rintro e1 w3 ⟨rfl, rfl⟩
  rw [show isSign (ByteArray.mk #[40]).data.toList (t :: r) = false from H2.out]
  go_wp2_with fail
  (with_reducible refine (take_no _ br n (t :: r) P2.rd _ H3.out).mono ?_)
  rintro e1 w4 ⟨rfl, r4, k4⟩
  clear g2 g3 x0 x1 x2 x3 x4 xf y0 y1 y2 y3 y4 yf
  have P4 := P2.move r4 k4
  obtain ⟨g2, g3, ⟨x0, x1, x2, x3, x4, xf⟩, ⟨y0, y1, y2, y3, y4, yf⟩⟩ := P4.cells
  go_wp2_with fail
  (with_reducible refine (take_no _ br n (t :: r) P4.rd _ H4.out).mono ?_)
  rintro e1 w5 ⟨rfl, r5, k5⟩
  clear g2 g3 x0 x1 x2 x3 x4 xf y0 y1 y2 y3 y4 yf
  have P5 := P4.move r5 k5
  obtain ⟨g2, g3, ⟨x0, x1, x2, x3, x4, xf⟩, ⟨y0, y1, y2, y3, y4, yf⟩⟩ := P5.cells
  go_wp2_with fail
  (with_reducible refine (mustn _ br n (t :: r) P5.rd _ H5.out).mono ?_)
  rintro e1 w6 ⟨rfl, k6⟩
  go_wp2_with fail
  exact ⟨rfl, rfl, P5.keep.trans' k6⟩

set_option maxHeartbeats 4000000 in
theorem prim_nil (d : Nat) (hd : d ≤ 100) (w : World) (br n : Nat) (hr : RdAt w br n []) :
    Calls Tryz.prog 104 #[.pointer (some ⟨br, 0, none⟩), .int .i64 d] w (Ans w br n (encX w.heap.size) (.err 41 [] : Res Ex)) := by
  have P0 := prAt_begin (d := d) hr n
  have lr := hr.lt
  obtain ⟨a, cap, c0, c1, fz⟩ := P0.rd.nil
  have P0h := hid P0
  clear P0
  go_enter Tryz.func104, Tryz.ntmps104
  go_wp2_with fail
  (with_reducible refine (place_any _ br n [] (((hr.ext ((Ext.refl _).alloc _)).ext ((Ext.refl _).alloc _)).ext ((Ext.refl _).alloc _))).mono ?_)
  rintro e1 w' ⟨rfl, rfl⟩
  rw [show placeOf n [] = n from rfl]
  go_wp2_with fail
  (with_reducible refine (take_no _ br n [] P0h.out.rd _ rfl).mono ?_)
  rintro e1 w1 ⟨rfl, r1, k1⟩
  have P1 := P0h.out.move r1 k1
  obtain ⟨g2, g3, ⟨x0, x1, x2, x3, x4, xf⟩, ⟨y0, y1, y2, y3, y4, yf⟩⟩ := P1.cells
  go_wp2_with fail
  (with_reducible refine (take_no _ br n [] P1.rd _ rfl).mono ?_)
  rintro e1 w2 ⟨rfl, r2, k2⟩
  clear g2 g3 x0 x1 x2 x3 x4 xf y0 y1 y2 y3 y4 yf
  have P2 := P1.move r2 k2
  obtain ⟨g2, g3, ⟨x0, x1, x2, x3, x4, xf⟩, ⟨y0, y1, y2, y3, y4, yf⟩⟩ := P2.cells
  go_wp2_with fail
  (with_reducible refine (at0_any _ br n [] P2.rd _).mono ?_)
  rintro e1 w3 ⟨rfl, rfl⟩
  rw [show isSign (ByteArray.mk #[40]).data.toList [] = false from rfl]
  go_wp2_with fail
  (with_reducible refine (take_no _ br n [] P2.rd _ rfl).mono ?_)
  rintro e1 w4 ⟨rfl, r4, k4⟩
  clear g2 g3 x0 x1 x2 x3 x4 xf y0 y1 y2 y3 y4 yf
  have P4 := P2.move r4 k4
  obtain ⟨g2, g3, ⟨x0, x1, x2, x3, x4, xf⟩, ⟨y0, y1, y2, y3, y4, yf⟩⟩ := P4.cells
  go_wp2_with fail
  (with_reducible refine (take_no _ br n [] P4.rd _ rfl).mono ?_)
  rintro e1 w5 ⟨rfl, r5, k5⟩
  clear g2 g3 x0 x1 x2 x3 x4 xf y0 y1 y2 y3 y4 yf
  have P5 := P4.move r5 k5
  obtain ⟨g2, g3, ⟨x0, x1, x2, x3, x4, xf⟩, ⟨y0, y1, y2, y3, y4, yf⟩⟩ := P5.cells
  go_wp2_with fail
  (with_reducible refine (mustn _ br n [] P5.rd _ rfl).mono ?_)
  rintro e1 w6 ⟨rfl, k6⟩
  go_wp2_with fail
  exact ⟨rfl, rfl, P5.keep.trans' k6⟩

/-- PRIMARY. -/
theorem primary_any (d : Nat) (hd : d ≤ 100) (p : Rd Ex) (hC : ExprC 80 (d + 1) p) (hi : Inv Ex.size WFx p) : ExprC 104 d (primaryS p) := by
  intro w br n ts hr hw
  cases ts with
  | nil => exact prim_nil d hd w br n hr
  | cons t r =>
    rw [primaryS_cons]
    by_cases k2 : t.kind = 2
    · rw [if_pos k2]; exact prim_num d hd p w br n t r hr k2
    rw [if_neg k2]
    by_cases k3 : t.kind = 3
    · rw [if_pos k3]; exact prim_text d hd w br n t r hr k3
    rw [if_neg k3]
    by_cases k1 : t.kind = 1
    · rw [if_pos k1]
      cases hp : isSign [40] r with
      | false => exact prim_name d hd w br n t r hr k1 hp
      | true =>
        simp only [if_true]
        cases hl : listS p r.tail with
        | ok ks q => exact prim_call_ok d hd p hC hi w br n t r hr hw k1 hp ks q hl
        | err c q => exact prim_call_err d hd p hC hi w br n t r hr hw k1 hp c q hl
    rw [if_neg k1]
    have hk : t.kind ≠ 1 ∧ t.kind ≠ 2 ∧ t.kind ≠ 3 := ⟨k1, k2, k3⟩
    have hI := inner_any d hd p hC hi
    unfold wordsS
    cases h0 : isSign [116, 114, 117, 101] (t :: r) with
    | true => exact prim_true d hd w br n t r hr hk h0
    | false =>
      cases h1 : isSign [102, 97, 108, 115, 101] (t :: r) with
      | true => exact prim_false d hd w br n t r hr hk h0 h1
      | false =>
        cases h2 : isSign [40] (t :: r) with
        | true =>
          simp only [if_true, Bool.false_eq_true, if_false]
          cases hx : innerS p (t :: r) with
          | ok x q => exact prim_par_ok d hd w br n t r hr hk h0 h1 h2 p hI hw x q hx
          | err c q => exact prim_par_err d hd w br n t r hr hk h0 h1 h2 p hI hw c q hx
        | false =>
          cases h3 : isSign [103, 101, 116] (t :: r) with
          | true =>
            simp only [if_true, Bool.false_eq_true, if_false]
            cases hx : innerS p r with
            | ok x q => rw [show innerS p (t :: r).tail = .ok x q from hx]; exact prim_get_ok d hd w br n t r hr hk h0 h1 h2 h3 p hI hw x q hx
            | err c q => rw [show innerS p (t :: r).tail = .err c q from hx]; exact prim_get_err d hd w br n t r hr hk h0 h1 h2 h3 p hI hw c q hx
          | false =>
            cases h4 : isSign [104, 97, 115] (t :: r) with
            | true =>
              simp only [if_true, Bool.false_eq_true, if_false]
              cases hx : innerS p r with
              | ok x q => rw [show innerS p (t :: r).tail = .ok x q from hx]; exact prim_has_ok d hd w br n t r hr hk h0 h1 h2 h3 h4 p hI hw x q hx
              | err c q => rw [show innerS p (t :: r).tail = .err c q from hx]; exact prim_has_err d hd w br n t r hr hk h0 h1 h2 h3 h4 p hI hw c q hx
            | false =>
              simp only [Bool.false_eq_true, if_false]
              cases h5 : isSign [108, 101, 110] (t :: r) with
              | true =>
                rw [must_t h5]
                cases hx : innerS p r with
                | ok x q => rw [show innerS p (t :: r).tail = .ok x q from hx]; exact prim_len_ok d hd w br n t r hr hk h0 h1 h2 h3 h4 h5 p hI hw x q hx
                | err c q => rw [show innerS p (t :: r).tail = .err c q from hx]; exact prim_len_err d hd w br n t r hr hk h0 h1 h2 h3 h4 h5 p hI hw c q hx
              | false =>
                rw [must_f h5]
                exact prim_none d hd w br n t r hr hk h0 h1 h2 h3 h4 h5
end Go.Proofs.YtaehlakefgnfmaaGreatDoor
