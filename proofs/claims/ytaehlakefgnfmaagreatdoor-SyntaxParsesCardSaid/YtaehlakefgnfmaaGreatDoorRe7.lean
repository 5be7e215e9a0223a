/-
  DERIVED. THE WALKS of the document's reader's levels, level (printed by gen_re7.py).
-/
import Derived.Test.YtaehlakefgnfmaaGreatDoorRe6
import Derived.Test.YtaehlakefgnfmaaGreatDoorSigns
namespace Go.Proofs.YtaehlakefgnfmaaGreatDoor
set_option linter.unusedSimpArgs false
set_option linter.unusedVariables false
set_option maxRecDepth 100000
open Go.RowKit

/-- The table of signs, from block b on. -/
structure TabR (w : World) (b : Nat) : Prop where
  row : ∀ m, m < 5 → Blk w (b + m) 9 ((levelSigns m).map strW)
  tab : Blk w (b + 5) 80 [.slice (some ⟨b, 0, none⟩) 1 1, .slice (some ⟨b + 1, 0, none⟩) 1 1, .slice (some ⟨b + 2, 0, none⟩) 6 6, .slice (some ⟨b + 3, 0, none⟩) 2 2, .slice (some ⟨b + 4, 0, none⟩) 3 3]
theorem TabR.keep {w w' : World} {b : Nat} {T : List Nat} (h : TabR w b) (k : Keep T w w') (hT : ∀ q ∈ T, q < b ∨ b + 5 < q) : TabR w' b :=
  ⟨fun m hm => (h.row m hm).keep k (fun hq => by have := hT _ hq; omega), h.tab.keep k (fun hq => by have := hT _ hq; omega)⟩
theorem TabR.at {w : World} {b m : Nat} (h : TabR w b) (hm : m < 5) : w.cell? ⟨b + 5, m, none⟩ = some (.slice (some ⟨b + m, 0, none⟩) (levelSigns m).length (levelSigns m).length) := by
  rw [h.tab.cell m]
  rcases (by omega : m = 0 ∨ m = 1 ∨ m = 2 ∨ m = 3 ∨ m = 4) with rfl | rfl | rfl | rfl | rfl <;> rfl
theorem TabR.sign {w : World} {b m j : Nat} (h : TabR w b) (hm : m < 5) (hj : j < (levelSigns m).length) : w.cell? ⟨b + m, j, none⟩ = some (.string ⟨(levelSigns m)[j].toArray⟩) := by
  rw [(h.row m hm).cell j, List.getElem?_map, List.getElem?_eq_getElem hj]; rfl
set_option maxHeartbeats 4000000 in
theorem rLevels_any (w : World) :
    Calls Tryz.prog 101 #[] w fun e w' => e = .returned (.slice (some ⟨w.heap.size + 5, 0, none⟩) 5 5) ∧ TabR w' w.heap.size ∧ Ext w w' := by
  go_enter Tryz.func101, Tryz.ntmps101
  go_wp2_with fail
  go_ret
  refine ⟨rfl, ⟨fun m hm => ?_, ?_⟩, ?_⟩
  · have b0 := Blk.new w 9 [.string ⟨#[124, 124]⟩]
    have b1 := Blk.new (w.alloc (.cells #[.string ⟨#[124, 124]⟩] 9)) 9 [.string ⟨#[38, 38]⟩]
    have b2 := Blk.new ((w.alloc (.cells #[.string ⟨#[124, 124]⟩] 9)).alloc (.cells #[.string ⟨#[38, 38]⟩] 9)) 9 [.string ⟨#[61, 61]⟩, .string ⟨#[33, 61]⟩, .string ⟨#[60]⟩, .string ⟨#[60, 61]⟩, .string ⟨#[62]⟩, .string ⟨#[62, 61]⟩]
    have b3 := Blk.new (((w.alloc (.cells #[.string ⟨#[124, 124]⟩] 9)).alloc (.cells #[.string ⟨#[38, 38]⟩] 9)).alloc (.cells #[.string ⟨#[61, 61]⟩, .string ⟨#[33, 61]⟩, .string ⟨#[60]⟩, .string ⟨#[60, 61]⟩, .string ⟨#[62]⟩, .string ⟨#[62, 61]⟩] 9)) 9 [.string ⟨#[43]⟩, .string ⟨#[45]⟩]
    have b4 := Blk.new ((((w.alloc (.cells #[.string ⟨#[124, 124]⟩] 9)).alloc (.cells #[.string ⟨#[38, 38]⟩] 9)).alloc (.cells #[.string ⟨#[61, 61]⟩, .string ⟨#[33, 61]⟩, .string ⟨#[60]⟩, .string ⟨#[60, 61]⟩, .string ⟨#[62]⟩, .string ⟨#[62, 61]⟩] 9)).alloc (.cells #[.string ⟨#[43]⟩, .string ⟨#[45]⟩] 9)) 9 [.string ⟨#[42]⟩, .string ⟨#[47]⟩, .string ⟨#[37]⟩]
    simp only [World.size_alloc] at b1 b2 b3 b4
    rcases (by omega : m = 0 ∨ m = 1 ∨ m = 2 ∨ m = 3 ∨ m = 4) with rfl | rfl | rfl | rfl | rfl
    · exact ((((b0.alloc _).alloc _).alloc _).alloc _).alloc _
    · exact (((b1.alloc _).alloc _).alloc _).alloc _
    · exact ((b2.alloc _).alloc _).alloc _
    · exact (b3.alloc _).alloc _
    · exact b4.alloc _
  · have b5 := Blk.new (((((w.alloc (.cells #[.string ⟨#[124, 124]⟩] 9)).alloc (.cells #[.string ⟨#[38, 38]⟩] 9)).alloc (.cells #[.string ⟨#[61, 61]⟩, .string ⟨#[33, 61]⟩, .string ⟨#[60]⟩, .string ⟨#[60, 61]⟩, .string ⟨#[62]⟩, .string ⟨#[62, 61]⟩] 9)).alloc (.cells #[.string ⟨#[43]⟩, .string ⟨#[45]⟩] 9)).alloc (.cells #[.string ⟨#[42]⟩, .string ⟨#[47]⟩, .string ⟨#[37]⟩] 9)) 80 [.slice (some ⟨w.heap.size, 0, none⟩) 1 1, .slice (some ⟨w.heap.size + 1, 0, none⟩) 1 1, .slice (some ⟨w.heap.size + 2, 0, none⟩) 6 6, .slice (some ⟨w.heap.size + 3, 0, none⟩) 2 2, .slice (some ⟨w.heap.size + 4, 0, none⟩) 3 3]
    simp only [World.size_alloc] at b5
    exact b5
  · repeat (with_reducible first | exact Ext.refl _ | refine Ext.alloc ?_ _)
theorem levelGo_op {next : Rd Ex} {n f : Nat} {x : Ex} {ts : List Tok} (h : isOp n ts = true) : levelGo next n (f + 1) x ts = (next ts.tail).bind fun y r => if n = 2 then .ok (.mk 6 0 (headText ts) [x, y] (headPlace ts)) r else levelGo next n f (.mk 6 0 (headText ts) [x, y] (headPlace ts)) r := by
  show (if isOp n ts then _ else _) = _
  rw [if_pos h]
theorem levelGo_none {next : Rd Ex} {n f : Nat} {x : Ex} {ts : List Tok} (h : isOp n ts = false) : levelGo next n (f + 1) x ts = .ok x ts := by
  show (if isOp n ts then _ else _) = _
  rw [h]; rfl
/-- A row of two expressions. -/
theorem ex_row2 {w : World} {F : Nat → Prop} {b : Nat} {x y : Ex} {vs us : List Value} (hb : Blk w b 100 (vs ++ us)) (hF : F b) (hx : ExIs w F x vs) (hy : ExIs w F y us) : RowIs w F (.slice (some ⟨b, 0, none⟩) 2 2) 2 (fun ks => ExsIs w F [x, y] ks) := by
  refine ⟨some ⟨b, 0, none⟩, 2, vs ++ us, rfl, Nat.le_refl _, fun i v hv => ⟨b, 0, rfl, hF, ?_⟩, ?_⟩
  · rw [Nat.zero_add, hb.cell i, hv]
  · simp only [ExsIs]
    exact ⟨vs, us, rfl, hx, us, [], by simp, hy, rfl⟩
/-- What has been read so far, of a level. -/
def LvIs (G : Prop) (wr : World) (N b8 B0 m : Nat) (next : Rd Ex) (R : Res Ex) (T : Rz) (k : Nat) (again : Bool) (vs : List Value) : Rz → Prop
  | .ok us => G ∧ ∃ x, ExIs wr (fun b => B0 ≤ b ∧ b ≠ b8) x vs ∧ Wf us ∧ (again = true → us.length + 3 < k ∧ R = levelGo next m (k - 3) x us) ∧ (again = false → R = .ok x us)
  | .bad x q => T = .bad x q
def LvOut (G : Prop) (w : World) (br N b8 m : Nat) (next : Rd Ex) (R : Res Ex) (T : Rz) (k : Nat) (av : Value) (wr : World) : Prop :=
  ∃ again vs S, av = .bool again ∧ exForm vs ∧ ReAt wr br N S ∧ Blk wr w.heap.size 100 ex0 ∧ TabR wr (w.heap.size + 1) ∧ Blk wr b8 100 vs ∧ Keep [br] w wr ∧ (again = true → 2 < k) ∧ 0 < k ∧ LvIs G wr N b8 (w.heap.size + 7) m next R T k again vs S
def LvIn (G : Prop) (w : World) (br N b8 m : Nat) (next : Rd Ex) (R : Res Ex) (T : Rz) (k : Nat) (av iv : Value) (wr : World) : Prop :=
  ∃ again vs S j, av = .bool again ∧ iv = .int .i64 (j : Nat) ∧ j ≤ (levelSigns m).length ∧ exForm vs ∧ ReAt wr br N S ∧ Blk wr w.heap.size 100 ex0 ∧ TabR wr (w.heap.size + 1) ∧ Blk wr b8 100 vs ∧ Keep [br] w wr ∧ 2 < k ∧
    ((again = false ∧ (∀ j', (h : j' < (levelSigns m).length) → j' < j → isS (levelSigns m)[j'] S = false) ∧ LvIs G wr N b8 (w.heap.size + 7) m next R T k true vs S) ∨
     (again = true ∧ ((m = 2 ∧ LvIs G wr N b8 (w.heap.size + 7) m next R T (k - 1) false vs S) ∨ (m ≠ 2 ∧ LvIs G wr N b8 (w.heap.size + 7) m next R T (k - 1) true vs S ∧ 2 < k - 1))))
theorem LvIs.keep {G : Prop} {wr w' : World} {N b8 B0 m : Nat} {next : Rd Ex} {R : Res Ex} {T : Rz} {k : Nat} {again : Bool} {vs : List Value} {S : Rz} {Tl : List Nat} (h : LvIs G wr N b8 B0 m next R T k again vs S) (kk : Keep Tl wr w') (hT : ∀ q ∈ Tl, q < B0 ∨ q = b8) : LvIs G w' N b8 B0 m next R T k again vs S := by
  cases S with
  | bad x q => exact h
  | ok us =>
    obtain ⟨hg, x, hx, h3⟩ := h
    exact ⟨hg, x, ExIs.carry (Carry.keep kk (fun b hb _ hf => by have := hT b hb; have := hf.1; have := hf.2; omega) (fun b _ hf => hf)) _ _ hx, h3⟩
def lenS : Rz → Nat
  | .ok ts => ts.length
  | .bad _ _ => 0
/-- A level over the next. -/
def lvlR (next : Rd Ex) (m : Nat) : Rd Ex := fun ts => (next ts).bind fun x r => levelGo next m (r.length + 1) x r
def rOf (next : Rd Ex) (m : Nat) : Rz → Res Ex
  | .ok ts => lvlR next m ts
  | .bad _ _ => .err 0 []
set_option maxHeartbeats 64000000 in
theorem rLevel_step {A : Rz → Prop} (m : Nat) (hm : m < 5) (d : Nat) (hd : d ≤ 33) (next : Rd Ex) (hI : Inv Ex.size WFx next) (hN : LvC A (m + 1) d next) (hN2 : (∃ ts, A (.ok ts)) → LvC Any (m + 1) d next) : LvC A m d (lvlR next m) := by
  intro w br N S hS hr
  have hlt := hr.lt
  have hm5 : ((m : Int) == 5) = false := by simp; omega
  have hmi : (m : Int) < 5 := by omega
  have hcm : (((m + 1 : Nat)) : Int) = (m : Int) + 1 := by omega
  have HN := hid (show Calls Tryz.prog 92 #[.pointer (some ⟨br, 0, none⟩), .int .i64 ((m : Int) + 1), .int .i64 d] w (ExPost w br N S next) → True from fun _ => trivial)
  have HN1 : Hid (∀ w, ReAt w br N S → Calls Tryz.prog 92 #[.pointer (some ⟨br, 0, none⟩), .int .i64 ((m : Int) + 1), .int .i64 d] w (ExPost w br N S next)) := fun w h2 => by
    have := hN w br N S hS h2
    rw [hcm] at this
    exact this
  have HN2 : Hid ((∃ ts, A (.ok ts)) → ∀ w S, ReAt w br N S → Calls Tryz.prog 92 #[.pointer (some ⟨br, 0, none⟩), .int .i64 ((m : Int) + 1), .int .i64 d] w (ExPost w br N S next)) := fun h w S h2 => by
    have := hN2 h w br N S trivial h2
    rw [hcm] at this
    exact this
  have HSA := hid hS
  clear HN hN hN2 hcm hS
  go_enter Tryz.func92, Tryz.ntmps92
  go_wp2_with fail
  refine (rLevels_any _).mono ?_
  rintro e' w1 ⟨rfl, hT1, e1⟩
  rw [World.size_alloc] at hT1 ⊢
  have KA1 : Keep [br] w w1 := ((Keep.refl [br] w).alloc (.cells ex0.toArray 100)).trans' (Keep.ofExt e1)
  have bA1 := (Blk.new w 100 ex0).ext e1
  have lt1 := hT1.tab.lt
  go_wp2_with fail
  refine (HN1.out w1 (hr.ext (((Ext.refl _).alloc _).trans e1))).mono ?_
  rintro e' w2 ⟨⟨vs, rfl, ⟨op8, num8, text8, ka8, kn8, kc8, at8, rfl⟩, hx⟩, r2, k2⟩
  have KA2 := KA1.trans' k2
  have bA2 := bA1.keep k2 (by simp; omega)
  have hT2 := hT1.keep k2 (fun q hq => by simp only [List.mem_singleton] at hq; omega)
  have lt2 := hT2.tab.lt
  obtain ⟨R, hR⟩ : ∃ R : Res Ex, R = rOf next m S := ⟨_, rfl⟩
  obtain ⟨T, hT⟩ : ∃ T : Rz, T = aft N (lvlR next m) S := ⟨_, rfl⟩
  obtain ⟨G, hG⟩ : ∃ G : Prop, G = ∃ ts, S = .ok ts ∧ A (.ok ts) := ⟨_, rfl⟩
  have HREL := hid (show LvOut G w br N w2.heap.size m next R T (lenS (aft N next S) + 4) (.bool true) (w2.alloc (.cells #[.int .i64 op8, .int .i64 num8, .string ⟨text8.toArray⟩, .slice ka8 kn8 kc8, .int .i64 at8] 100)) from by
    refine ⟨true, _, aft N next S, rfl, ⟨op8, num8, text8, ka8, kn8, kc8, at8, rfl⟩, r2.ext ((Ext.refl _).alloc _), bA2.alloc _, hT2.keep (Keep.ofExt ((Ext.refl _).alloc _) : Keep [] _ _) (by simp), Blk.new w2 100 [.int .i64 op8, .int .i64 num8, .string ⟨text8.toArray⟩, .slice ka8 kn8 kc8, .int .i64 at8], KA2.alloc _, fun _ => by omega, by omega, ?_⟩
    subst hR hT hG
    cases S with
    | bad x q => exact rfl
    | ok ts =>
      have hw := hr.wf.1
      have hF := hI ts hw
      cases hn : next ts with
      | err x r =>
        simp only [aft, hn, toS, LvIs, lvlR, Res.bind]
      | ok x r =>
        rw [hn] at hF
        simp only [aft, hn, toS]
        refine ⟨⟨ts, rfl, HSA.out⟩, x, ?_, hF.2.2, fun _ => ⟨by simp only [lenS]; omega, by simp only [rOf, lvlR, hn, Res.bind, lenS]; rfl⟩, (fun h => nomatch h)⟩
        exact ExIs.carry (Carry.keep (Keep.ofExt ((Ext.refl _).alloc _) : Keep [] _ _) (by simp) (fun b hlt hb => ⟨by have hb' : w1.heap.size ≤ b := hb; omega, by omega⟩)) _ _ (hx x ⟨ts, r, rfl, hn⟩))
  have HG := hid (show G → (∃ ts, A (.ok ts)) ∧ T = toS N R from fun h => by
    rw [hG] at h
    obtain ⟨ts, rfl, h⟩ := h
    exact ⟨⟨ts, h⟩, by rw [hT, hR]; rfl⟩)
  have HT := hid hT
  have HRS := hid hR
  clear hT hR hG hx
  generalize hK : lenS (aft N next S) + 4 = K at HREL
  clear hK
  have hb8 : w.heap.size + 6 < w2.heap.size := by omega
  go_wp2_with fail
  go_loopg [9, 10, 11, 12, 13] K (fun k av _ _ _ _ wr => LvOut G w br N w2.heap.size m next R T k av wr)
  case atStart => exact HREL.out
  case round =>
    obtain ⟨again, vs, S1, rfl, ⟨op8, num8, text8, ka8, kn8, kc8, at8, rfl⟩, rr, b0, hT, b8, kr, hk2, hk0, hIs⟩ := hrel
    obtain ⟨k, rfl⟩ : ∃ k, gk = k + 1 := ⟨gk - 1, by omega⟩
    have HIS := hid hIs
    clear hIs HREL
    cases again with
    | false =>
      have bR := b0
      unfold ex0 at bR
      obtain ⟨e0, e1', e2, e3, e4, ef⟩ := bR.fiveR
      obtain ⟨y0, y1, y2, y3, y4, yf⟩ := b8.fiveR
      have bF := bR.put5 (.int .i64 op8) (.int .i64 num8) (.string ⟨text8.toArray⟩) (.slice ka8 kn8 kc8) (.int .i64 at8)
      have kF := Keep.put5 wr w.heap.size (.int .i64 op8) (.int .i64 num8) (.string ⟨text8.toArray⟩) (.slice ka8 kn8 kc8) (.int .i64 at8)
      obtain ⟨x0, x1, x2, x3, x4, _⟩ := bF.fiveR
      have l0 := b0.lt
      go_wp2_with fail
      refine bodyPost_ret (v := .agg #[.int .i64 op8, .int .i64 num8, .string ⟨text8.toArray⟩, .slice ka8 kn8 kc8, .int .i64 at8]) (by simp [results, Tryz.results92, go_sem, x0, x1, x2, x3, x4]) rfl ⟨⟨_, rfl, ⟨op8, num8, text8, ka8, kn8, kc8, at8, rfl⟩, fun x hg => ?_⟩, ?_, kr.trans kF (by simp)⟩
      · obtain ⟨ts, r, rfl, hg⟩ := hg
        have hRT : R = .ok x r := by rw [HRS.out]; exact hg
        have h1 := HIS.out
        cases S1 with
        | bad x' q =>
          have h2 : aft N (lvlR next m) (.ok ts) = .bad x' q := by rw [← HT.out]; exact h1
          simp only [aft, hg, toS] at h2
          cases h2
        | ok us =>
          obtain ⟨_, y, hy, _, _, h3⟩ := h1
          have h4 := h3 rfl
          rw [hRT] at h4
          cases h4
          exact hy.keep kF (by simp; omega) _ (fun b hb => by have := hb.1; omega)
      · have hS1 : S1 = aft N (lvlR next m) S := by
          rw [← HT.out]
          have h1 := HIS.out
          cases S1 with
          | bad x' q => exact h1.symm
          | ok us =>
            obtain ⟨hg, y, _, _, _, h3⟩ := h1
            rw [(HG.out hg).2, h3 rfl]; rfl
        rw [← hS1]
        exact rr.keep kF (by simp; omega)
    | true =>
      have hk3 := hk2 rfl
      go_wp2_with fail
      go_loopw [9, 10, 11, 12, 13] (fun av iv _ _ _ wr' => LvIn G w br N w2.heap.size m next R T (k + 1) av iv wr') (fun _ iv _ _ _ _ => 7 - (intOf iv).toNat)
      case atStart => exact ⟨false, _, S1, 0, rfl, rfl, Nat.zero_le _, ⟨op8, num8, text8, ka8, kn8, kc8, at8, rfl⟩, rr, b0, hT, b8, kr, hk3, .inl ⟨rfl, fun j' _ h => by omega, HIS.out⟩⟩
      case round =>
        clear HIS rr b0 hT b8 kr
        obtain ⟨again, vs, S1, j, rfl, rfl, hjL, ⟨op8, num8, text8, ka8, kn8, kc8, at8, rfl⟩, rr, b0, hT, b8, kr, hk4, hcase⟩ := hrel
        have ht := hT.at hm
        have lt := hT.tab.lt
        have l8 := b8.lt
        have hL6 : (levelSigns m).length ≤ 6 := by
          rcases (by omega : m = 0 ∨ m = 1 ∨ m = 2 ∨ m = 3 ∨ m = 4) with rfl | rfl | rfl | rfl | rfl <;> decide
        rcases hcase with ⟨rfl, hno, hIs⟩ | ⟨rfl, hIs⟩
        · have HIS := hid hIs
          have HNO := hid hno
          clear hIs hno
          by_cases hj : j < (levelSigns m).length
          · have hs := hT.sign hm hj
            obtain ⟨sg, hsg⟩ : ∃ sg, sg = (levelSigns m)[j] := ⟨_, rfl⟩
            rw [← hsg] at hs
            have HSG := hid hsg
            have hji : (j : Int) < ((levelSigns m).length : Int) := by omega
            obtain ⟨y0, y1, y2, y3, y4, yf⟩ := b8.fiveR
            cases hsS : isS sg S1 with
            | false =>
              have HS := hid hsS
              clear hsS hsg
              go_wp2_with fail
              refine (rPlace_any wr br N S1 rr).mono ?_
              rintro e' w3 ⟨⟨p, rfl, hp⟩, mm, rfl⟩
              clear hp
              go_wp2_with fail
              refine (rTake_any _ br N S1 (rr.drewN mm) sg).mono ?_
              rintro e' w4 ⟨rfl, r4, k4⟩
              rw [HS.out]
              rw [tkS_no HS.out] at r4
              have kk4 := (Keep.drewN' [br] wr mm).trans' k4
              have b04 := b0.keep kk4 (by simp; omega)
              have hT4 := hT.keep kk4 (fun q hq => by simp only [List.mem_singleton] at hq; omega)
              have b84 := b8.keep kk4 (by simp; omega)
              have kr4 := kr.trans' kk4
              have hI4 := HIS.out.keep kk4 (fun q hq => by simp only [List.mem_singleton] at hq; omega)
              clear y0 y1 y2 y3 y4 yf
              go_wp2_with fail
              go_roundw
              case rel => exact ⟨false, _, S1, j + 1, rfl, by go_num, by omega, ⟨op8, num8, text8, ka8, kn8, kc8, at8, rfl⟩, r4, b04, hT4, b84, kr4, hk4, .inl ⟨rfl, fun j' h1 h2 => by
                by_cases hjj : j' = j
                · subst hjj; rw [← HSG.out]; exact HS.out
                · exact HNO.out j' h1 (by omega), hI4⟩⟩
              case measure => simp [intOf]; omega
            | true =>
              obtain ⟨us, rfl, hus⟩ := isS_ok hsS
              obtain ⟨hg, x, hx, hwu, hR1, _⟩ := HIS.out
              obtain ⟨hlen, hR⟩ := hR1 rfl
              have hop := idx_op hj (by rw [← hsg]; exact hus)
              rw [← hsg] at hop
              have hl1 := isSign_len hus
              have HRR := hid (show R = (next us.tail).bind fun y r => if m = 2 then .ok (.mk 6 0 sg [x, y] (headPlace us)) r else levelGo next m (k - 3) (.mk 6 0 sg [x, y] (headPlace us)) r by
                rw [hR, show k + 1 - 3 = (k - 3) + 1 by omega, levelGo_op hop.1, hop.2])
              have HS := hid hsS
              have HU := hid hus
              have HX := hid hx
              have HNX := hid (HN2.out (HG.out hg).1)
              have HTR := hid ((HG.out hg).2)
              have HGG := hid hg
              have HWU := hid hwu
              clear hsS hsg hus hx hR hR1 hop hg hwu HIS HNO
              go_wp2_with fail
              refine (rPlace_any wr br N _ rr).mono ?_
              rintro e' w3 ⟨⟨p, rfl, hp⟩, mm, rfl⟩
              have HPP := hid (show p = headPlace us by rw [hp us rfl, placeOf_sign HU.out])
              clear hp
              go_wp2_with fail
              refine (rTake_any _ br N _ (rr.drewN mm) sg).mono ?_
              rintro e' w4 ⟨rfl, r4, k4⟩
              rw [HS.out]
              have r4' : ReAt w4 br N (.ok us.tail) := by
                have := r4
                rw [tkS, if_pos HU.out] at this
                exact this
              clear r4
              have kk4 := (Keep.drewN' [br] wr mm).trans' k4
              have b04 := b0.keep kk4 (by simp; omega)
              have hT4 := hT.keep kk4 (fun q hq => by simp only [List.mem_singleton] at hq; omega)
              have b84 := b8.keep kk4 (by simp; omega)
              have kr4 := kr.trans' kk4
              have l84 := b84.lt
              obtain ⟨z0, z1, z2, z3, z4, zf⟩ := b84.fiveR
              clear y0 y1 y2 y3 y4 yf ht hs
              go_wp2_with fail
              refine (HNX.out _ (.ok us.tail) (r4'.ext ((Ext.refl _).alloc _))).mono ?_
              rintro e' w5 ⟨⟨vs, rfl, ⟨op, num, text, ka, kn, kc, at_, rfl⟩, hy⟩, r5, k5⟩
              have HY := hid hy
              clear hy z0 z1 z2 z3 z4 zf
              have b12 := (Blk.new w4 100 [.int .i64 op8, .int .i64 num8, .string ⟨text8.toArray⟩, .slice ka8 kn8 kc8, .int .i64 at8]).keep k5 (by simp; omega)
              have b85 := (b84.alloc (.cells #[.int .i64 op8, .int .i64 num8, .string ⟨text8.toArray⟩, .slice ka8 kn8 kc8, .int .i64 at8] 100)).keep k5 (by simp; omega)
              have b05 := (b04.alloc (.cells #[.int .i64 op8, .int .i64 num8, .string ⟨text8.toArray⟩, .slice ka8 kn8 kc8, .int .i64 at8] 100)).keep k5 (by simp; omega)
              have hT5 := (hT4.keep (Keep.ofExt ((Ext.refl _).alloc (.cells #[.int .i64 op8, .int .i64 num8, .string ⟨text8.toArray⟩, .slice ka8 kn8 kc8, .int .i64 at8] 100)) : Keep [] _ _) (by simp)).keep k5 (fun q hq => by simp only [List.mem_singleton] at hq; omega)
              have kr5 := (kr4.alloc (.cells #[.int .i64 op8, .int .i64 num8, .string ⟨text8.toArray⟩, .slice ka8 kn8 kc8, .int .i64 at8] 100)).trans' k5
              have l12 := b12.lt
              have l85 := b85.lt
              obtain ⟨g0, g1, g2, g3, g4, gf⟩ := b85.fiveR
              have EA := (Ext.refl w5).alloc (.cells #[.int .i64 op, .int .i64 num, .string ⟨text.toArray⟩, .slice ka kn kc, .int .i64 at_] 100)
              obtain ⟨y0, y1, y2, y3, y4, yf⟩ := (b12.ext EA).fiveR
              obtain ⟨z0, z1, z2, z3, z4, zf⟩ := (Blk.new w5 100 [.int .i64 op, .int .i64 num, .string ⟨text.toArray⟩, .slice ka kn kc, .int .i64 at_]).fiveR
              have ht5 := EA.cell (hT5.at hm)
              have hs5 := EA.cell (hT5.sign hm hj)
              have EB := EA.alloc (.cells #[.int .i64 op8, .int .i64 num8, .string ⟨text8.toArray⟩, .slice ka8 kn8 kc8, .int .i64 at8, .int .i64 op, .int .i64 num, .string ⟨text.toArray⟩, .slice ka kn kc, .int .i64 at_] 100)
              have ht6 := EB.cell (hT5.at hm)
              have hs6 := EB.cell (hT5.sign hm hj)
              have ht7 := hT5.at hm
              have hs7 := hT5.sign hm hj
              have lt7 := hT5.tab.lt
              have lr7 := (hT5.row m hm).lt
              obtain ⟨u0, u1, u2, u3, u4, uf⟩ := ((b12.ext EB)).fiveR
              obtain ⟨v0, v1, v2, v3, v4, vf⟩ := ((Blk.new w5 100 [.int .i64 op, .int .i64 num, .string ⟨text.toArray⟩, .slice ka kn kc, .int .i64 at_]).alloc (.cells #[.int .i64 op8, .int .i64 num8, .string ⟨text8.toArray⟩, .slice ka8 kn8 kc8, .int .i64 at8, .int .i64 op, .int .i64 num, .string ⟨text.toArray⟩, .slice ka kn kc, .int .i64 at_] 100)).fiveR
              rw [← HSG.out] at hs5 hs6 hs7
              have bF := (((b85.put5 (.int .i64 6) (.int .i64 0) (.string ⟨sg.toArray⟩) (.slice (some ⟨w5.heap.size + 1, 0, none⟩) 2 2) (.int .i64 p)).alloc (.cells #[.int .i64 op, .int .i64 num, .string ⟨text.toArray⟩, .slice ka kn kc, .int .i64 at_] 100)).alloc (.cells #[.int .i64 op8, .int .i64 num8, .string ⟨text8.toArray⟩, .slice ka8 kn8 kc8, .int .i64 at8, .int .i64 op, .int .i64 num, .string ⟨text.toArray⟩, .slice ka kn kc, .int .i64 at_] 100)).drew
              have kF := (((Keep.put5 w5 w2.heap.size (.int .i64 6) (.int .i64 0) (.string ⟨sg.toArray⟩) (.slice (some ⟨w5.heap.size + 1, 0, none⟩) 2 2) (.int .i64 p)).alloc (.cells #[.int .i64 op, .int .i64 num, .string ⟨text.toArray⟩, .slice ka kn kc, .int .i64 at_] 100)).alloc (.cells #[.int .i64 op8, .int .i64 num8, .string ⟨text8.toArray⟩, .slice ka8 kn8 kc8, .int .i64 at8, .int .i64 op, .int .i64 num, .string ⟨text.toArray⟩, .slice ka kn kc, .int .i64 at_] 100)).drew
              have bK := (Blk.new ((((((w5.setCell ⟨w2.heap.size, 0, none⟩ (.int .i64 6)).setCell ⟨w2.heap.size, 1, none⟩ (.int .i64 0)).setCell ⟨w2.heap.size, 2, none⟩ (.string ⟨sg.toArray⟩)).setCell ⟨w2.heap.size, 3, none⟩ (.slice (some ⟨w5.heap.size + 1, 0, none⟩) 2 2)).setCell ⟨w2.heap.size, 4, none⟩ (.int .i64 p)).alloc (.cells #[.int .i64 op, .int .i64 num, .string ⟨text.toArray⟩, .slice ka kn kc, .int .i64 at_] 100)) 100 ([.int .i64 op8, .int .i64 num8, .string ⟨text8.toArray⟩, .slice ka8 kn8 kc8, .int .i64 at8] ++ [.int .i64 op, .int .i64 num, .string ⟨text.toArray⟩, .slice ka kn kc, .int .i64 at_])).drew
              rw [World.size_alloc, show (((((w5.setCell ⟨w2.heap.size, 0, none⟩ (.int .i64 6)).setCell ⟨w2.heap.size, 1, none⟩ (.int .i64 0)).setCell ⟨w2.heap.size, 2, none⟩ (.string ⟨sg.toArray⟩)).setCell ⟨w2.heap.size, 3, none⟩ (.slice (some ⟨w5.heap.size + 1, 0, none⟩) 2 2)).setCell ⟨w2.heap.size, 4, none⟩ (.int .i64 p)).heap.size = w5.heap.size by simp [World.setCell]] at bK
              have b0F := b05.keep kF (by simp; omega)
              have hTF := hT5.keep kF (fun q hq => by simp only [List.mem_singleton] at hq; omega)
              have krF := kr5.trans kF (fun q hq => by simp only [List.mem_singleton] at hq; right; omega)
              have rF := r5.keep kF (fun q hq => by simp only [List.mem_singleton] at hq; omega)
              have l4 := kr4.size
              have HLV := hid (show ∀ ag : Bool, (ag = true → m ≠ 2) → (ag = false → m = 2) → LvIs G _ N w2.heap.size (w.heap.size + 7) m next R T k ag [.int .i64 6, .int .i64 0, .string ⟨sg.toArray⟩, .slice (some ⟨w5.heap.size + 1, 0, none⟩) 2 2, .int .i64 p] (aft N next (.ok us.tail)) from fun ag hag1 hag2 => by
                have hRR := HRR.out
                have hF := hI us.tail (HWU.out.tail)
                cases hn : next us.tail with
                | err c r =>
                  rw [hn] at hRR
                  simp only [aft, hn, toS]
                  show T = _
                  rw [HTR.out, hRR]; rfl
                | ok y r =>
                  rw [hn] at hRR hF
                  simp only [aft, hn, toS]
                  refine ⟨HGG.out, .mk 6 0 sg [x, y] p, ?_, hF.2.2, fun h => ?_, fun h => ?_⟩
                  · simp only [ExIs]
                    have hx1 := ExIs.carry (Carry.keep kk4 (G := fun b => w.heap.size + 7 ≤ b ∧ b ≠ w2.heap.size) (fun b hb _ hf => by simp only [List.mem_singleton] at hb; omega) (fun b _ hf => hf)) _ _ HX.out
                    have hx2 := ExIs.carry (Carry.keep (Keep.ofExt ((Ext.refl _).alloc (.cells #[.int .i64 op8, .int .i64 num8, .string ⟨text8.toArray⟩, .slice ka8 kn8 kc8, .int .i64 at8] 100)) : Keep [] _ _) (G := fun b => w.heap.size + 7 ≤ b ∧ b ≠ w2.heap.size) (by simp) (fun b _ hf => hf)) _ _ hx1
                    have hx3 := ExIs.carry (Carry.keep k5 (G := fun b => w.heap.size + 7 ≤ b ∧ b ≠ w2.heap.size) (fun b hb _ hf => by simp only [List.mem_singleton] at hb; omega) (fun b _ hf => hf)) _ _ hx2
                    have hx4 := ExIs.carry (Carry.keep kF (G := fun b => w.heap.size + 7 ≤ b ∧ b ≠ w2.heap.size) (fun b hb _ hf => by simp only [List.mem_singleton] at hb; omega) (fun b _ hf => hf)) _ _ hx3
                    have hy4 := ExIs.carry (Carry.keep kF (G := fun b => w.heap.size + 7 ≤ b ∧ b ≠ w2.heap.size) (fun b hb _ hf => by
                      simp only [List.mem_singleton] at hb
                      have hf' : (w4.alloc (.cells #[.int .i64 op8, .int .i64 num8, .string ⟨text8.toArray⟩, .slice ka8 kn8 kc8, .int .i64 at8] 100)).heap.size ≤ b := hf
                      rw [World.size_alloc] at hf'
                      omega) (fun b _ hf => by
                      have hf' : (w4.alloc (.cells #[.int .i64 op8, .int .i64 num8, .string ⟨text8.toArray⟩, .slice ka8 kn8 kc8, .int .i64 at8] 100)).heap.size ≤ b := hf
                      rw [World.size_alloc] at hf'
                      exact ⟨by omega, by omega⟩)) _ _ (HY.out y ⟨us.tail, r, rfl, hn⟩)
                    exact ⟨_, rfl, ex_row2 bK ⟨by omega, by omega⟩ hx4 hy4⟩
                  · have hF1 : y.size + r.length ≤ us.tail.length := hF.1
                    have hyp := y.size_pos
                    refine ⟨by omega, ?_⟩
                    rw [hRR, HPP.out]
                    show (if m = 2 then _ else _) = _
                    rw [if_neg (hag1 h)]
                  · rw [hRR, HPP.out]
                    show (if m = 2 then _ else _) = _
                    rw [if_pos (hag2 h)])
              go_wp2_with fail
              go_region
              go_wp2_with fail
              go_roundw
              case rel =>
                refine ⟨true, _, _, j + 1, rfl, by go_num, by omega, ⟨6, 0, sg, _, 2, 2, p, rfl⟩, rF, b0F, hTF, bF, krF, hk4, .inr ⟨rfl, ?_⟩⟩
                by_cases hm2 : m = 2
                · exact .inl ⟨hm2, HLV.out false (fun h => nomatch h) (fun _ => hm2)⟩
                · exact .inr ⟨hm2, HLV.out true (fun _ => hm2) (fun h => nomatch h), by omega⟩
              case measure => simp [intOf]; omega
          · have HOP := hid (show ∀ us, S1 = .ok us → isOp m us = false from fun us h => by
              subst h
              exact idx_none (fun s hs => by
                obtain ⟨j', hj', rfl⟩ := List.getElem_of_mem hs
                exact HNO.out j' hj' (by omega)))
            have HF := hid (show LvIs G wr N w2.heap.size (w.heap.size + 7) m next R T k false [.int .i64 op8, .int .i64 num8, .string ⟨text8.toArray⟩, .slice ka8 kn8 kc8, .int .i64 at8] S1 from by
              have h1 := HIS.out
              cases S1 with
              | bad x' q => exact h1
              | ok us =>
                obtain ⟨hg, y, hy, hw, h2, _⟩ := h1
                obtain ⟨h3, h4⟩ := h2 rfl
                refine ⟨hg, y, hy, hw, (fun h => nomatch h), fun _ => ?_⟩
                rw [h4, show k + 1 - 3 = (k - 3) + 1 by omega, levelGo_none (HOP.out us rfl)])
            have hjn : ¬ (j : Int) < ((levelSigns m).length : Int) := by omega
            by_cases hm2 : m = 2
            · have hm2' : ((m : Int) == 2) = true := by rw [hm2]; rfl
              have HM2 := hid hm2
              clear hm2
              go_wp2_with fail
              go_roundg k
              case measure => omega
              case rel => exact ⟨false, _, S1, rfl, ⟨op8, num8, text8, ka8, kn8, kc8, at8, rfl⟩, rr, b0, hT, b8, kr, (fun h => nomatch h), by omega, HF.out⟩
            · have hm2' : ((m : Int) == 2) = false := by simp; omega
              have HM2 := hid hm2
              clear hm2
              go_wp2_with fail
              go_roundg k
              case measure => omega
              case rel => exact ⟨false, _, S1, rfl, ⟨op8, num8, text8, ka8, kn8, kc8, at8, rfl⟩, rr, b0, hT, b8, kr, (fun h => nomatch h), by omega, HF.out⟩
        · rcases hIs with ⟨hm2, hIs⟩ | ⟨hm2, hIs, hk5⟩
          · have hm2' : ((m : Int) == 2) = true := by rw [hm2]; rfl
            have HM2 := hid hm2
            have HIS := hid hIs
            clear hm2 hIs
            by_cases hjx : (j : Int) < ((levelSigns m).length : Int)
            · go_wp2_with fail
              go_roundg k
              case measure => omega
              case rel => exact ⟨false, _, S1, rfl, ⟨op8, num8, text8, ka8, kn8, kc8, at8, rfl⟩, rr, b0, hT, b8, kr, (fun h => nomatch h), by omega, HIS.out⟩
            · go_wp2_with fail
              go_roundg k
              case measure => omega
              case rel => exact ⟨false, _, S1, rfl, ⟨op8, num8, text8, ka8, kn8, kc8, at8, rfl⟩, rr, b0, hT, b8, kr, (fun h => nomatch h), by omega, HIS.out⟩
          · have hm2' : ((m : Int) == 2) = false := by simp; omega
            have HM2 := hid hm2
            have HIS := hid hIs
            clear hm2 hIs
            by_cases hjx : (j : Int) < ((levelSigns m).length : Int)
            · go_wp2_with fail
              go_roundg k
              case measure => omega
              case rel => exact ⟨true, _, S1, rfl, ⟨op8, num8, text8, ka8, kn8, kc8, at8, rfl⟩, rr, b0, hT, b8, kr, fun _ => by omega, by omega, HIS.out⟩
            · go_wp2_with fail
              go_roundg k
              case measure => omega
              case rel => exact ⟨true, _, S1, rfl, ⟨op8, num8, text8, ka8, kn8, kc8, at8, rfl⟩, rr, b0, hT, b8, kr, fun _ => by omega, by omega, HIS.out⟩
end Go.Proofs.YtaehlakefgnfmaaGreatDoor
