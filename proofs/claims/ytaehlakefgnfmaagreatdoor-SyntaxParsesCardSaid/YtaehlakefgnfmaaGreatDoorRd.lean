/-
  DERIVED. THE WALKS of the reader's small methods.
-/
import Derived.Test.YtaehlakefgnfmaaGreatDoorKeep
namespace Go.Proofs.YtaehlakefgnfmaaGreatDoor
set_option linter.unusedSimpArgs false
set_option linter.unusedVariables false
set_option maxRecDepth 100000
open Go.RowKit

theorem RdAt.nil {w : World} {br n : Nat} (h : RdAt w br n []) : ∃ a cap, w.cell? ⟨br, 0, none⟩ = some (.slice a 0 cap) ∧ w.cell? ⟨br, 1, none⟩ = some (.int .i64 n) ∧ (∀ i, w.frozen? ⟨br, i, none⟩ = false) := by
  obtain ⟨a, cap, h1, h2, h3, h4⟩ := h
  exact ⟨a, cap, h1.cell 0, h1.cell 1, h1.frozen⟩
theorem RdAt.cons {w : World} {br n : Nat} {t : Tok} {r : List Tok} (h : RdAt w br n (t :: r)) : ∃ b off cap, b ≠ br ∧ w.cell? ⟨br, 0, none⟩ = some (.slice (some ⟨b, off, none⟩) (r.length + 1) cap) ∧ w.cell? ⟨br, 1, none⟩ = some (.int .i64 n) ∧ (∀ i, w.frozen? ⟨br, i, none⟩ = false) ∧
    w.cell? ⟨b, off, none⟩ = some (.int .i64 t.kind) ∧ w.cell? ⟨b, off + 1, none⟩ = some (.string ⟨t.text.toArray⟩) ∧ w.cell? ⟨b, off + 2, none⟩ = some (.int .i64 t.num) ∧ w.cell? ⟨b, off + 3, none⟩ = some (.int .i64 t.place) ∧ r.length + 1 ≤ cap ∧ cap ≤ 9223372036854775807 ∧
    (cap = 1 → RdAt (w.setCell ⟨br, 0, none⟩ (.slice (some ⟨b, off, none⟩) r.length 0)) br n r) ∧ (cap ≠ 1 → RdAt (w.setCell ⟨br, 0, none⟩ (.slice (some ⟨b, off + 4, none⟩) r.length (cap - 1))) br n r) := by
  obtain ⟨a, cap, h1, h2, h3, h4⟩ := h
  obtain ⟨b, off, rfl, c0, c1, c2, c3⟩ := toks_at h2.at (k := 0) (by simp)
  simp only [List.length_cons] at h1 h3
  have hlt : b < br := by
    obtain ⟨b', off', hb, hn, _⟩ := h2 0 (.int .i64 t.kind) (by simp [encTok])
    simp only [Option.some.injEq, Addr.mk.injEq, and_true] at hb
    rw [hb.1]; exact hn
  have hne : b ≠ br := by omega
  simp only [List.getElem_cons_zero, Nat.zero_mul, Nat.add_zero] at c0 c1 c2 c3
  have hrest : ∀ (u : Value) (i : Nat) (v : Value), (r.flatMap encTok)[i]? = some v → (w.setCell ⟨br, 0, none⟩ u).cell? ⟨b, off + 4 + i, none⟩ = some v := by
    intro u i v hv
    obtain ⟨b', off', hb, hn, hc⟩ := h2 (4 + i) v (by
      rw [List.flatMap_cons, List.getElem?_append_right (by simp [encTok])]
      simpa [encTok] using hv)
    simp only [Option.some.injEq, Addr.mk.injEq, and_true] at hb
    obtain ⟨rfl, rfl⟩ := hb
    rw [World.cell?_setCell_other _ _ _ _ (by simp), Nat.add_assoc]
    exact hc
  refine ⟨b, off, cap, hne, h1.cell 0, h1.cell 1, h1.frozen, c0, c1, c2, c3, h3, h4.1, fun hc1 => ?_, fun hc1 => ?_⟩
  · have hr : r = [] := List.eq_nil_of_length_eq_zero (by omega)
    subst hr
    exact ⟨_, 0, h1.set 0 _, CellsIn.nil _ _ _, by simp, by omega, by simp⟩
  · refine ⟨_, cap - 1, h1.set 0 _, fun i v hv => ⟨b, off + 4, rfl, hlt, hrest _ i v hv⟩, by omega, by omega, by have := h4.2; simp at this; omega⟩

set_option maxHeartbeats 400000 in
theorem place_any (w : World) (br n : Nat) (ts : List Tok) (hr : RdAt w br n ts) :
    Calls Tryz.prog 23 #[.pointer (some ⟨br, 0, none⟩)] w fun e w' => e = .returned (.int .i64 (placeOf n ts)) ∧ w = w' := by
  cases ts with
  | nil =>
    obtain ⟨a, cap, c0, c1, fz⟩ := hr.nil
    go_enter Tryz.func23, Tryz.ntmps23
    go_wp2_with fail
    go_ret
    exact ⟨rfl, rfl⟩
  | cons t r =>
    obtain ⟨b, off, cap, hne, c0, c1, fz, d0, d1, d2, d3, hcap, hmax, _, _⟩ := hr.cons
    go_enter Tryz.func23, Tryz.ntmps23
    go_wp2_with fail
    go_ret
    exact ⟨rfl, rfl⟩
/-- The panic that fail raises. -/
def faultV (e p : Nat) : PanicEntry := { v := .iface 42 (.agg #[.int .i64 e, .int .i64 p]), recovered := false }
set_option maxHeartbeats 400000 in
theorem fail_any (w : World) (br n : Nat) (ts : List Tok) (hr : RdAt w br n ts) (x : Nat) :
    Calls Tryz.prog 55 #[.pointer (some ⟨br, 0, none⟩), .int .i64 x] w fun e w' => e = .panicked [faultV x (placeOf n ts)] ∧ w = w' := by
  go_enter Tryz.func55, Tryz.ntmps55
  go_wp2_with fail
  refine (place_any w br n ts hr).mono ?_
  rintro e w' ⟨rfl, rfl⟩
  go_wp2_with fail
  exact ⟨rfl, rfl, rfl⟩
set_option maxHeartbeats 400000 in
theorem deep_ok (w : World) (br d : Nat) (hd : d ≤ 32) :
    Calls Tryz.prog 58 #[.pointer (some ⟨br, 0, none⟩), .int .i64 d] w fun e w' => e = .returned (.int .i64 d) ∧ w = w' := by
  go_enter Tryz.func58, Tryz.ntmps58
  have h : ¬ (32 : Int) < d := by omega
  go_wp2_with fail
  go_ret
  exact ⟨rfl, rfl⟩
set_option maxHeartbeats 400000 in
theorem deep_no (w : World) (br n d : Nat) (ts : List Tok) (hr : RdAt w br n ts) (hd : 32 < d) :
    Calls Tryz.prog 58 #[.pointer (some ⟨br, 0, none⟩), .int .i64 d] w fun e w' => e = .panicked [faultV 42 (placeOf n ts)] ∧ w = w' := by
  go_enter Tryz.func58, Tryz.ntmps58
  have h : (32 : Int) < d := by omega
  go_wp2_with fail
  refine (fail_any w br n ts hr 42).mono ?_
  rintro e w' ⟨rfl, rfl⟩
  go_wp2_with fail
  exact ⟨rfl, rfl, rfl⟩

theorem isSign_drop_lt {s : List UInt8} {ts : List Tok} {k : Nat} (h : k < ts.length) : isSign s (ts.drop k) = (ts[k].kind == 4 && ts[k].text == s) := by
  rw [drop_getElem' ts k h]; rfl
  where drop_getElem' {α : Type} (s : List α) (k : Nat) (h : k < s.length) : s.drop k = s[k] :: s.drop (k + 1) := List.drop_eq_getElem_cons h
set_option maxHeartbeats 1000000 in
theorem at_any (w : World) (br n : Nat) (ts : List Tok) (hr : RdAt w br n ts) (k : Nat) (hk : k ≤ 1) (s : ByteArray) :
    Calls Tryz.prog 57 #[.pointer (some ⟨br, 0, none⟩), .int .i64 k, .string s] w fun e w' => e = .returned (.bool (isSign s.data.toList (ts.drop k))) ∧ w = w' := by
  rw [← ByteArray.toList_eq]
  obtain ⟨a, cap, h1, h2, h3, h4⟩ := hr
  have c0 := h1.cell 0
  have fz := h1.frozen
  simp only [List.getElem?_cons_zero] at c0
  by_cases hlt : k < ts.length
  · obtain ⟨b, off, rfl, d0, d1, d2, d3⟩ := toks_at h2.at hlt
    have HI := hid (isSign_drop_lt (s := s.toList) hlt)
    generalize ts[k] = t at d0 d1 d2 d3 HI
    generalize ts.length = m at c0 h3 hlt
    clear h1 h2
    by_cases h4k : t.kind = 4
    · have i4 : ((t.kind : Int) == 4) = true := by rw [h4k]; rfl
      have H4 := hid h4k
      clear h4k
      cases hx : t.text == s.toList with
      | true =>
        go_enter Tryz.func57, Tryz.ntmps57
        go_wp2_with fail
        go_ret
        exact ⟨ret_bool (by rw [HI.out, hx, H4.out]; rfl), rfl⟩
      | false =>
        go_enter Tryz.func57, Tryz.ntmps57
        go_wp2_with fail
        go_ret
        exact ⟨ret_bool (by rw [HI.out, hx, H4.out]; rfl), rfl⟩
    · have i4 : ((t.kind : Int) == 4) = false := by simp; omega
      have H4 := hid h4k
      clear h4k
      go_enter Tryz.func57, Tryz.ntmps57
      go_wp2_with fail
      go_ret
      exact ⟨ret_bool (by rw [HI.out, beq_eq_false_iff_ne.2 H4.out]; rfl), rfl⟩
  · have HI := hid (show isSign s.toList (ts.drop k) = false by rw [List.drop_of_length_le (by omega)]; rfl)
    generalize ts.length = m at c0 h3 hlt
    go_enter Tryz.func57, Tryz.ntmps57
    go_wp2_with fail
    go_ret
    exact ⟨ret_bool (by rw [HI.out]), rfl⟩
theorem at0_any (w : World) (br n : Nat) (ts : List Tok) (hr : RdAt w br n ts) (s : ByteArray) :
    Calls Tryz.prog 57 #[.pointer (some ⟨br, 0, none⟩), .int .i64 0, .string s] w fun e w' => e = .returned (.bool (isSign s.data.toList ts)) ∧ w = w' :=
  at_any w br n ts hr 0 (by omega) s
theorem at1_any (w : World) (br n : Nat) (ts : List Tok) (hr : RdAt w br n ts) (s : ByteArray) :
    Calls Tryz.prog 57 #[.pointer (some ⟨br, 0, none⟩), .int .i64 1, .string s] w fun e w' => e = .returned (.bool (isSign s.data.toList ts.tail)) ∧ w = w' := by
  have h := at_any w br n ts hr 1 (by omega) s
  rw [List.drop_one] at h
  exact h

/-- take: a sign that is next is passed over. -/
def TakeEnds (w : World) (br n : Nat) (ts : List Tok) (s : List UInt8) (e : Ending) (w' : World) : Prop :=
  e = .returned (.bool (isSign s ts)) ∧ RdAt w' br n (if isSign s ts then ts.tail else ts) ∧ Keep [br] w w'
set_option maxHeartbeats 1000000 in
theorem take_any (w : World) (br n : Nat) (ts : List Tok) (hr : RdAt w br n ts) (s : ByteArray) :
    Calls Tryz.prog 29 #[.pointer (some ⟨br, 0, none⟩), .string s] w (TakeEnds w br n ts s.data.toList) := by
  cases hq : isSign s.data.toList ts with
  | false =>
    have HQ := hid hq
    go_enter Tryz.func29, Tryz.ntmps29
    go_wp2_with fail
    refine (at0_any w br n ts hr s).mono ?_
    rintro e w' ⟨rfl, rfl⟩
    rw [hq]
    clear hq
    go_wp2_with fail
    go_ret
    exact ⟨ret_bool (by rw [HQ.out]), by rw [HQ.out]; exact hr, Keep.refl _ _⟩
  | true =>
    obtain ⟨t, r, rfl, _, _⟩ : ∃ t r, ts = t :: r ∧ True ∧ True := by
      cases ts with
      | nil => simp [isSign] at hq
      | cons t r => exact ⟨t, r, rfl, trivial, trivial⟩
    obtain ⟨b, off, cap, hne, c0, c1, fz, d0, d1, d2, d3, hcap, hmax, g1, g2⟩ := hr.cons
    have HQ := hid hq
    by_cases h1 : cap = 1
    · subst h1
      have hr0 : r.length = 0 := by omega
      have G := hid (g1 rfl)
      rw [hr0] at c0 G
      clear g1 g2
      have R0 := hid hr0
      clear hr0
      go_enter Tryz.func29, Tryz.ntmps29
      go_wp2_with fail
      refine (at0_any w br n _ hr s).mono ?_
      rintro e w' ⟨rfl, rfl⟩
      rw [hq]
      clear hq
      go_wp2_with fail
      go_ret
      exact ⟨ret_bool (by rw [HQ.out]), by rw [HQ.out]; exact G.out, (Keep.refl _ _).setCell (by simp) _⟩
    · have G := hid (g2 h1)
      clear g1 g2
      have H1 := hid h1
      have hc1 : ¬ ((1 : Int) = cap) := by omega
      clear h1
      go_enter Tryz.func29, Tryz.ntmps29
      go_wp2_with fail
      refine (at0_any w br n _ hr s).mono ?_
      rintro e w' ⟨rfl, rfl⟩
      rw [hq]
      clear hq
      go_wp2_with fail
      go_ret
      exact ⟨ret_bool (by rw [HQ.out]), by rw [HQ.out]; exact G.out, (Keep.refl _ _).setCell (by simp) _⟩

theorem take_yes (w : World) (br n : Nat) (ts : List Tok) (hr : RdAt w br n ts) (s : ByteArray) (h : isSign s.data.toList ts = true) :
    Calls Tryz.prog 29 #[.pointer (some ⟨br, 0, none⟩), .string s] w fun e w' => e = .returned (.bool true) ∧ RdAt w' br n ts.tail ∧ Keep [br] w w' :=
  (take_any w br n ts hr s).mono fun e w' ⟨h1, h2, h3⟩ => by rw [h] at h1 h2; exact ⟨h1, h2, h3⟩
theorem take_no (w : World) (br n : Nat) (ts : List Tok) (hr : RdAt w br n ts) (s : ByteArray) (h : isSign s.data.toList ts = false) :
    Calls Tryz.prog 29 #[.pointer (some ⟨br, 0, none⟩), .string s] w fun e w' => e = .returned (.bool false) ∧ RdAt w' br n ts ∧ Keep [br] w w' :=
  (take_any w br n ts hr s).mono fun e w' ⟨h1, h2, h3⟩ => by rw [h] at h1 h2; exact ⟨h1, h2, h3⟩

def MustRel (w : World) (br n : Nat) (ts : List Tok) (i : Value) (wr : World) : Prop :=
  (i = .int .i64 0 ∧ wr = w) ∨ (i = .int .i64 1 ∧ RdAt wr br n ts.tail ∧ Keep [br] w wr)
set_option maxHeartbeats 1000000 in
theorem must_yes (w : World) (br n : Nat) (ts : List Tok) (hr : RdAt w br n ts) (bs : Nat) (s : ByteArray) (hb : w.cell? ⟨bs, 0, none⟩ = some (.string s)) (h : isSign s.data.toList ts = true) :
    Calls Tryz.prog 24 #[.pointer (some ⟨br, 0, none⟩), .slice (some ⟨bs, 0, none⟩) 1 1] w fun e w' => e = .returned (.tuple #[]) ∧ RdAt w' br n ts.tail ∧ Keep [br] w w' := by
  have HQ := hid h
  clear h
  go_enter Tryz.func24, Tryz.ntmps24
  go_wp2_with fail
  go_loopw [5, 8] (fun _ i wr => MustRel w br n ts i wr) (fun _ i _ => (1 - intOf i).toNat)
  case atStart => exact .inl ⟨rfl, rfl⟩
  case round =>
    rcases hrel with ⟨rfl, rfl⟩ | ⟨rfl, h1, h2⟩
    · go_wp2_with fail
      refine (take_yes _ br n ts hr s HQ.out).mono ?_
      rintro e w1 ⟨rfl, r1, k1⟩
      go_wp2_with fail
      go_roundw
      case rel => exact .inr ⟨rfl, r1, k1⟩
      case measure => simp [intOf]
    · go_wp2_with fail
      go_end0
      exact ⟨rfl, h1, h2⟩
set_option maxHeartbeats 1000000 in
theorem must_no (w : World) (br n : Nat) (ts : List Tok) (hr : RdAt w br n ts) (bs : Nat) (s : ByteArray) (hb : w.cell? ⟨bs, 0, none⟩ = some (.string s)) (h : isSign s.data.toList ts = false) :
    Calls Tryz.prog 24 #[.pointer (some ⟨br, 0, none⟩), .slice (some ⟨bs, 0, none⟩) 1 1] w fun e w' => e = .panicked [faultV 41 (placeOf n ts)] ∧ Keep [br] w w' := by
  have HQ := hid h
  clear h
  go_enter Tryz.func24, Tryz.ntmps24
  go_wp2_with fail
  go_loopw [5, 8] (fun _ i wr => i = .int .i64 0 ∧ wr = w) (fun _ i _ => (1 - intOf i).toNat)
  case atStart => exact ⟨rfl, rfl⟩
  case round =>
    obtain ⟨rfl, rfl⟩ := hrel
    go_wp2_with fail
    refine (take_no _ br n ts hr s HQ.out).mono ?_
    rintro e w1 ⟨rfl, r1, k1⟩
    go_wp2_with fail
    refine (fail_any _ br n ts r1 41).mono ?_
    rintro e w2 ⟨rfl, rfl⟩
    go_wp2_with fail
    exact ⟨rfl, rfl, k1⟩

/-- must of a sign that was laid just now. -/
theorem musty (w : World) (br n : Nat) (ts : List Tok) (hr : RdAt w br n ts) (l : List UInt8) (h : isSign l ts = true) :
    Calls Tryz.prog 24 #[.pointer (some ⟨br, 0, none⟩), .slice (some ⟨w.heap.size, 0, none⟩) 1 1] (w.alloc (.cells #[.string ⟨l.toArray⟩] 9)) fun e w' => e = .returned (.tuple #[]) ∧ RdAt w' br n ts.tail ∧ Keep [br] w w' :=
  (must_yes _ br n ts (hr.ext ((Ext.refl _).alloc _)) w.heap.size ⟨l.toArray⟩ (by simp) (by simpa using h)).mono fun e w' ⟨h1, h2, h3⟩ => ⟨h1, h2, ((Keep.refl _ _).alloc _).trans' h3⟩
theorem mustn (w : World) (br n : Nat) (ts : List Tok) (hr : RdAt w br n ts) (l : List UInt8) (h : isSign l ts = false) :
    Calls Tryz.prog 24 #[.pointer (some ⟨br, 0, none⟩), .slice (some ⟨w.heap.size, 0, none⟩) 1 1] (w.alloc (.cells #[.string ⟨l.toArray⟩] 9)) fun e w' => e = .panicked [faultV 41 (placeOf n ts)] ∧ Keep [br] w w' :=
  (must_no _ br n ts (hr.ext ((Ext.refl _).alloc _)) w.heap.size ⟨l.toArray⟩ (by simp) (by simpa using h)).mono fun e w' ⟨h1, h2⟩ => ⟨h1, ((Keep.refl _ _).alloc _).trans' h2⟩
theorem Tryz.tokText (a b c d : Value) (w : World) : (Instr.field 63 (.agg #[a, b, c, d]) 1).run Tryz.prog w = .ok b w := by kernel_rfl
theorem Tryz.tokNum (a b c d : Value) (w : World) : (Instr.field 63 (.agg #[a, b, c, d]) 2).run Tryz.prog w = .ok c w := by kernel_rfl
/-- A token as a value. -/
def tokV (t : Tok) : Value := .agg #[.int .i64 t.kind, .string ⟨t.text.toArray⟩, .int .i64 t.num, .int .i64 t.place]
set_option maxHeartbeats 2000000 in
theorem kind_yes (w : World) (br n : Nat) (t : Tok) (r : List Tok) (hr : RdAt w br n (t :: r)) :
    Calls Tryz.prog 56 #[.pointer (some ⟨br, 0, none⟩), .int .i64 t.kind] w fun e w' => e = .returned (tokV t) ∧ RdAt w' br n r ∧ Keep [br] w w' := by
  obtain ⟨b, off, cap, hne, c0, c1, fz, d0, d1, d2, d3, hcap, hmax, g1, g2⟩ := hr.cons
  have lb : b < w.heap.size := World.block_lt_of_cell? _ _ d0
  have lr : br < w.heap.size := World.block_lt_of_cell? _ _ c0
  have hl0 : ((r.length : Int) + 1 == 0) = false := by simp; omega
  by_cases h1 : cap = 1
  · subst h1
    have hr0 : r.length = 0 := by omega
    have G := hid (g1 rfl)
    rw [hr0] at c0 G
    clear g1 g2 hl0
    have R0 := hid hr0
    clear hr0
    go_enter Tryz.func56, Tryz.ntmps56
    go_wp2_with fail
    refine bodyPost_ret (v := tokV t) (by simp [results, Tryz.results56, go_sem, tokV]) rfl ⟨rfl, (G.out.ext ((Ext.refl _).alloc _)).ext ((Ext.refl _).alloc _), (((Keep.refl _ _).setCell (by simp) _).alloc _).alloc _⟩
  · have G := hid (g2 h1)
    clear g1 g2
    have H1 := hid h1
    have hc1 : ¬ ((1 : Int) = cap) := by omega
    clear h1
    go_enter Tryz.func56, Tryz.ntmps56
    go_wp2_with fail
    refine bodyPost_ret (v := tokV t) (by simp [results, Tryz.results56, go_sem, tokV]) rfl ⟨rfl, (G.out.ext ((Ext.refl _).alloc _)).ext ((Ext.refl _).alloc _), (((Keep.refl _ _).setCell (by simp) _).alloc _).alloc _⟩
set_option maxHeartbeats 2000000 in
theorem kind_no (w : World) (br n k : Nat) (ts : List Tok) (hr : RdAt w br n ts) (hk : ∀ t r, ts = t :: r → t.kind ≠ k) :
    Calls Tryz.prog 56 #[.pointer (some ⟨br, 0, none⟩), .int .i64 k] w fun e w' => e = .panicked [faultV 41 (placeOf n ts)] ∧ Keep [br] w w' := by
  cases ts with
  | nil =>
    obtain ⟨a, cap, c0, c1, fz⟩ := hr.nil
    have lr : br < w.heap.size := World.block_lt_of_cell? _ _ c0
    clear hk
    go_enter Tryz.func56, Tryz.ntmps56
    go_wp2_with fail
    refine (fail_any _ br n [] (hr.ext ((Ext.refl _).alloc _)) 41).mono ?_
    rintro e w2 ⟨rfl, rfl⟩
    go_wp2_with fail
    exact ⟨rfl, rfl, (Keep.refl _ _).alloc _⟩
  | cons t r =>
    have hk2 := hk t r rfl
    obtain ⟨b, off, cap, hne, c0, c1, fz, d0, d1, d2, d3, hcap, hmax, g1, g2⟩ := hr.cons
    have lb : b < w.heap.size := World.block_lt_of_cell? _ _ d0
    have lr : br < w.heap.size := World.block_lt_of_cell? _ _ c0
    have hl0 : ((r.length : Int) + 1 == 0) = false := by simp; omega
    have hkn : ((t.kind : Int) != k) = true := by simp; omega
    clear hk hk2 g1 g2
    go_enter Tryz.func56, Tryz.ntmps56
    go_wp2_with fail
    refine (fail_any _ br n (t :: r) (hr.ext ((Ext.refl _).alloc _)) 41).mono ?_
    rintro e w2 ⟨rfl, rfl⟩
    go_wp2_with fail
    exact ⟨rfl, rfl, (Keep.refl _ _).alloc _⟩
set_option maxHeartbeats 1000000 in
theorem name_yes (w : World) (br n : Nat) (ts : List Tok) (hr : RdAt w br n ts) (h : isName ts = true) :
    Calls Tryz.prog 25 #[.pointer (some ⟨br, 0, none⟩)] w fun e w' => e = .returned (.string ⟨(headText ts).toArray⟩) ∧ RdAt w' br n ts.tail ∧ Keep [br] w w' := by
  cases ts with
  | nil => simp [isName] at h
  | cons t r =>
    have hk : t.kind = 1 := by simpa [isName] using h
    have H := kind_yes w br n t r hr
    rw [hk] at H
    have HH := hid H
    clear H hk h
    go_enter Tryz.func25, Tryz.ntmps25
    go_wp2_with fail
    refine HH.out.mono ?_
    rintro e w1 ⟨rfl, r1, k1⟩
    simp only [tokV]
    have hf := Tryz.tokText
    go_wp2_with fail
    go_ret
    exact ⟨rfl, r1, k1⟩
set_option maxHeartbeats 1000000 in
theorem name_no (w : World) (br n : Nat) (ts : List Tok) (hr : RdAt w br n ts) (h : isName ts = false) :
    Calls Tryz.prog 25 #[.pointer (some ⟨br, 0, none⟩)] w fun e w' => e = .panicked [faultV 41 (placeOf n ts)] ∧ Keep [br] w w' := by
  have HH := hid (kind_no w br n 1 ts hr (by rintro t r rfl; simpa [isName] using h))
  clear h
  go_enter Tryz.func25, Tryz.ntmps25
  go_wp2_with fail
  refine HH.out.mono ?_
  rintro e w1 ⟨rfl, k1⟩
  go_wp2_with fail
  exact ⟨rfl, rfl, k1⟩

/-- What a reading answers: the thing, the reader behind it; or the panic. -/
def Ans {α : Type} (w : World) (br n : Nat) (enc : World → α → Value → Prop) (R : Res α) (e : Ending) (w' : World) : Prop :=
  match R with
  | .ok a r => ∃ v, e = .returned v ∧ enc w' a v ∧ RdAt w' br n r ∧ Keep [br] w w'
  | .err x r => e = .panicked [faultV x (placeOf n r)] ∧ Keep [br] w w'
def encNat (_ : World) (k : Nat) (v : Value) : Prop := v = .int .i64 k
set_option maxHeartbeats 1000000 in
theorem typ_any (w : World) (br n : Nat) (ts : List Tok) (hr : RdAt w br n ts) :
    Calls Tryz.prog 28 #[.pointer (some ⟨br, 0, none⟩)] w (Ans w br n encNat (typS ts)) := by
  cases h1 : isSign [105, 110, 116] ts with
  | true =>
    have HR := hid (show typS ts = .ok 1 ts.tail by unfold typS; rw [if_pos h1])
    have H1 := hid h1
    clear h1
    go_enter Tryz.func28, Tryz.ntmps28
    go_wp2_with fail
    refine (take_yes _ br n ts hr _ H1.out).mono ?_
    rintro e w1 ⟨rfl, r1, k1⟩
    go_wp2_with fail
    go_ret
    rw [HR.out]
    exact ⟨_, rfl, rfl, r1, k1⟩
  | false =>
    have H1 := hid h1
    clear h1
    cases h2 : isSign [98, 111, 111, 108] ts with
    | true =>
      have HR := hid (show typS ts = .ok 2 ts.tail by unfold typS; rw [if_neg (by rw [H1.out]; decide), if_pos h2])
      have H2 := hid h2
      clear h2
      go_enter Tryz.func28, Tryz.ntmps28
      go_wp2_with fail
      refine (take_no _ br n ts hr _ H1.out).mono ?_
      rintro e w1 ⟨rfl, r1, k1⟩
      go_wp2_with fail
      refine (take_yes _ br n ts r1 _ H2.out).mono ?_
      rintro e w2 ⟨rfl, r2, k2⟩
      go_wp2_with fail
      go_ret
      rw [HR.out]
      exact ⟨_, rfl, rfl, r2, k1.trans' k2⟩
    | false =>
      have H2 := hid h2
      clear h2
      cases h3 : isSign [98, 121, 116, 101, 115] ts with
      | true =>
        have HR := hid (show typS ts = .ok 3 ts.tail by unfold typS must; rw [if_neg (by rw [H1.out]; decide), if_neg (by rw [H2.out]; decide), if_pos h3])
        have H3 := hid h3
        clear h3
        go_enter Tryz.func28, Tryz.ntmps28
        go_wp2_with fail
        refine (take_no _ br n ts hr _ H1.out).mono ?_
        rintro e w1 ⟨rfl, r1, k1⟩
        go_wp2_with fail
        refine (take_no _ br n ts r1 _ H2.out).mono ?_
        rintro e w2 ⟨rfl, r2, k2⟩
        go_wp2_with fail
        refine (musty _ br n ts r2 _ H3.out).mono ?_
        rintro e w3 ⟨rfl, r3, k3⟩
        go_wp2_with fail
        go_ret
        rw [HR.out]
        exact ⟨_, rfl, rfl, r3, (k1.trans' k2).trans' k3⟩
      | false =>
        have HR := hid (show typS ts = .err 41 ts by unfold typS must; rw [if_neg (by rw [H1.out]; decide), if_neg (by rw [H2.out]; decide), if_neg (by rw [h3]; decide)])
        have H3 := hid h3
        clear h3
        go_enter Tryz.func28, Tryz.ntmps28
        go_wp2_with fail
        refine (take_no _ br n ts hr _ H1.out).mono ?_
        rintro e w1 ⟨rfl, r1, k1⟩
        go_wp2_with fail
        refine (take_no _ br n ts r1 _ H2.out).mono ?_
        rintro e w2 ⟨rfl, r2, k2⟩
        go_wp2_with fail
        refine (mustn _ br n ts r2 _ H3.out).mono ?_
        rintro e w3 ⟨rfl, k3⟩
        go_wp2_with fail
        refine ⟨rfl, ?_⟩
        rw [HR.out]
        exact ⟨rfl, (k1.trans' k2).trans' k3⟩
end Go.Proofs.YtaehlakefgnfmaaGreatDoor
