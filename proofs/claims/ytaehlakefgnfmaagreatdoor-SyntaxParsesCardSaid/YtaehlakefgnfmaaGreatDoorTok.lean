/-
  DERIVED. THE WALKS of package token.
-/
import Derived.Test.YtaehlakefgnfmaaGreatDoorBase
import Derived.Test.YtaehlakefgnfmaaGreatDoorShelf
import Derived.Test.YtaehlakefgnfmaaGreatDoorRows
namespace Go.Proofs.YtaehlakefgnfmaaGreatDoor
set_option linter.unusedSimpArgs false
set_option linter.unusedVariables false
set_option maxRecDepth 100000
open Go.RowKit

theorem ret_int {k : IntKind} {a b : Int} (h : a = b) : Ending.returned (.int k a) = .returned (.int k b) := by rw [h]

set_option maxHeartbeats 400000 in
theorem span_any (w : World) (a : Option Addr) (s : List UInt8) (cap at_ : Nat) (f : FuncId) (fc : Array Value) (p : UInt8 → Bool)
    (hs : BytesAt w a s) (hlen : s.length ≤ 140737488355328) (hat : at_ ≤ s.length) (hp : Decides Tryz.prog w f fc p) :
    Calls Tryz.prog 45 #[.slice a s.length cap, .int .i64 at_, .func (.func f) #[] fc] w fun e w' =>
      e = .returned (.int .i64 (at_ + spanLen p (s.drop at_) : Nat)) ∧ Ext w w' := by
  go_enter Tryz.func45, Tryz.ntmps45
  go_wp2_with fail
  go_loopw [1] (fun i wr => ∃ k : Nat, k ≤ s.length ∧ i = .int .i64 k ∧ Ext w wr ∧ Hid (at_ + spanLen p (s.drop at_) = k + spanLen p (s.drop k))) (fun i _ => s.length - (intOf i).toNat)
  case atStart => exact ⟨at_, hat, rfl, Ext.refl w, rfl⟩
  case round =>
    obtain ⟨k, hk, rfl, he, hsum⟩ := hrel
    by_cases hlt : k < s.length
    · obtain ⟨b, off, rfl, hc⟩ := (hs.ext he).at hlt
      have hP := hp.says wr he s[k]
      have HP := hid hP
      clear hP
      have hent := hp.enters
      go_wp2_with fail
      refine HP.out.mono ?_
      rintro e w' ⟨rfl, he'⟩
      have hsp : spanLen p (s.drop k) = if p s[k] then spanLen p (s.drop (k + 1)) + 1 else 0 := by rw [drop_getElem s k hlt]; rfl
      have HS := hid hsp
      clear hsp
      go_wp2_with fail
      · have hpt : p s[k] = true := by assumption
        go_roundw
        case rel => exact ⟨k + 1, by omega, by go_num, he.trans he', by have h1 := HS.out; have h2 := hsum.out; rw [hpt, if_pos rfl] at h1; show _ = _; omega⟩
        case measure => simp [intOf]; omega
      · have hpf : p s[k] = false := by assumption
        go_ret
        exact ⟨ret_int (by have h1 := HS.out; have h2 := hsum.out; rw [hpf, if_neg (by simp)] at h1; omega), he.trans he'⟩
    · go_wp2_with fail
      go_ret
      exact ⟨ret_int (by have h2 := hsum.out; rw [List.drop_of_length_le (i := k) (by omega)] at h2; simp only [spanLen] at h2; omega), he⟩

theorem ret_bool {a b : Bool} (h : a = b) : Ending.returned (.bool a) = .returned (.bool b) := by rw [h]

set_option maxRecDepth 20000 in
theorem blank_index (c : UInt8) : decide (0 ≤ Lib.indexByte [9, 10, 13, 32] c) = isBlank c := by
  have h : ∀ n : Fin 256, decide (0 ≤ Lib.indexByte [9, 10, 13, 32] (UInt8.ofFin n)) = isBlank (UInt8.ofFin n) := by decide
  exact h c.toFin

set_option maxHeartbeats 400000 in
theorem blanks1_any (w : World) (c : UInt8) :
    Calls Tryz.prog 46 #[.int .u8 c.toNat] w fun e w' =>
      e = .returned (.bool (isBlank c)) ∧ Ext w w' := by
  go_enter Tryz.func46, Tryz.ntmps46
  go_wp2_with (go_at_call 47; refine (Tryz.strings_IndexByte _ _ _).mono ?_; rintro e w' ⟨rfl, rfl⟩)
  go_ret
  exact ⟨ret_bool (by rw [← blank_index c]), Ext.refl _⟩

theorem u8_ne (c d : UInt8) : ((c.toNat : Int) != d.toNat) = (c != d) := by
  rw [Bool.eq_iff_iff]; simp [← UInt8.toNat_inj]; omega
set_option maxHeartbeats 400000 in
theorem blanks2_any (w : World) (c : UInt8) :
    Calls Tryz.prog 48 #[.int .u8 c.toNat] w fun e w' =>
      e = .returned (.bool (c != 10)) ∧ Ext w w' := by
  go_enter Tryz.func48, Tryz.ntmps48
  go_wp2
  go_ret
  exact ⟨ret_bool (u8_ne c 10), Ext.refl _⟩

theorem blanks1_decides (w : World) : Decides Tryz.prog w 46 #[] isBlank :=
  ⟨fun _ _ => by simp [go_sem], fun w' _ c => blanks1_any w' c⟩
theorem blanks2_decides (w : World) : Decides Tryz.prog w 48 #[] (· != 10) :=
  ⟨fun _ _ => by simp [go_sem], fun w' _ c => blanks2_any w' c⟩

set_option maxHeartbeats 400000 in
theorem blanks_any (w : World) (a : Option Addr) (s : List UInt8) (cap at_ : Nat)
    (hs : BytesAt w a s) (hlen : s.length ≤ 140737488355328) (hat : at_ ≤ s.length) :
    Calls Tryz.prog 21 #[.slice a s.length cap, .int .i64 at_] w fun e w' =>
      e = .returned (.int .i64 (at_ + skip false (s.drop at_) : Nat)) ∧ Ext w w' := by
  go_enter Tryz.func21, Tryz.ntmps21
  go_wp2_with fail
  go_loopw [1] (fun i wr => ∃ k : Nat, k ≤ s.length ∧ i = .int .i64 k ∧ Ext w wr ∧ Hid (at_ + skip false (s.drop at_) = k + skip false (s.drop k))) (fun i _ => s.length - (intOf i).toNat)
  case atStart => exact ⟨at_, hat, rfl, Ext.refl w, rfl⟩
  case round =>
    obtain ⟨k, hk, rfl, he, hsum⟩ := hrel
    go_wp2_with fail
    refine (span_any wr a s cap k _ _ isBlank (hs.ext he) hlen hk (blanks1_decides wr)).mono ?_
    rintro e w1 ⟨rfl, he1⟩
    have hsp := skip_span (s.drop k)
    have hle := spanLen_le isBlank (s.drop k)
    rw [List.drop_drop] at hsp
    rw [List.length_drop] at hle
    generalize hn : k + spanLen isBlank (s.drop k) = n at hsp ⊢
    have HN := hid hn
    have HS := hid hsp
    clear hn hsp
    have hn2 : n ≤ s.length := by have := HN.out; omega
    by_cases hlt : n < s.length
    · obtain ⟨b, off, rfl, hc⟩ := ((hs.ext he).ext he1).at hlt
      have hne : ((n : Int) == (s.length : Int)) = false := by simp; omega
      by_cases h35 : s[n] = 35
      · have hc35 : ((s[n].toNat : Int) != 35) = false := by rw [h35]; rfl
        have hrem : skip false (s.drop n) = spanLen (· != 10) (s.drop n) + skip false (s.drop (n + spanLen (· != 10) (s.drop n))) := by
          rw [← List.drop_drop, drop_getElem s n hlt, h35]; exact skip_remark _
        have hle2 := spanLen_le (· != 10) (s.drop n)
        rw [List.length_drop] at hle2
        have hpos : 0 < spanLen (· != 10) (s.drop n) := by rw [drop_getElem s n hlt, h35]; simp [spanLen]
        have HR := hid hrem
        clear hrem
        have H35 := hid h35
        clear h35
        go_wp2_with fail
        refine (span_any w1 _ s cap n _ _ (· != 10) ((hs.ext he).ext he1) hlen (by omega) (blanks2_decides w1)).mono ?_
        rintro e w2 ⟨rfl, he2⟩
        go_wp2_with fail
        go_roundw
        case rel => exact ⟨_, by omega, rfl, (he.trans he1).trans he2, by have h1 := HS.out; have h2 := hsum.out; have h3 := HR.out; have h4 := HN.out; show _ = _; omega⟩
        case measure => have := HN.out; simp [intOf]; omega
      · have hc35 : ((s[n].toNat : Int) != 35) = true := by rw [show ((35 : Int)) = ((35 : UInt8).toNat : Int) from rfl, u8_ne]; simpa using h35
        have H35 := hid h35
        clear h35
        go_wp2_with fail
        go_ret
        refine ⟨ret_int ?_, he.trans he1⟩
        have h1 := HS.out; have h2 := hsum.out; have h4 := HN.out
        have h5 : skip false (s.drop n) = 0 := by
          have hb : isBlank s[n] = false := spanLen_stop isBlank (s.drop k) s[n] (s.drop (n + 1)) (by rw [List.drop_drop, h4, drop_getElem s n hlt])
          rw [drop_getElem s n hlt]; exact skip_none _ _ H35.out hb
        omega
    · have hnl : n = s.length := by omega
      have HL := hid hnl
      have heq : ((n : Int) == (s.length : Int)) = true := by simp; omega
      clear hnl
      go_wp2_with fail
      go_ret
      refine ⟨ret_int ?_, he.trans he1⟩
      have h1 := HS.out; have h2 := hsum.out; have h4 := HN.out
      have h5 : skip false (s.drop n) = 0 := by rw [HL.out]; simp [skip]
      omega

theorem word_yes {l x : List UInt8} (h : (l == x) = true) (hx : words.contains x = true) : true = word l := by
  rw [eq_of_beq h]; exact hx.symm
set_option maxHeartbeats 1000000 in
theorem word_any (w : World) (s : ByteArray) :
    Calls Tryz.prog 51 #[.string s] w fun e w' => e = .returned (.bool (word s.data.toList)) ∧ w = w' := by
  rw [← ByteArray.toList_eq]
  go_enter Tryz.func51, Tryz.ntmps51
  go_wp2_with fail
  all_goals first
    | (exfalso; simp_all only [Bool.true_eq_false, Bool.false_eq_true]; done)
    | (go_ret; exact ⟨ret_bool (word_yes (by assumption) rfl), rfl⟩)
    | (go_ret; exact ⟨ret_bool (by simp only [word, words, List.contains_cons, List.contains_nil, *, Bool.or_self]), rfl⟩)

end Go.Proofs.YtaehlakefgnfmaaGreatDoor
/-
  DERIVED. THE WALKS of package token, further: the closures that decide a byte.
-/
namespace Go.Proofs.YtaehlakefgnfmaaGreatDoor
set_option linter.unusedSimpArgs false
set_option linter.unusedVariables false
set_option maxRecDepth 100000
open Go.RowKit

set_option maxHeartbeats 400000 in
theorem between1_any (w : World) (c lo hi : UInt8) (p q : Addr) (hp : w.cell? p = some (.int .u8 lo.toNat)) (hq : w.cell? q = some (.int .u8 hi.toNat)) :
    Calls Tryz.prog 75 #[.int .u8 c.toNat, .pointer (some p), .pointer (some q)] w fun e w' =>
      e = .returned (.bool (lo ≤ c && c ≤ hi)) ∧ Ext w w' := by
  go_enter Tryz.func75, Tryz.ntmps75
  go_wp2_with fail
  all_goals
    go_ret
    refine ⟨ret_bool ?_, Ext.refl _⟩
  · rename_i h
    show decide _ = _
    have h1 : lo ≤ c := h
    simp [h1, UInt8.le_iff_toNat_le]
  · rename_i h
    have h1 : ¬ lo ≤ c := h
    simp [h1]

theorem between1_decides (w : World) (lo hi : UInt8) (p q : Addr) (hp : w.cell? p = some (.int .u8 lo.toNat)) (hq : w.cell? q = some (.int .u8 hi.toNat)) :
    Decides Tryz.prog w 75 #[.pointer (some p), .pointer (some q)] (fun c => lo ≤ c && c ≤ hi) :=
  ⟨fun _ _ => by simp [go_sem], fun w' e c => between1_any w' c lo hi p q (e.cell hp) (e.cell hq)⟩

set_option maxHeartbeats 400000 in
theorem between_any (w : World) (lo hi : UInt8) :
    Calls Tryz.prog 49 #[.int .u8 lo.toNat, .int .u8 hi.toNat] w fun e w' =>
      ∃ cap, e = .returned (.func (.func 75) #[] cap) ∧ Decides Tryz.prog w' 75 cap (fun c => lo ≤ c && c ≤ hi) ∧ Ext w w' := by
  have hmf : ∀ (fn : Fn) (first cap : Array Value) (w : World), (Instr.makeFunc fn first cap).run Tryz.prog w = .ok (.func fn first cap) w := fun _ _ _ _ => rfl
  go_enter Tryz.func49, Tryz.ntmps49
  go_wp2_with fail
  go_ret
  refine ⟨_, rfl, between1_decides _ lo hi _ _ ?_ ?_, ((Ext.refl _).alloc _).alloc _⟩
  · rw [World.cell?_alloc_old _ _ _ (by simp)]; simp
  · rw [show w.heap.size + 1 = (w.alloc (.cells #[Value.int IntKind.u8 lo.toNat] 5)).heap.size by simp]; simp

/-- Function values in a row, and what each decides. -/
structure FunRow (P : Program) (w : World) (a : Option Addr) (fs : List (FuncId × Array Value × (UInt8 → Bool))) : Prop where
  cells : CellsAt w a (fs.map fun x => .func (.func x.1) #[] x.2.1)
  each : ∀ x ∈ fs, Decides P w x.1 x.2.1 x.2.2
theorem FunRow.ext {P : Program} {w w' : World} {a : Option Addr} {fs : List (FuncId × Array Value × (UInt8 → Bool))} (h : FunRow P w a fs) (e : Ext w w') : FunRow P w' a fs :=
  ⟨h.cells.ext e, fun x hx => (h.each x hx).ext e⟩

set_option maxHeartbeats 400000 in
theorem either11_any (w : World) (c : UInt8) (q : Addr) (f : FuncId) (fc : Array Value) (p : UInt8 → Bool) (hq : w.cell? q = some (.int .u8 c.toNat)) (hp : Decides Tryz.prog w f fc p) :
    Calls Tryz.prog 78 #[.func (.func f) #[] fc, .pointer (some q)] w fun e w' =>
      e = .returned (.bool (p c)) ∧ Ext w w' := by
  have hent := hp.enters
  have HP := hid (hp.says w (Ext.refl w) c)
  go_enter Tryz.func78, Tryz.ntmps78
  go_wp2_with fail
  refine HP.out.mono ?_
  rintro e w' ⟨rfl, he'⟩
  go_wp2_with fail
  go_ret
  exact ⟨rfl, he'⟩

def anyOf (fs : List (FuncId × Array Value × (UInt8 → Bool))) (c : UInt8) : Bool := fs.any fun x => x.2.2 c
theorem anyOf_take (fs : List (FuncId × Array Value × (UInt8 → Bool))) (c : UInt8) (k : Nat) (hlt : k < fs.length) : anyOf (fs.take (k + 1)) c = (anyOf (fs.take k) c || fs[k].2.2 c) := by
  unfold anyOf
  rw [List.take_succ_eq_append_getElem hlt, List.any_append]
  simp only [List.any_cons, List.any_nil, Bool.or_false]
set_option maxHeartbeats 400000 in
theorem indexFunc_any (w : World) (a : Option Addr) (cap : Nat) (fs : List (FuncId × Array Value × (UInt8 → Bool))) (c : UInt8) (q : Addr) (hlen : fs.length ≤ 1000)
    (hq : w.cell? q = some (.int .u8 c.toNat)) (hp : FunRow Tryz.prog w a fs) :
    Calls Tryz.prog 89 #[.slice a fs.length cap, .func (.func 78) #[] #[.pointer (some q)]] w fun e w' =>
      ∃ r : Int, e = .returned (.int .i64 r) ∧ decide (0 ≤ r) = anyOf fs c ∧ Ext w w' := by
  go_enter Tryz.func89, Tryz.ntmps89
  go_wp2_with fail
  go_loopw [8] (fun i wr => ∃ k : Nat, k ≤ fs.length ∧ i = .int .i64 k ∧ Ext w wr ∧ Hid (anyOf (fs.take k) c = false)) (fun i _ => fs.length - (intOf i).toNat)
  case atStart => exact ⟨0, by omega, rfl, Ext.refl w, rfl⟩
  case round =>
    obtain ⟨k, hk, rfl, he, hsum⟩ := hrel
    by_cases hlt : k < fs.length
    · obtain ⟨b, off, rfl, hc⟩ := (hp.cells.ext he) k (.func (.func fs[k].1) #[] fs[k].2.1) (by simp [hlt])
      have hX := hid (either11_any wr c q fs[k].1 fs[k].2.1 fs[k].2.2 (he.cell hq) ((hp.each fs[k] (by simp)).ext he))
      have hsn := anyOf_take fs c k hlt
      have hin : fs[k].2.2 c = true → anyOf fs c = true := fun h => List.any_eq_true.2 ⟨fs[k], by simp, h⟩
      have HS := hid hsn
      have HI := hid hin
      clear hsn hin
      go_wp2_with fail
      refine hX.out.mono ?_
      rintro e w' ⟨rfl, he'⟩
      go_wp2_with fail
      · have hpt : fs[k].2.2 c = true := by assumption
        go_ret
        exact ⟨k, rfl, by rw [HI.out hpt]; simp, he.trans he'⟩
      · have hpf : fs[k].2.2 c = false := by assumption
        go_roundw
        case rel => exact ⟨k + 1, by omega, by go_num, he.trans he', by show _ = _; rw [HS.out, hsum.out, hpf]; rfl⟩
        case measure => simp [intOf]; omega
    · go_wp2_with fail
      go_ret
      exact ⟨-1, rfl, by have h := hsum.out; rw [List.take_of_length_le (by omega)] at h; rw [h]; rfl, he⟩

set_option maxHeartbeats 400000 in
theorem containsFunc_any (w : World) (a : Option Addr) (cap : Nat) (fs : List (FuncId × Array Value × (UInt8 → Bool))) (c : UInt8) (q : Addr) (hlen : fs.length ≤ 1000)
    (hq : w.cell? q = some (.int .u8 c.toNat)) (hp : FunRow Tryz.prog w a fs) :
    Calls Tryz.prog 77 #[.slice a fs.length cap, .func (.func 78) #[] #[.pointer (some q)]] w fun e w' =>
      e = .returned (.bool (anyOf fs c)) ∧ Ext w w' := by
  go_enter Tryz.func77, Tryz.ntmps77
  go_wp2_with fail
  refine (indexFunc_any w a cap fs c q hlen hq hp).mono ?_
  rintro e w' ⟨r, rfl, hr, he⟩
  have HR := hid hr
  clear hr
  go_wp2_with fail
  go_ret
  exact ⟨ret_bool HR.out, he⟩

set_option maxHeartbeats 400000 in
theorem either1_any (w : World) (a : Option Addr) (cap : Nat) (fs : List (FuncId × Array Value × (UInt8 → Bool))) (c : UInt8) (q : Addr) (hlen : fs.length ≤ 1000)
    (hq : w.cell? q = some (.slice a fs.length cap)) (hp : FunRow Tryz.prog w a fs) :
    Calls Tryz.prog 76 #[.int .u8 c.toNat, .pointer (some q)] w fun e w' =>
      e = .returned (.bool (anyOf fs c)) ∧ Ext w w' := by
  have hmf : ∀ (fn : Fn) (first cap : Array Value) (w : World), (Instr.makeFunc fn first cap).run Tryz.prog w = .ok (.func fn first cap) w := fun _ _ _ _ => rfl
  have hlt := World.block_lt_of_cell? _ _ hq
  have hq' : ∀ o, (w.alloc o).cell? q = some (.slice a fs.length cap) := fun o => by rw [World.cell?_alloc_lt _ _ _ hlt]; exact hq
  go_enter Tryz.func76, Tryz.ntmps76
  go_wp2_with fail
  refine (containsFunc_any _ a cap fs c _ hlen ?_ (hp.ext ((Ext.refl _).alloc _))).mono ?_
  · simp
  rintro e w' ⟨rfl, he⟩
  go_wp2_with fail
  go_ret
  exact ⟨rfl, ((Ext.refl _).alloc _).trans he⟩

set_option maxHeartbeats 400000 in
theorem either_any (w : World) (a : Option Addr) (cap : Nat) (fs : List (FuncId × Array Value × (UInt8 → Bool))) (hlen : fs.length ≤ 1000) (hp : FunRow Tryz.prog w a fs) :
    Calls Tryz.prog 50 #[.slice a fs.length cap] w fun e w' =>
      ∃ cap, e = .returned (.func (.func 76) #[] cap) ∧ Decides Tryz.prog w' 76 cap (anyOf fs) ∧ Ext w w' := by
  have hmf : ∀ (fn : Fn) (first cap : Array Value) (w : World), (Instr.makeFunc fn first cap).run Tryz.prog w = .ok (.func fn first cap) w := fun _ _ _ _ => rfl
  go_enter Tryz.func50, Tryz.ntmps50
  go_wp2_with fail
  go_ret
  refine ⟨_, rfl, ⟨fun _ _ => by simp [go_sem], fun w' e c => either1_any w' a cap fs c _ hlen (e.cell ?_) (hp.ext (((Ext.refl _).alloc _).trans e))⟩, (Ext.refl _).alloc _⟩
  simp

theorem isText_nat (c : UInt8) : isTextByte c = decide (32 ≤ (c.toNat : Int) ∧ (c.toNat : Int) ≤ 126 ∧ (c.toNat : Int) ≠ 34 ∧ (c.toNat : Int) ≠ 92) := by
  rw [Bool.eq_iff_iff]
  simp [isTextByte, UInt8.le_iff_toNat_le, ← UInt8.toNat_inj]
  omega
set_option maxHeartbeats 400000 in
theorem next1_any (w : World) (c : UInt8) :
    Calls Tryz.prog 53 #[.int .u8 c.toNat] w fun e w' =>
      e = .returned (.bool (isTextByte c)) ∧ Ext w w' := by
  have HN := hid (isText_nat c)
  generalize hn : (c.toNat : Int) = n at HN ⊢
  clear hn
  go_enter Tryz.func53, Tryz.ntmps53
  go_wp2_with fail
  all_goals
    go_ret
    refine ⟨ret_bool ?_, Ext.refl _⟩
    rw [HN.out, Bool.eq_iff_iff]
    simp
    omega

theorem next1_decides (w : World) : Decides Tryz.prog w 53 #[] isTextByte :=
  ⟨fun _ _ => by simp [go_sem], fun w' _ c => next1_any w' c⟩
end Go.Proofs.YtaehlakefgnfmaaGreatDoor
/-
  DERIVED. THE WALKS of package token, further: numbers and signs.
-/
namespace Go.Proofs.YtaehlakefgnfmaaGreatDoor
set_option linter.unusedSimpArgs false
set_option linter.unusedVariables false
set_option maxRecDepth 100000
open Go.RowKit

theorem numFrom_step (n : Nat) (s : List UInt8) (k : Nat) (h : k < s.length) :
    numFrom n (s.drop k) = if n > (maxNum - ((s[k]).toNat - 48)) / 10 then none else numFrom (10 * n + ((s[k]).toNat - 48)) (s.drop (k + 1)) := by
  rw [drop_getElem s k h]; rfl
/-- What number answers. -/
def numEnds (o : Option Nat) : Ending :=
  match o with
  | some n => .returned (.tuple #[.int .i64 n, .bool true])
  | none => .returned (.tuple #[.int .i64 0, .bool false])
set_option maxHeartbeats 400000 in
theorem number_any (w : World) (a : Option Addr) (s : List UInt8) (cap : Nat) (hs : BytesAt w a s) (hlen : s.length ≤ 140737488355328) (hd : ∀ c ∈ s, isDigit c = true) :
    Calls Tryz.prog 52 #[.slice a s.length cap] w fun e w' => e = numEnds (numFrom 0 s) ∧ Ext w w' := by
  go_enter Tryz.func52, Tryz.ntmps52
  go_wp2_with fail
  go_loopw [4, 10] (fun v i wr => ∃ (k n : Nat), k ≤ s.length ∧ n ≤ maxNum ∧ i = .int .i64 k ∧ v = .int .i64 n ∧ Ext w wr ∧ Hid (numFrom 0 s = numFrom n (s.drop k))) (fun _ i _ => s.length - (intOf i).toNat)
  case atStart => exact ⟨0, 0, by omega, by omega, rfl, rfl, Ext.refl w, rfl⟩
  case round =>
    obtain ⟨k, n, hk, hn, rfl, rfl, he, hsum⟩ := hrel
    by_cases hlt : k < s.length
    · obtain ⟨b, off, rfl, hc⟩ := (hs.ext he).at hlt
      have hdk := hd s[k] (by simp)
      generalize hx : (s[k].toNat : Int) = x at hc
      have hx1 : 48 ≤ x := by simp [isDigit, UInt8.le_iff_toNat_le] at hdk; omega
      have hx2 : x ≤ 57 := by simp [isDigit, UInt8.le_iff_toNat_le] at hdk; omega
      have hst := numFrom_step n s k hlt
      have HX := hid hx
      have HT := hid hst
      clear hx hdk hst
      unfold maxNum at hn
      go_wp2_with fail
      · have hgt : (9223372036854775807 - (x - 48)) / 10 < (n : Int) := by assumption
        go_ret2
        refine ⟨?_, he⟩
        rw [hsum.out, HT.out, if_pos (by have := HX.out; unfold maxNum; omega)]
        rfl
      · have hle : (n : Int) ≤ (9223372036854775807 - (x - 48)) / 10 := by assumption
        go_roundw
        case rel =>
          have h1 := HX.out
          refine ⟨k + 1, 10 * n + (s[k].toNat - 48), by omega, ?_, by go_num, ?_, he, ?_⟩
          · unfold maxNum; omega
          · rw [← h1]; congr 1; omega
          · show _ = _
            rw [hsum.out, HT.out, if_neg (by unfold maxNum; omega)]
        case measure => simp [intOf]; omega
    · go_wp2_with fail
      go_ret2
      refine ⟨?_, he⟩
      rw [hsum.out, List.drop_of_length_le (i := k) (by omega)]
      rfl

/-- The longest sign among the texts that open r. -/
def best : Nat → List UInt8 → List UInt8
  | 0, _ => []
  | n + 1, r => if r.isEmpty then [] else if signs.contains r then r else best n r.dropLast
theorem best_signAt (l : List UInt8) : best 3 (l.take 2) = signAt l := by
  match l with
  | [] => rfl
  | [a] => simp [best, signAt]
  | a :: b :: l => simp [best, signAt]

def strLen : Value → Nat | .string s => s.size | _ => 0
theorem best_hit (n : Nat) (r x : List UInt8) (h : (r == x) = true) (hx : signs.contains x = true) : best (n + 1) r = r := by
  rw [eq_of_beq h]
  have hne : x.isEmpty = false := by
    cases x with
    | nil => revert hx; decide
    | cons => rfl
  simp only [best, hne, hx, Bool.false_eq_true, if_false, if_true]
theorem extract_init (q : ByteArray) (n : Nat) (h : q.size = n) : (q.extract 0 (n - 1)).toList = q.toList.dropLast := by
  rw [Lib.extract_toList, ByteArray.toList_eq]
  subst h
  simp [List.dropLast_eq_take]
theorem string_of {q : ByteArray} {l : List UInt8} (h : q.toList = l) : Ending.returned (.string q) = .returned (.string ⟨l.toArray⟩) := by
  subst h
  rw [ByteArray.toList_eq]
theorem sign_hit {q : ByteArray} {n : Nat} {x S : List UInt8} (hb : best n q.toList = S) (hn : q.size < n) (h : (q.toList == x) = true) (hx : signs.contains x = true) :
    Ending.returned (.string q) = .returned (.string ⟨S.toArray⟩) := by
  obtain ⟨k, rfl⟩ : ∃ k, n = k + 1 := ⟨n - 1, by omega⟩
  exact string_of (by rw [← hb]; exact (best_hit k _ _ h hx).symm)
theorem size_pos_of {q : ByteArray} (h : q.toList.isEmpty = false) : 1 ≤ q.size := by
  rw [ByteArray.toList_eq] at h
  rcases Nat.eq_zero_or_pos q.data.size with h0 | h0
  · have h1 : q.data.toList = [] := List.eq_nil_of_length_eq_zero (by rw [Array.length_toList]; exact h0)
    rw [h1] at h; simp at h
  · exact h0
theorem sign_miss {q : ByteArray} {n : Nat} {S : List UInt8} (hb : best n q.toList = S) (hn : q.size < n) (h : q.toList.isEmpty = false) (hx : signs.contains q.toList = false) :
    best (n - 1) (q.extract 0 (q.size - 1)).toList = S ∧ (q.extract 0 (q.size - 1)).size < n - 1 ∧ (q.extract 0 (q.size - 1)).size < q.size := by
  obtain ⟨k, rfl⟩ : ∃ k, n = k + 1 := ⟨n - 1, by omega⟩
  have hs := size_pos_of h
  refine ⟨?_, ?_, ?_⟩
  · rw [extract_init q q.size rfl, Nat.add_sub_cancel, ← hb]
    simp only [best, h, hx, Bool.false_eq_true, if_false]
  · simp [ByteArray.size_extract]; omega
  · simp [ByteArray.size_extract]; omega
set_option maxHeartbeats 1000000 in
theorem sign_any (w : World) (a : Option Addr) (s : List UInt8) (cap at_ : Nat) (hs : BytesAt w a s) (hlen : s.length ≤ 140737488355328) (hcap : s.length ≤ cap) (hat : at_ < s.length) :
    Calls Tryz.prog 54 #[.slice a s.length cap, .int .i64 at_] w fun e w' => e = .returned (.string ⟨(signAt (s.drop at_)).toArray⟩) ∧ Ext w w' := by
  obtain ⟨b, off, rfl, hc⟩ := hs.at hat
  obtain ⟨m, hm⟩ : ∃ m, m = min (at_ + 2) s.length := ⟨_, rfl⟩
  have hm1 : at_ < m := by omega
  have hm2 : m ≤ s.length := by omega
  have htk : (s.drop at_).take (m - at_) = (s.drop at_).take 2 := by
    by_cases h : at_ + 2 ≤ s.length
    · rw [show m - at_ = 2 by omega]
    · rw [List.take_of_length_le (by simp; omega), List.take_of_length_le (by simp; omega)]
  have hlen2 : ((s.drop at_).take 2).length = m - at_ := by simp; omega
  have hcv : (convert 22 9 (.slice (some ⟨b, off + at_, none⟩) (m - at_) (cap - at_))).run Tryz.prog w = .ok (.string ⟨((s.drop at_).take 2).toArray⟩) w := by
    have hp := hs.part at_ (m - at_)
    rw [htk] at hp
    exact run_string_of hp _ _ _ Tryz.underlying22 Tryz.underlying5 Tryz.underlying9 _ _ hlen2
  have hmin : min ((at_ : Int) + 2) s.length = (m : Int) := by omega
  have HB := hid (best_signAt (s.drop at_))
  generalize hr : (s.drop at_).take 2 = r at hcv HB
  have HL := hid (show r.length ≤ 2 by rw [← hr]; simp; omega)
  clear hr htk hlen2 hm
  go_enter Tryz.func54, Tryz.ntmps54
  go_wp2_with fail
  go_step3
  go_wp2_with fail
  go_step3
  go_wp2_with fail
  go_loop [5] (fun v => ∃ (q : ByteArray) (n : Nat), v = .string q ∧ q.size < n ∧ n ≤ 3 ∧ Hid (best n q.toList = signAt (s.drop at_))) (fun v => strLen v)
  case atStart => exact ⟨_, 3, rfl, by have := HL.out; show r.length < 3; omega, by omega, by rw [ByteArray.toList_eq]; exact HB.out⟩
  case round =>
    obtain ⟨q, n, rfl, hq, hn, hbest⟩ := hrel
    by_cases he : q.toList.isEmpty = true
    · have HE := hid he
      go_wp2_with fail
      go_ret
      refine ⟨string_of ?_, Ext.refl _⟩
      obtain ⟨k, rfl⟩ : ∃ k, n = k + 1 := ⟨n - 1, by omega⟩
      rw [← hbest.out]
      simp only [best, HE.out, if_true]
      simpa using HE.out
    · have hef : q.toList.isEmpty = false := by simpa using he
      clear he
      have hsz := size_pos_of hef
      go_wp2_with fail
      all_goals first
        | (exfalso; simp_all only [Bool.true_eq_false, Bool.false_eq_true]; done)
        | (go_ret; exact ⟨sign_hit hbest.out hq (by assumption) rfl, Ext.refl _⟩)
        | skip
      have hno : signs.contains q.toList = false := by
        simp only [signs, twos, ones, List.cons_append, List.nil_append, List.contains_cons, List.contains_nil, *, Bool.or_self]
      obtain ⟨m1, m2, m3⟩ := sign_miss hbest.out hq hef hno
      exact ⟨⟨_, n - 1, rfl, m2, by omega, m1⟩, m3⟩
end Go.Proofs.YtaehlakefgnfmaaGreatDoor
/-
  DERIVED. THE WALKS of package token, further: the next token.
-/
namespace Go.Proofs.YtaehlakefgnfmaaGreatDoor
set_option linter.unusedSimpArgs false
set_option linter.unusedVariables false
set_option maxRecDepth 100000
open Go.RowKit

theorem under_eq (c : UInt8) : ((95 : UInt8) ≤ c && c ≤ 95) = (c == 95) := by
  rw [Bool.eq_iff_iff]; simp [UInt8.le_iff_toNat_le, ← UInt8.toNat_inj]; omega
theorem names_eq (f g h : FuncId) (x y z : Array Value) :
    anyOf [(f, x, fun c => (97 : UInt8) ≤ c && c ≤ 122), (g, y, fun c => (48 : UInt8) ≤ c && c ≤ 57), (h, z, fun c => (95 : UInt8) ≤ c && c ≤ 95)] = isNameByte := by
  funext c
  simp only [anyOf, List.any_cons, List.any_nil, Bool.or_false, under_eq, isNameByte, isLetter, isDigit, Bool.or_assoc]
theorem letter_eq (c : UInt8) : ((97 : UInt8) ≤ c && c ≤ 122) = isLetter c := rfl
theorem digit_eq (c : UInt8) : ((48 : UInt8) ≤ c && c ≤ 57) = isDigit c := rfl
theorem digits_eq : (fun c => (48 : UInt8) ≤ c && c ≤ 57) = isDigit := rfl

/-- What next answers. -/
def nextEnds (o : Except Nat Bit) (at_ : Nat) (e : Ending) : Prop :=
  match o with
  | .ok b => e = .returned (.tuple #[.agg #[.int .i64 b.kind, .string ⟨b.text.toArray⟩, .int .i64 b.num, .int .i64 at_], .int .i64 (at_ + b.len : Nat), .int .i64 0])
  | .error x => ∃ k t n, e = .returned (.tuple #[.agg #[.int .i64 k, .string t, .int .i64 n, .int .i64 at_], .int .i64 0, .int .i64 x])
theorem nextEnds_ok {o : Except Nat Bit} {at_ k num m : Nat} {t : List UInt8} {len : Nat} (h : o = .ok ⟨k, t, num, len⟩) (hm : m = at_ + len) :
    nextEnds o at_ (.returned (.tuple #[.agg #[.int .i64 k, .string ⟨t.toArray⟩, .int .i64 num, .int .i64 at_], .int .i64 m, .int .i64 0])) := by
  subst h; subst hm; rfl
theorem nextEnds_err {o : Except Nat Bit} {at_ x : Nat} {k n : Int} {t : ByteArray} (h : o = .error x) :
    nextEnds o at_ (.returned (.tuple #[.agg #[.int .i64 k, .string t, .int .i64 n, .int .i64 at_], .int .i64 0, .int .i64 x])) := by
  subst h; exact ⟨k, t, n, rfl⟩

set_option maxHeartbeats 1000000 in
theorem next_name (w : World) (a : Option Addr) (s : List UInt8) (cap at_ : Nat) (hs : BytesAt w a s) (hlen : s.length ≤ 140737488355328) (hcap : s.length ≤ cap) (hat : at_ < s.length)
    (hl : isLetter s[at_] = true) :
    Calls Tryz.prog 22 #[.slice a s.length cap, .int .i64 at_] w fun e w' => nextEnds (nextT (s.drop at_)) at_ e ∧ Ext w w' := by
  obtain ⟨b, off, rfl, hc⟩ := hs.at hat
  have hb := World.block_lt_of_cell? _ _ hc
  go_enter Tryz.func22, Tryz.ntmps22
  go_wp2_with fail
  refine (between_any _ 48 57).mono ?_
  rintro e w1 ⟨cd, rfl, hdig, e1⟩
  go_wp2_with fail
  refine (between_any w1 97 122).mono ?_
  rintro e w2 ⟨cl, rfl, hlet, e2⟩
  have e02 : Ext w w2 := (((Ext.refl w).alloc _).alloc _).trans (e1.trans e2)
  have bt0 := ((Blk.new (w.alloc (.cells [Value.int .i64 0, .string ⟨#[]⟩, .int .i64 0, .int .i64 0].toArray 63)) 63 [Value.int .i64 0, .string ⟨#[]⟩, .int .i64 0, .int .i64 at_]).ext e1).ext e2
  have br0 := (((Blk.new w 63 [Value.int .i64 0, .string ⟨#[]⟩, .int .i64 0, .int .i64 0]).alloc (.cells [Value.int .i64 0, .string ⟨#[]⟩, .int .i64 0, .int .i64 at_].toArray 63)).ext e1).ext e2
  rw [World.size_alloc] at bt0
  have hc2 := e02.cell hc
  have hdig2 := hdig.ext e2
  have hlet2 := hlet.says w2 (Ext.refl _) s[at_]
  simp only [letter_eq, hl] at hlet2
  have hl2 := hid hlet2
  clear hlet2
  go_wp2_with fail
  refine hl2.out.mono ?_
  rintro e w3 ⟨rfl, e3⟩
  go_wp2_with fail
  refine (between_any w3 95 95).mono ?_
  rintro e w4 ⟨cu, rfl, hund, e4⟩
  have e04 := e02.trans (e3.trans e4)
  have bt4 := (bt0.ext e3).ext e4
  have br4 := (br0.ext e3).ext e4
  have hrow : FunRow Tryz.prog (w4.alloc (.cells [Value.func (.func 75) #[] cl, .func (.func 75) #[] cd, .func (.func 75) #[] cu].toArray 86)) (some ⟨w4.heap.size, 0, none⟩)
      [(75, cl, fun c => (97 : UInt8) ≤ c && c ≤ 122), (75, cd, fun c => (48 : UInt8) ≤ c && c ≤ 57), (75, cu, fun c => (95 : UInt8) ≤ c && c ≤ 95)] := by
    refine ⟨CellsAt.new _ _ _, ?_⟩
    intro x hx
    simp only [List.mem_cons, List.not_mem_nil, or_false] at hx
    rcases hx with rfl | rfl | rfl
    · exact (((hlet.ext e3).ext e4).ext ((Ext.refl _).alloc _))
    · exact (((hdig2.ext e3).ext e4).ext ((Ext.refl _).alloc _))
    · exact hund.ext ((Ext.refl _).alloc _)
  clear bt0 br0 hdig hlet hdig2 hl2 hc2 hund
  go_wp2_with fail
  refine (either_any _ _ 3 _ (by simp) hrow).mono ?_
  rintro e w5 ⟨ck, rfl, hk, e5⟩
  rw [names_eq] at hk
  have e45 : Ext w4 w5 := ((Ext.refl _).alloc _).trans e5
  have hP := hid hk
  clear hk hrow e5
  go_wp2_with fail
  refine (span_any w5 _ s cap at_ _ _ isNameByte (hs.ext (e04.trans e45)) hlen (by omega) hP.out).mono ?_
  rintro e w6 ⟨rfl, e6⟩
  have e06 := e04.trans (e45.trans e6)
  have bt6 := (bt4.ext e45).ext e6
  have br6 := (br4.ext e45).ext e6
  have hk1 : 0 < spanLen isNameByte (s.drop at_) := by rw [drop_getElem s at_ hat]; simp [spanLen, isNameByte, hl]
  have hk2 := spanLen_le isNameByte (s.drop at_)
  rw [List.length_drop] at hk2
  obtain ⟨m, hm⟩ : ∃ m, m = at_ + spanLen isNameByte (s.drop at_) := ⟨_, rfl⟩
  have hm1 : at_ < m := by omega
  have hm2 : m ≤ s.length := by omega
  have hx := hs.part at_ (m - at_)
  rw [show m - at_ = spanLen isNameByte (s.drop at_) by omega] at hx
  rw [← hm]
  obtain ⟨x, hxd⟩ : ∃ x, x = (s.drop at_).take (spanLen isNameByte (s.drop at_)) := ⟨_, rfl⟩
  have hxl : x.length = m - at_ := by rw [hxd]; simp; omega
  rw [← hxd] at hx
  have hnx : nextT (s.drop at_) = if word x then .ok ⟨4, x, 0, x.length⟩ else if x.length > 16 then .error 32 else .ok ⟨1, x, 0, x.length⟩ := by
    rw [hxd]
    generalize hq : s.drop at_ = q
    have hq' := drop_getElem s at_ hat
    rw [hq] at hq'
    subst hq'
    simp only [nextT, hl, if_true]
  have HX := hid hnx
  have HL := hid hxl
  have hcv : ∀ w', Ext w w' → (convert 22 9 (.slice (some ⟨b, off + at_, none⟩) (m - at_) (cap - at_))).run Tryz.prog w' = .ok (.string ⟨x.toArray⟩) w' := fun w' e =>
    run_string_of (hx.ext e) _ _ _ Tryz.underlying22 Tryz.underlying5 Tryz.underlying9 _ _ hxl
  clear hm hk1 hk2 hx hxd bt4 br4 hP hnx hxl
  go_wp2_with fail
  obtain ⟨c0, c1, c2, c3, cf⟩ := bt6.four
  obtain ⟨r0, r1, r2, r3, rf⟩ := br6.four
  have v1 := hcv w6.drew e06.drew
  have v2 := hcv ((w6.setCell ⟨w.heap.size + 1, 0, none⟩ (.int .i64 1)).drew) (e06.setCell (by simp) _).drew
  clear hcv
  go_region
  clear v1 v2
  go_wp2_with fail
  refine (word_any _ _).mono ?_
  rintro e w7 ⟨rfl, hw7⟩
  subst hw7
  by_cases hw : word x = true
  · go_wp2_with fail
    refine bodyPost_ret (v := .tuple #[.agg #[.int .i64 4, .string ⟨x.toArray⟩, .int .i64 0, .int .i64 at_], .int .i64 m, .int .i64 0]) ?_ rfl ⟨nextEnds_ok (by rw [HX.out, if_pos hw]) (by have := HL.out; omega), ?_⟩
    · simp [results, Tryz.results22, go_sem, *]
    · repeat (with_reducible first | exact e06 | apply Ext.drew | refine Ext.setCell ?_ ?_ _)
      all_goals simp
  · have hwf : word x = false := by simpa using hw
    clear hw
    by_cases hl16 : 16 < x.length
    · go_wp2_with fail
      refine bodyPost_ret (v := .tuple #[.agg #[.int .i64 1, .string ⟨x.toArray⟩, .int .i64 0, .int .i64 at_], .int .i64 0, .int .i64 32]) ?_ rfl ⟨nextEnds_err (by rw [HX.out, if_neg (by simp [hwf]), if_pos hl16]), ?_⟩
      · simp [results, Tryz.results22, go_sem, *]
      · repeat (with_reducible first | exact e06 | apply Ext.drew | refine Ext.setCell ?_ ?_ _)
        all_goals simp
    · go_wp2_with fail
      refine bodyPost_ret (v := .tuple #[.agg #[.int .i64 1, .string ⟨x.toArray⟩, .int .i64 0, .int .i64 at_], .int .i64 m, .int .i64 0]) ?_ rfl ⟨nextEnds_ok (by rw [HX.out, if_neg (by simp [hwf]), if_neg hl16]) (by have := HL.out; omega), ?_⟩
      · simp [results, Tryz.results22, go_sem, *]
      · repeat (with_reducible first | exact e06 | apply Ext.drew | refine Ext.setCell ?_ ?_ _)
        all_goals simp

set_option maxHeartbeats 1000000 in
theorem next_number (w : World) (a : Option Addr) (s : List UInt8) (cap at_ : Nat) (hs : BytesAt w a s) (hlen : s.length ≤ 140737488355328) (hcap : s.length ≤ cap) (hat : at_ < s.length)
    (hl : isLetter s[at_] = false) (hd : isDigit s[at_] = true) :
    Calls Tryz.prog 22 #[.slice a s.length cap, .int .i64 at_] w fun e w' => nextEnds (nextT (s.drop at_)) at_ e ∧ Ext w w' := by
  obtain ⟨b, off, rfl, hc⟩ := hs.at hat
  have hb := World.block_lt_of_cell? _ _ hc
  go_enter Tryz.func22, Tryz.ntmps22
  go_wp2_with fail
  refine (between_any _ 48 57).mono ?_
  rintro e w1 ⟨cd, rfl, hdig, e1⟩
  go_wp2_with fail
  refine (between_any w1 97 122).mono ?_
  rintro e w2 ⟨cl, rfl, hlet, e2⟩
  have e02 : Ext w w2 := (((Ext.refl w).alloc _).alloc _).trans (e1.trans e2)
  have bt0 := ((Blk.new (w.alloc (.cells [Value.int .i64 0, .string ⟨#[]⟩, .int .i64 0, .int .i64 0].toArray 63)) 63 [Value.int .i64 0, .string ⟨#[]⟩, .int .i64 0, .int .i64 at_]).ext e1).ext e2
  have br0 := (((Blk.new w 63 [Value.int .i64 0, .string ⟨#[]⟩, .int .i64 0, .int .i64 0]).alloc (.cells [Value.int .i64 0, .string ⟨#[]⟩, .int .i64 0, .int .i64 at_].toArray 63)).ext e1).ext e2
  rw [World.size_alloc] at bt0
  have hc2 := e02.cell hc
  have hdig2 := hdig.ext e2
  have hlet2 := hlet.says w2 (Ext.refl _) s[at_]
  simp only [letter_eq, hl] at hlet2
  have hl2 := hid hlet2
  clear hlet2
  go_wp2_with fail
  refine hl2.out.mono ?_
  rintro e w3 ⟨rfl, e3⟩
  have hdig3 := hdig2.says w3 e3 s[at_]
  simp only [digit_eq, hd] at hdig3
  have hd3 := hid hdig3
  clear hdig3
  go_wp2_with fail
  refine hd3.out.mono ?_
  rintro e w4 ⟨rfl, e4⟩
  have e04 := e02.trans (e3.trans e4)
  have bt4 := (bt0.ext e3).ext e4
  have br4 := (br0.ext e3).ext e4
  have hdig4 := (hdig2.ext e3).ext e4
  clear bt0 br0 hdig hlet hdig2 hl2 hd3 hc2
  rw [digits_eq] at hdig4
  have hP := hid hdig4
  clear hdig4
  go_wp2_with fail
  refine (span_any w4 _ s cap at_ _ _ isDigit (hs.ext e04) hlen (by omega) hP.out).mono ?_
  rintro e w6 ⟨rfl, e6⟩
  have e06 := e04.trans e6
  have bt6 := bt4.ext e6
  have br6 := br4.ext e6
  have hk1 : 0 < spanLen isDigit (s.drop at_) := by rw [drop_getElem s at_ hat]; simp [spanLen, hd]
  have hk2 := spanLen_le isDigit (s.drop at_)
  rw [List.length_drop] at hk2
  obtain ⟨m, hm⟩ : ∃ m, m = at_ + spanLen isDigit (s.drop at_) := ⟨_, rfl⟩
  have hm1 : at_ < m := by omega
  have hm2 : m ≤ s.length := by omega
  have hx := hs.part at_ (m - at_)
  rw [show m - at_ = spanLen isDigit (s.drop at_) by omega] at hx
  rw [← hm]
  obtain ⟨x, hxd⟩ : ∃ x, x = (s.drop at_).take (spanLen isDigit (s.drop at_)) := ⟨_, rfl⟩
  have hxl : x.length = m - at_ := by rw [hxd]; simp; omega
  rw [← hxd] at hx
  have hxall : ∀ c ∈ x, isDigit c = true := by rw [hxd]; exact spanLen_take isDigit (s.drop at_)
  have hnx : nextT (s.drop at_) = match numFrom 0 x with | none => .error 32 | some n => .ok ⟨2, [], n, x.length⟩ := by
    rw [hxd]
    generalize hq : s.drop at_ = q
    have hq' := drop_getElem s at_ hat
    rw [hq] at hq'
    subst hq'
    simp only [nextT, hl, hd, if_true, Bool.false_eq_true, if_false]
    generalize numFrom 0 _ = o
    cases o <;> rfl
  have hnum := number_any w6 (some ⟨b, off + at_, none⟩) x (cap - at_) (hx.ext e06) (by omega) hxall
  rw [hxl] at hnum
  have HN := hid hnum
  have HX := hid hnx
  have HL := hid hxl
  clear hm hk1 hk2 hx hxd bt4 br4 hP hnx hxl hnum hxall
  go_wp2_with fail
  refine HN.out.mono ?_
  rintro e w7 ⟨rfl, e7⟩
  have e07 := e06.trans e7
  obtain ⟨c0, c1, c2, c3, cf⟩ := (bt6.ext e7).four
  obtain ⟨r0, r1, r2, r3, rf⟩ := (br6.ext e7).four
  clear HN bt6 br6
  cases hno : numFrom 0 x with
  | none =>
    have HX2 := HX.out
    rw [hno] at HX2
    have HX3 := hid HX2
    clear HX HX2 hno
    unfold numEnds
    go_wp2_with fail
    refine bodyPost_ret (v := .tuple #[.agg #[.int .i64 0, .string ⟨#[]⟩, .int .i64 0, .int .i64 at_], .int .i64 0, .int .i64 32]) ?_ rfl ⟨nextEnds_err HX3.out, ?_⟩
    · simp [results, Tryz.results22, go_sem, *]
    · repeat (with_reducible first | exact e07 | apply Ext.drew | refine Ext.setCell ?_ ?_ _)
      all_goals simp
  | some n =>
    have HX2 := HX.out
    rw [hno] at HX2
    have HX3 := hid HX2
    clear HX HX2 hno
    unfold numEnds
    go_wp2_with fail
    refine bodyPost_ret (v := .tuple #[.agg #[.int .i64 2, .string ⟨#[]⟩, .int .i64 n, .int .i64 at_], .int .i64 m, .int .i64 0]) ?_ rfl ⟨nextEnds_ok HX3.out (by have := HL.out; omega), ?_⟩
    · simp [results, Tryz.results22, go_sem, *]
    · repeat (with_reducible first | exact e07 | apply Ext.drew | refine Ext.setCell ?_ ?_ _)
      all_goals simp
end Go.Proofs.YtaehlakefgnfmaaGreatDoor
/-
  DERIVED. THE WALKS of package token, further: the next token, a text or a sign.
-/
namespace Go.Proofs.YtaehlakefgnfmaaGreatDoor
set_option linter.unusedSimpArgs false
set_option linter.unusedVariables false
set_option maxRecDepth 100000
open Go.RowKit

set_option maxHeartbeats 1000000 in
theorem next_text (w : World) (a : Option Addr) (s : List UInt8) (cap at_ : Nat) (hs : BytesAt w a s) (hlen : s.length ≤ 140737488355328) (hcap : s.length ≤ cap) (hat : at_ < s.length)
    (hl : isLetter s[at_] = false) (hd : isDigit s[at_] = false) (H34 : Hid (s[at_] = 34)) :
    Calls Tryz.prog 22 #[.slice a s.length cap, .int .i64 at_] w fun e w' => nextEnds (nextT (s.drop at_)) at_ e ∧ Ext w w' := by
  obtain ⟨b, off, rfl, hc⟩ := hs.at hat
  have hb := World.block_lt_of_cell? _ _ hc
  go_enter Tryz.func22, Tryz.ntmps22
  go_wp2_with fail
  refine (between_any _ 48 57).mono ?_
  rintro e w1 ⟨cd, rfl, hdig, e1⟩
  go_wp2_with fail
  refine (between_any w1 97 122).mono ?_
  rintro e w2 ⟨cl, rfl, hlet, e2⟩
  have e02 : Ext w w2 := (((Ext.refl w).alloc _).alloc _).trans (e1.trans e2)
  have bt0 := ((Blk.new (w.alloc (.cells [Value.int .i64 0, .string ⟨#[]⟩, .int .i64 0, .int .i64 0].toArray 63)) 63 [Value.int .i64 0, .string ⟨#[]⟩, .int .i64 0, .int .i64 at_]).ext e1).ext e2
  have br0 := (((Blk.new w 63 [Value.int .i64 0, .string ⟨#[]⟩, .int .i64 0, .int .i64 0]).alloc (.cells [Value.int .i64 0, .string ⟨#[]⟩, .int .i64 0, .int .i64 at_].toArray 63)).ext e1).ext e2
  rw [World.size_alloc] at bt0
  have hc2 := e02.cell hc
  have hdig2 := hdig.ext e2
  have hlet2 := hlet.says w2 (Ext.refl _) s[at_]
  simp only [letter_eq, hl] at hlet2
  have hl2 := hid hlet2
  clear hlet2
  go_wp2_with fail
  refine hl2.out.mono ?_
  rintro e w3 ⟨rfl, e3⟩
  have hdig3 := hdig2.says w3 e3 s[at_]
  simp only [digit_eq, hd] at hdig3
  have hd3 := hid hdig3
  clear hdig3
  go_wp2_with fail
  refine hd3.out.mono ?_
  rintro e w4 ⟨rfl, e4⟩
  have e04 := e02.trans (e3.trans e4)
  have bt4 := (bt0.ext e3).ext e4
  have br4 := (br0.ext e3).ext e4
  have hdig4 := (hdig2.ext e3).ext e4
  clear bt0 br0 hdig hlet hdig2 hl2 hd3 hc2
  have hc34 : ((s[at_].toNat : Int) == 34) = true := by rw [H34.out]; rfl
  go_wp2_with fail
  refine (span_any w4 _ s cap (at_ + 1) _ _ isTextByte (hs.ext e04) hlen (by omega) (next1_decides w4)).mono ?_
  rintro e w6 ⟨rfl, e6⟩
  have e06 := e04.trans e6
  have bt6 := bt4.ext e6
  have br6 := br4.ext e6
  have hk2 := spanLen_le isTextByte (s.drop (at_ + 1))
  rw [List.length_drop] at hk2
  obtain ⟨k, hk⟩ : ∃ k, k = spanLen isTextByte (s.drop (at_ + 1)) := ⟨_, rfl⟩
  obtain ⟨m, hm⟩ : ∃ m, m = at_ + 1 + k := ⟨_, rfl⟩
  rw [← hk, ← hm]
  have hm1 : at_ + 1 ≤ m := by omega
  have hm2 : m ≤ s.length := by omega
  have hnx : nextT (s.drop at_) = match s.drop m with | [] => .error 31 | d :: _ => if d != 34 then .error 31 else if k > 64 then .error 32 else .ok ⟨3, (s.drop (at_ + 1)).take k, 0, k + 2⟩ := by
    rw [hm, ← List.drop_drop, hk]
    generalize hq : s.drop at_ = q
    have hq' := drop_getElem s at_ hat
    rw [hq] at hq'
    rw [show s.drop (at_ + 1) = q.drop 1 by rw [← hq, List.drop_drop]]
    subst hq'
    have hb : (s[at_] == 34) = true := by rw [H34.out]; rfl
    simp only [nextT, hl, hd, hb, if_true, Bool.false_eq_true, if_false, List.drop_succ_cons, List.drop_zero]
    generalize List.drop (spanLen isTextByte _) _ = o
    cases o <;> rfl
  have hx := hs.part (at_ + 1) k
  have HX := hid hnx
  have HM := hid hm
  clear hk2 hk bt4 br4 hnx hm
  obtain ⟨c0, c1, c2, c3, cf⟩ := bt6.four
  obtain ⟨r0, r1, r2, r3, rf⟩ := br6.four
  clear bt6 br6
  by_cases hend : m = s.length
  · have hee : ((m : Int) == (s.length : Int)) = true := by simp; omega
    have hno : nextT (s.drop at_) = .error 31 := by rw [HX.out, List.drop_of_length_le (i := m) (by omega)]
    have HNO := hid hno
    clear hno HX hx hend
    go_wp2_with fail
    refine bodyPost_ret (v := .tuple #[.agg #[.int .i64 0, .string ⟨#[]⟩, .int .i64 0, .int .i64 at_], .int .i64 0, .int .i64 31]) ?_ rfl ⟨nextEnds_err HNO.out, ?_⟩
    · simp [results, Tryz.results22, go_sem, *]
    · repeat (with_reducible first | exact e06 | apply Ext.drew | refine Ext.setCell ?_ ?_ _)
      all_goals simp
  · have hlt : m < s.length := by omega
    have hee : ((m : Int) == (s.length : Int)) = false := by simp; omega
    obtain ⟨b', off', hbo, hcm⟩ := (hs.ext e06).at hlt
    simp only [Option.some.injEq, Addr.mk.injEq, and_true] at hbo
    obtain ⟨rfl, rfl⟩ := hbo
    have hnx : nextT (s.drop at_) = if s[m] != 34 then .error 31 else if k > 64 then .error 32 else .ok ⟨3, (s.drop (at_ + 1)).take k, 0, k + 2⟩ := by
      rw [HX.out, drop_getElem s m hlt]
    have HX2 := hid hnx
    clear HX hnx
    by_cases hq : s[m] = 34
    · have hqi : ((s[m].toNat : Int) != 34) = false := by rw [hq]; rfl
      have hnx : nextT (s.drop at_) = if k > 64 then .error 32 else .ok ⟨3, (s.drop (at_ + 1)).take k, 0, k + 2⟩ := by
        rw [HX2.out, hq]; rfl
      have HX := hid hnx
      clear HX2 hnx hq hend
      have hxl : ((s.drop (at_ + 1)).take k).length = m - (at_ + 1) := by have := HM.out; simp; omega
      generalize (s.drop (at_ + 1)).take k = x at hx HX hxl
      have hml : m ≤ 140737488355328 := by omega
      by_cases hk64 : 64 < m - at_ - 1
      · have hk64' : 64 < (m : Int) - at_ - 1 := by omega
        have HK := hid hk64
        clear hk64
        go_wp2_with fail
        refine bodyPost_ret (v := .tuple #[.agg #[.int .i64 0, .string ⟨#[]⟩, .int .i64 0, .int .i64 at_], .int .i64 0, .int .i64 32]) ?_ rfl ⟨nextEnds_err (by rw [HX.out, if_pos (by have := HM.out; have := HK.out; omega)]), ?_⟩
        · simp [results, Tryz.results22, go_sem, *]
        · repeat (with_reducible first | exact e06 | apply Ext.drew | refine Ext.setCell ?_ ?_ _)
          all_goals simp
      · have hk64' : ¬ 64 < (m : Int) - at_ - 1 := by omega
        have HK := hid hk64
        have HXL := hid hxl
        have hcv : ∀ w', Ext w w' → (convert 22 9 (.slice (some ⟨b, off + (at_ + 1), none⟩) (m - (at_ + 1)) (cap - (at_ + 1)))).run Tryz.prog w' = .ok (.string ⟨x.toArray⟩) w' := fun w' e =>
          run_string_of (hx.ext e) _ _ _ Tryz.underlying22 Tryz.underlying5 Tryz.underlying9 _ _ hxl
        have v1 := hcv w6.drew e06.drew
        have v2 := hcv ((w6.setCell ⟨w.heap.size + 1, 0, none⟩ (.int .i64 3)).drew) (e06.setCell (by simp) _).drew
        clear hk64 hcv hxl hx
        go_wp2_with fail
        go_region
        clear v1 v2
        go_wp2_with fail
        refine bodyPost_ret (v := .tuple #[.agg #[.int .i64 3, .string ⟨x.toArray⟩, .int .i64 0, .int .i64 at_], .int .i64 (m + 1), .int .i64 0]) ?_ rfl ⟨nextEnds_ok (m := m + 1) (by rw [HX.out, if_neg (by have := HM.out; have := HK.out; omega)]) (by have := HM.out; omega), ?_⟩
        · simp [results, Tryz.results22, go_sem, *]
        · repeat (with_reducible first | exact e06 | apply Ext.drew | refine Ext.setCell ?_ ?_ _)
          all_goals simp
    · have hqi : ((s[m].toNat : Int) != 34) = true := by rw [show ((34 : Int)) = ((34 : UInt8).toNat : Int) from rfl, u8_ne]; simpa using hq
      have hno : nextT (s.drop at_) = .error 31 := by rw [HX2.out, if_pos (by simpa using hq)]
      have HNO := hid hno
      clear hno HX2 hq hx
      go_wp2_with fail
      refine bodyPost_ret (v := .tuple #[.agg #[.int .i64 0, .string ⟨#[]⟩, .int .i64 0, .int .i64 at_], .int .i64 0, .int .i64 31]) ?_ rfl ⟨nextEnds_err HNO.out, ?_⟩
      · simp [results, Tryz.results22, go_sem, *]
      · repeat (with_reducible first | exact e06 | apply Ext.drew | refine Ext.setCell ?_ ?_ _)
        all_goals simp

set_option maxHeartbeats 1000000 in
theorem next_sign (w : World) (a : Option Addr) (s : List UInt8) (cap at_ : Nat) (hs : BytesAt w a s) (hlen : s.length ≤ 140737488355328) (hcap : s.length ≤ cap) (hat : at_ < s.length)
    (hl : isLetter s[at_] = false) (hd : isDigit s[at_] = false) (H34 : Hid (s[at_] ≠ 34)) :
    Calls Tryz.prog 22 #[.slice a s.length cap, .int .i64 at_] w fun e w' => nextEnds (nextT (s.drop at_)) at_ e ∧ Ext w w' := by
  obtain ⟨b, off, rfl, hc⟩ := hs.at hat
  have hb := World.block_lt_of_cell? _ _ hc
  go_enter Tryz.func22, Tryz.ntmps22
  go_wp2_with fail
  refine (between_any _ 48 57).mono ?_
  rintro e w1 ⟨cd, rfl, hdig, e1⟩
  go_wp2_with fail
  refine (between_any w1 97 122).mono ?_
  rintro e w2 ⟨cl, rfl, hlet, e2⟩
  have e02 : Ext w w2 := (((Ext.refl w).alloc _).alloc _).trans (e1.trans e2)
  have bt0 := ((Blk.new (w.alloc (.cells [Value.int .i64 0, .string ⟨#[]⟩, .int .i64 0, .int .i64 0].toArray 63)) 63 [Value.int .i64 0, .string ⟨#[]⟩, .int .i64 0, .int .i64 at_]).ext e1).ext e2
  have br0 := (((Blk.new w 63 [Value.int .i64 0, .string ⟨#[]⟩, .int .i64 0, .int .i64 0]).alloc (.cells [Value.int .i64 0, .string ⟨#[]⟩, .int .i64 0, .int .i64 at_].toArray 63)).ext e1).ext e2
  rw [World.size_alloc] at bt0
  have hc2 := e02.cell hc
  have hdig2 := hdig.ext e2
  have hlet2 := hlet.says w2 (Ext.refl _) s[at_]
  simp only [letter_eq, hl] at hlet2
  have hl2 := hid hlet2
  clear hlet2
  go_wp2_with fail
  refine hl2.out.mono ?_
  rintro e w3 ⟨rfl, e3⟩
  have hdig3 := hdig2.says w3 e3 s[at_]
  simp only [digit_eq, hd] at hdig3
  have hd3 := hid hdig3
  clear hdig3
  go_wp2_with fail
  refine hd3.out.mono ?_
  rintro e w4 ⟨rfl, e4⟩
  have e04 := e02.trans (e3.trans e4)
  have bt4 := (bt0.ext e3).ext e4
  have br4 := (br0.ext e3).ext e4
  have hdig4 := (hdig2.ext e3).ext e4
  clear bt0 br0 hdig hlet hdig2 hl2 hd3 hc2
  have hc34 : ((s[at_].toNat : Int) == 34) = false := by
    have := u8_ne s[at_] 34
    cases hb : ((s[at_].toNat : Int) == 34) with
    | false => rfl
    | true => rw [bne_iff_ne.2 H34.out] at this; exfalso; simp at hb this; omega
  have hnx : nextT (s.drop at_) = if (signAt (s.drop at_)).isEmpty then .error 31 else .ok ⟨4, signAt (s.drop at_), 0, (signAt (s.drop at_)).length⟩ := by
    generalize hq : s.drop at_ = q
    have hq' := drop_getElem s at_ hat
    rw [hq] at hq'
    subst hq'
    have hb : (s[at_] == 34) = false := by simpa using H34.out
    simp only [nextT, hl, hd, hb, Bool.false_eq_true, if_false]
  have HX := hid hnx
  clear hnx
  go_wp2_with fail
  refine (sign_any w4 _ s cap at_ (hs.ext e04) hlen hcap hat).mono ?_
  rintro e w6 ⟨rfl, e6⟩
  have e06 := e04.trans e6
  obtain ⟨c0, c1, c2, c3, cf⟩ := (bt4.ext e6).four
  obtain ⟨r0, r1, r2, r3, rf⟩ := (br4.ext e6).four
  clear bt4 br4
  have hxl : (signAt (s.drop at_)).length ≤ 2 := by
    unfold signAt
    split
    · simp; omega
    · split
      · simp; omega
      · simp
  generalize signAt (s.drop at_) = x at HX hxl
  by_cases hx0 : x = []
  · have hno : nextT (s.drop at_) = .error 31 := by rw [HX.out, hx0]; rfl
    have HNO := hid hno
    subst hx0
    clear hno HX
    go_wp2_with fail
    refine bodyPost_ret (v := .tuple #[.agg #[.int .i64 4, .string ⟨#[]⟩, .int .i64 0, .int .i64 at_], .int .i64 0, .int .i64 31]) ?_ rfl ⟨nextEnds_err HNO.out, ?_⟩
    · simp [results, Tryz.results22, go_sem, *]
    · repeat (with_reducible first | exact e06 | apply Ext.drew | refine Ext.setCell ?_ ?_ _)
      all_goals simp
  · have hno : nextT (s.drop at_) = .ok ⟨4, x, 0, x.length⟩ := by rw [HX.out, if_neg (by simpa using hx0)]
    have HNO := hid hno
    have hem : x.isEmpty = false := by simpa using hx0
    have hte : (ByteArray.mk x.toArray).toList.isEmpty = false := by rw [ByteArray.toList_eq]; simpa using hx0
    have hsz : (ByteArray.mk x.toArray).size = x.length := by simp [ByteArray.size]
    clear hno HX
    go_wp2_with fail
    go_region
    go_wp2_with fail
    refine bodyPost_ret (v := .tuple #[.agg #[.int .i64 4, .string ⟨x.toArray⟩, .int .i64 0, .int .i64 at_], .int .i64 (at_ + x.length), .int .i64 0]) ?_ rfl ⟨nextEnds_ok (m := at_ + x.length) HNO.out rfl, ?_⟩
    · simp [results, Tryz.results22, go_sem, *]
    · repeat (with_reducible first | exact e06 | apply Ext.drew | refine Ext.setCell ?_ ?_ _)
      all_goals simp

/-- WHATEVER THE TEXT: the token at a place. -/
theorem next_any (w : World) (a : Option Addr) (s : List UInt8) (cap at_ : Nat) (hs : BytesAt w a s) (hlen : s.length ≤ 140737488355328) (hcap : s.length ≤ cap) (hat : at_ < s.length) :
    Calls Tryz.prog 22 #[.slice a s.length cap, .int .i64 at_] w fun e w' => nextEnds (nextT (s.drop at_)) at_ e ∧ Ext w w' := by
  cases hl : isLetter s[at_] with
  | true => exact next_name w a s cap at_ hs hlen hcap hat hl
  | false =>
    cases hd : isDigit s[at_] with
    | true => exact next_number w a s cap at_ hs hlen hcap hat hl hd
    | false =>
      by_cases h34 : s[at_] = 34
      · exact next_text w a s cap at_ hs hlen hcap hat hl hd h34
      · exact next_sign w a s cap at_ hs hlen hcap hat hl hd h34
end Go.Proofs.YtaehlakefgnfmaaGreatDoor
