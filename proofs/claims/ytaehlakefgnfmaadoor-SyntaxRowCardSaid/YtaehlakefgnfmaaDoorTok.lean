/-
  DERIVED. THE WALKS of package token.
-/
import Derived.Test.YtaehlakefgnfmaaDoorBase
import Derived.Test.YtaehlakefgnfmaaDoorLex
import Derived.Test.YtaehlakefgnfmaaDoorShelf
import Derived.Test.YtaehlakefgnfmaaDoorRows
namespace Go.Proofs.YtaehlakefgnfmaaDoor
set_option linter.unusedSimpArgs false
set_option linter.unusedVariables false
set_option maxRecDepth 100000
open Go.RowKit

theorem ret_int {k : IntKind} {a b : Int} (h : a = b) : Ending.returned (.int k a) = .returned (.int k b) := by rw [h]

set_option maxHeartbeats 400000 in
theorem span_any (w : World) (a : Option Addr) (s : List UInt8) (cap at_ : Nat) (f : FuncId) (fc : Array Value) (p : UInt8 → Bool)
    (hs : BytesAt w a s) (hlen : s.length ≤ 140737488355328) (hat : at_ ≤ s.length) (hp : Decides Tryd.prog w f fc p) :
    Calls Tryd.prog 38 #[.slice a s.length cap, .int .i64 at_, .func (.func f) #[] fc] w fun e w' =>
      e = .returned (.int .i64 (at_ + spanLen p (s.drop at_) : Nat)) ∧ Ext w w' := by
  go_enter Tryd.func38, Tryd.ntmps38
  go_wp2_with fail
  go_loopw [1] (fun i wr => ∃ k : Nat, k ≤ s.length ∧ i = .int .i64 k ∧ Ext w wr ∧ Hid (at_ + spanLen p (s.drop at_) = k + spanLen p (s.drop k))) (fun i _ => s.length - (intOf i).toNat)
  case atStart => exact ⟨at_, hat, rfl, Ext.refl w, rfl⟩
  case round =>
    obtain ⟨k, hk, rfl, he, hsum⟩ := hrel
    by_cases hlt : k < s.length
    · obtain ⟨b, off, rfl, hc⟩ := (hs.ext he).at hlt
      have hP := hp.says wr he s[k]
      have HP := hid hP
      clear hP
      have hent := hp.enters
      go_wp2_with fail
      refine HP.out.mono ?_
      rintro e w' ⟨rfl, he'⟩
      have hsp : spanLen p (s.drop k) = if p s[k] then spanLen p (s.drop (k + 1)) + 1 else 0 := by rw [drop_getElem s k hlt]; rfl
      have HS := hid hsp
      clear hsp
      go_wp2_with fail
      · have hpt : p s[k] = true := by assumption
        go_roundw
        case rel => exact ⟨k + 1, by omega, by go_num, he.trans he', by have h1 := HS.out; have h2 := hsum.out; rw [hpt, if_pos rfl] at h1; show _ = _; omega⟩
        case measure => simp [intOf]; omega
      · have hpf : p s[k] = false := by assumption
        go_ret
        exact ⟨ret_int (by have h1 := HS.out; have h2 := hsum.out; rw [hpf, if_neg (by simp)] at h1; omega), he.trans he'⟩
    · go_wp2_with fail
      go_ret
      exact ⟨ret_int (by have h2 := hsum.out; rw [List.drop_of_length_le (i := k) (by omega)] at h2; simp only [spanLen] at h2; omega), he⟩

theorem ret_bool {a b : Bool} (h : a = b) : Ending.returned (.bool a) = .returned (.bool b) := by rw [h]

set_option maxRecDepth 20000 in
theorem blank_index (c : UInt8) : decide (0 ≤ Lib.indexByte [9, 10, 13, 32] c) = isBlank c := by
  have h : ∀ n : Fin 256, decide (0 ≤ Lib.indexByte [9, 10, 13, 32] (UInt8.ofFin n)) = isBlank (UInt8.ofFin n) := by decide
  exact h c.toFin

set_option maxHeartbeats 400000 in
theorem blanks1_any (w : World) (c : UInt8) :
    Calls Tryd.prog 39 #[.int .u8 c.toNat] w fun e w' =>
      e = .returned (.bool (isBlank c)) ∧ Ext w w' := by
  go_enter Tryd.func39, Tryd.ntmps39
  go_wp2_with (go_at_call 40; refine (Tryd.strings_IndexByte _ _ _).mono ?_; rintro e w' ⟨rfl, rfl⟩)
  go_ret
  exact ⟨ret_bool (by rw [← blank_index c]), Ext.refl _⟩

theorem u8_ne (c d : UInt8) : ((c.toNat : Int) != d.toNat) = (c != d) := by
  rw [Bool.eq_iff_iff]; simp [← UInt8.toNat_inj]; omega
set_option maxHeartbeats 400000 in
theorem blanks2_any (w : World) (c : UInt8) :
    Calls Tryd.prog 41 #[.int .u8 c.toNat] w fun e w' =>
      e = .returned (.bool (c != 10)) ∧ Ext w w' := by
  go_enter Tryd.func41, Tryd.ntmps41
  go_wp2
  go_ret
  exact ⟨ret_bool (u8_ne c 10), Ext.refl _⟩

theorem blanks1_decides (w : World) : Decides Tryd.prog w 39 #[] isBlank :=
  ⟨fun _ _ => by simp [go_sem], fun w' _ c => blanks1_any w' c⟩
theorem blanks2_decides (w : World) : Decides Tryd.prog w 41 #[] (· != 10) :=
  ⟨fun _ _ => by simp [go_sem], fun w' _ c => blanks2_any w' c⟩

set_option maxHeartbeats 400000 in
theorem blanks_any (w : World) (a : Option Addr) (s : List UInt8) (cap at_ : Nat)
    (hs : BytesAt w a s) (hlen : s.length ≤ 140737488355328) (hat : at_ ≤ s.length) :
    Calls Tryd.prog 23 #[.slice a s.length cap, .int .i64 at_] w fun e w' =>
      e = .returned (.int .i64 (at_ + skip false (s.drop at_) : Nat)) ∧ Ext w w' := by
  go_enter Tryd.func23, Tryd.ntmps23
  go_wp2_with fail
  go_loopw [1] (fun i wr => ∃ k : Nat, k ≤ s.length ∧ i = .int .i64 k ∧ Ext w wr ∧ Hid (at_ + skip false (s.drop at_) = k + skip false (s.drop k))) (fun i _ => s.length - (intOf i).toNat)
  case atStart => exact ⟨at_, hat, rfl, Ext.refl w, rfl⟩
  case round =>
    obtain ⟨k, hk, rfl, he, hsum⟩ := hrel
    go_wp2_with fail
    refine (span_any wr a s cap k _ _ isBlank (hs.ext he) hlen hk (blanks1_decides wr)).mono ?_
    rintro e w1 ⟨rfl, he1⟩
    have hsp := skip_span (s.drop k)
    have hle := spanLen_le isBlank (s.drop k)
    rw [List.drop_drop] at hsp
    rw [List.length_drop] at hle
    generalize hn : k + spanLen isBlank (s.drop k) = n at hsp ⊢
    have HN := hid hn
    have HS := hid hsp
    clear hn hsp
    have hn2 : n ≤ s.length := by have := HN.out; omega
    by_cases hlt : n < s.length
    · obtain ⟨b, off, rfl, hc⟩ := ((hs.ext he).ext he1).at hlt
      have hne : ((n : Int) == (s.length : Int)) = false := by simp; omega
      by_cases h35 : s[n] = 35
      · have hc35 : ((s[n].toNat : Int) != 35) = false := by rw [h35]; rfl
        have hrem : skip false (s.drop n) = spanLen (· != 10) (s.drop n) + skip false (s.drop (n + spanLen (· != 10) (s.drop n))) := by
          rw [← List.drop_drop, drop_getElem s n hlt, h35]; exact skip_remark _
        have hle2 := spanLen_le (· != 10) (s.drop n)
        rw [List.length_drop] at hle2
        have hpos : 0 < spanLen (· != 10) (s.drop n) := by rw [drop_getElem s n hlt, h35]; simp [spanLen]
        have HR := hid hrem
        clear hrem
        have H35 := hid h35
        clear h35
        go_wp2_with fail
        refine (span_any w1 _ s cap n _ _ (· != 10) ((hs.ext he).ext he1) hlen (by omega) (blanks2_decides w1)).mono ?_
        rintro e w2 ⟨rfl, he2⟩
        go_wp2_with fail
        go_roundw
        case rel => exact ⟨_, by omega, rfl, (he.trans he1).trans he2, by have h1 := HS.out; have h2 := hsum.out; have h3 := HR.out; have h4 := HN.out; show _ = _; omega⟩
        case measure => have := HN.out; simp [intOf]; omega
      · have hc35 : ((s[n].toNat : Int) != 35) = true := by rw [show ((35 : Int)) = ((35 : UInt8).toNat : Int) from rfl, u8_ne]; simpa using h35
        have H35 := hid h35
        clear h35
        go_wp2_with fail
        go_ret
        refine ⟨ret_int ?_, he.trans he1⟩
        have h1 := HS.out; have h2 := hsum.out; have h4 := HN.out
        have h5 : skip false (s.drop n) = 0 := by
          have hb : isBlank s[n] = false := spanLen_stop isBlank (s.drop k) s[n] (s.drop (n + 1)) (by rw [List.drop_drop, h4, drop_getElem s n hlt])
          rw [drop_getElem s n hlt]; exact skip_none _ _ H35.out hb
        omega
    · have hnl : n = s.length := by omega
      have HL := hid hnl
      have heq : ((n : Int) == (s.length : Int)) = true := by simp; omega
      clear hnl
      go_wp2_with fail
      go_ret
      refine ⟨ret_int ?_, he.trans he1⟩
      have h1 := HS.out; have h2 := hsum.out; have h4 := HN.out
      have h5 : skip false (s.drop n) = 0 := by rw [HL.out]; simp [skip]
      omega

theorem word_yes {l x : List UInt8} (h : (l == x) = true) (hx : words.contains x = true) : true = word l := by
  rw [eq_of_beq h]; exact hx.symm
set_option maxHeartbeats 1000000 in
theorem word_any (w : World) (s : ByteArray) :
    Calls Tryd.prog 44 #[.string s] w fun e w' => e = .returned (.bool (word s.data.toList)) ∧ w = w' := by
  rw [← ByteArray.toList_eq]
  go_enter Tryd.func44, Tryd.ntmps44
  go_wp2_with fail
  all_goals first
    | (exfalso; simp_all only [Bool.true_eq_false, Bool.false_eq_true]; done)
    | (go_ret; exact ⟨ret_bool (word_yes (by assumption) rfl), rfl⟩)
    | (go_ret; exact ⟨ret_bool (by simp only [word, words, List.contains_cons, List.contains_nil, *, Bool.or_self]), rfl⟩)

end Go.Proofs.YtaehlakefgnfmaaDoor
