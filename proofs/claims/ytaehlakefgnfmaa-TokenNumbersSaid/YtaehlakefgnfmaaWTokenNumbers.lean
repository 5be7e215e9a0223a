/-
  DERIVED. THE LAW TokenNumbers, walked.
-/
import Derived.Test.YtaehlakefgnfmaaWTokenTexts
set_option linter.unusedSimpArgs false
set_option linter.unusedVariables false
namespace Go.Proofs.Ytaehlakefgnfmaa
open Go.RowKit

/-- What a digit is worth. -/
def digitOf (c : UInt8) : Nat := c.toNat - 48
theorem digitOf_eq (c : UInt8) : c.toNat - 48 = digitOf c := rfl
attribute [irreducible] digitOf
/-- The number of some digits. -/
def valOf : Nat → List UInt8 → Nat
  | n, [] => n
  | n, c :: l => valOf (10 * n + digitOf c) l
theorem valOf_cons (n : Nat) (c : UInt8) (l : List UInt8) : valOf n (c :: l) = valOf (10 * n + digitOf c) l := rfl
theorem valOf_le (l : List UInt8) : ∀ n, n ≤ valOf n l := by
  induction l with
  | nil => intro n; exact Nat.le_refl _
  | cons c l ih => intro n; rw [valOf_cons]; exact Nat.le_trans (by omega) (ih (10 * n + digitOf c))
theorem numFrom_cons {n : Nat} {c : UInt8} {l : List UInt8} (h : n ≤ (maxNum - digitOf c) / 10) : numFrom n (c :: l) = numFrom (10 * n + digitOf c) l := by
  have he : numFrom n (c :: l) = if n > (maxNum - (c.toNat - 48)) / 10 then none else numFrom (10 * n + (c.toNat - 48)) l := rfl
  rw [he, digitOf_eq]
  generalize (maxNum - digitOf c) / 10 = q at h ⊢
  exact if_neg (Nat.not_lt.2 h)
theorem div_bound {m n d : Nat} (h : 10 * n + d ≤ m) : n ≤ (m - d) / 10 := by omega
theorem numFrom_more {M n : Nat} {c : UInt8} {l : List UInt8} (hM : maxNum = M) (h : 10 * n + digitOf c ≤ M) : numFrom n (c :: l) = numFrom (10 * n + digitOf c) l := by
  subst hM
  exact numFrom_cons (div_bound h)
theorem numFrom_val' (M : Nat) (hM : maxNum = M) (l : List UInt8) : ∀ n, valOf n l ≤ M → numFrom n l = some (valOf n l) := by
  induction l with
  | nil => intro n _; rfl
  | cons c l ih =>
    intro n h
    rw [valOf_cons] at h ⊢
    rw [numFrom_more hM (Nat.le_trans (valOf_le l _) h)]
    exact ih _ h
theorem numFrom_val (n : Nat) (l : List UInt8) (h : valOf n l ≤ maxNum) : numFrom n l = some (valOf n l) := numFrom_val' _ rfl l n h
theorem valOf_shift (l : List UInt8) : ∀ n, valOf n l = n * 10 ^ l.length + valOf 0 l := by
  induction l with
  | nil => intro n; simp [valOf]
  | cons c l ih =>
    intro n
    rw [valOf_cons, valOf_cons, ih (10 * n + digitOf c), ih (10 * 0 + digitOf c), List.length_cons]
    rw [Nat.pow_succ, Nat.mul_zero, Nat.zero_add, Nat.add_mul, show n * (10 ^ l.length * 10) = 10 * n * 10 ^ l.length by rw [Nat.mul_comm (10 ^ l.length) 10, ← Nat.mul_assoc, Nat.mul_comm n 10]]
    omega
theorem lex_digits {l : List UInt8} (hne : l ≠ []) (hn : l.length ≤ 4096) (hd : ∀ c ∈ l, isDigit c = true) (hv : valOf 0 l ≤ maxNum) : lex l = .ok [⟨2, [], valOf 0 l, 0⟩] := by
  cases l with
  | nil => exact absurd rfl hne
  | cons c r =>
    have hc := hd c (by simp)
    have hb : isBlank c = false := by revert hc; simp [isDigit, isBlank, UInt8.le_iff_toNat_le, ← UInt8.toNat_inj]; omega
    have h35 : c ≠ 35 := by intro h; rw [h] at hc; revert hc; decide
    have hl : isLetter c = false := by revert hc; simp [isDigit, isLetter, UInt8.le_iff_toNat_le]; omega
    rw [lex_first hn h35 hb]
    have hs : spanLen isDigit (c :: r) = (c :: r).length := by
      have := spanLen_append (p := isDigit) (l := c :: r) (r := []) hd (by simp)
      simpa using this
    have hx : nextT (c :: r) = .ok ⟨2, [], valOf 0 (c :: r), (c :: r).length⟩ := by
      simp only [nextT, hl, hc, Bool.false_eq_true, if_false, if_true, hs, List.take_length, numFrom_val 0 (c :: r) hv]
    simp only [lexGo, hx]
    simp [skip, lexGo]
theorem val_noughts (j : Nat) (ds : List UInt8) : valOf 0 (List.replicate j 48 ++ ds) = valOf 0 ds := by
  induction j with
  | zero => simp
  | succ j ih => rw [List.replicate_succ, List.cons_append, valOf_cons, ← digitOf_eq]; exact ih
theorem lex_long : lex [57, 50, 50, 51, 51, 55, 50, 48, 51, 54, 56, 53, 52, 55, 55, 53, 56, 48, 56] = .error (32, 0) := by rfl
/-- One digit ahead. -/
theorem val_step {n k : Nat} {ds : List UInt8} {c : UInt8} (hc : c.toNat = 48 + k % 10) (h : n = k * 10 ^ ds.length + valOf 0 ds) : n = (k / 10) * 10 ^ (c :: ds).length + valOf 0 (c :: ds) := by
  rw [h, List.length_cons, valOf_cons, valOf_shift ds (10 * 0 + digitOf c), ← digitOf_eq, hc, Nat.pow_succ]
  have hk : k = k / 10 * 10 + k % 10 := by omega
  have : k * 10 ^ ds.length = (k / 10) * (10 ^ ds.length * 10) + k % 10 * 10 ^ ds.length := by
    rw [Nat.mul_comm (10 ^ ds.length) 10, ← Nat.mul_assoc, ← Nat.add_mul, ← hk]
  rw [this, show 10 * 0 + (48 + k % 10 - 48) = k % 10 by omega]
  omega
theorem pow_step {k j : Nat} (hk : 0 < k) (h : k < 10 ^ (19 - j)) : j < 19 ∧ k / 10 < 10 ^ (19 - (j + 1)) := by
  have hj : j < 19 := by
    rcases Nat.lt_or_ge j 19 with h' | h'
    · exact h'
    · rw [show 19 - j = 0 by omega] at h; simp at h; omega
  refine ⟨hj, ?_⟩
  rw [show 19 - j = (19 - (j + 1)) + 1 by omega, Nat.pow_succ] at h
  exact Nat.div_lt_of_lt_mul (by rw [Nat.mul_comm]; exact h)
end Go.Proofs.Ytaehlakefgnfmaa
namespace Go.Proofs.Ytaehlakefgnfmaa.tokenNumbers
open Go.RowKit

set_option maxHeartbeats 2000000 in
theorem walk (w : World) (n : Int) (hn : (Lit.int .i64 n).wf = true) (z : Int) (hz : (Lit.int .u8 z).wf = true) :
    Calls Try.prog 6 #[.int .i64 n, .int .u8 z] w fun e w' => e = .returned (.bool true) ∧ Ext w w' := by
  obtain ⟨z1, z2⟩ : 0 ≤ z ∧ z ≤ 255 := by
    simp [Lit.wf, IntKind.min, IntKind.max, IntKind.bits, IntKind.signed] at hz
    omega
  have hn2 : n ≤ 9223372036854775807 := by
    simp [Lit.wf, IntKind.min, IntKind.max, IntKind.bits, IntKind.signed] at hn
    omega
  clear hz hn
  by_cases hneg : n < 0
  · go_enter Try.func6, Try.ntmps6
    go_wp2_with fail
    refine (head_any w).mono ?_
    rintro e w1 ⟨rfl, e1⟩
    go_wp2_with fail
    go_ret
    exact ⟨rfl, e1⟩
  · obtain ⟨m, rfl⟩ : ∃ m : Nat, n = m := ⟨n.toNat, by omega⟩
    go_enter Try.func6, Try.ntmps6
    go_wp2_with fail
    refine (head_any w).mono ?_
    rintro e w1 ⟨rfl, e1⟩
    go_wp2_with fail
    go_loopw [6, 7] (fun v i wr => ∃ (k : Nat) (ds : List UInt8) (ao : Option Addr) (cp : Nat), k ≤ m ∧ i = .int .i64 k ∧ v = .slice ao ds.length cp ∧ Ext w wr ∧ BytesAt wr ao ds ∧ ds.length ≤ cp ∧ ds.length ≤ 19 ∧
      Hid (m = k * 10 ^ ds.length + valOf 0 ds ∧ k < 10 ^ (19 - ds.length) ∧ ∀ c ∈ ds, isDigit c = true)) (fun _ i _ => (intOf i).toNat)
    case atStart => exact ⟨m, [], none, 0, by omega, rfl, rfl, e1, CellsAt.nil _ _, by simp, by simp, by simp [valOf], by simp; omega, by simp⟩
    case round =>
      obtain ⟨k, ds, ao, cp, hkm, rfl, rfl, he, hb, hcp, h19, hval⟩ := hrel
      by_cases hk0 : 0 < k
      · obtain ⟨v1, v2, v3⟩ := hval.out
        obtain ⟨p1, p2⟩ := pow_step hk0 v2
        obtain ⟨c, hc⟩ : ∃ c : UInt8, c.toNat = 48 + k % 10 := ⟨UInt8.ofNat (48 + k % 10), by simp; omega⟩
        have hci : (48 + (k : Int) % 10) = ((c.toNat : Nat) : Int) := by rw [hc]; omega
        have hvs := val_step hc v1
        have hdc : isDigit c = true := by simp [isDigit, UInt8.le_iff_toNat_le]; omega
        have HX := hid (show _ ∧ _ from ⟨hvs, p2⟩)
        have HD := hid (show ∀ d ∈ c :: ds, isDigit d = true by intro d hd; rcases List.mem_cons.1 hd with rfl | hd; exact hdc; exact v3 d hd)
        have hown : (wr.alloc (.cells #[.int .u8 (48 + (k : Int) % 10)] 5)).ownsRow wr.heap.size 5 1 (.slice (some ⟨wr.heap.size, 0, none⟩) 1 1) 1 ([c].map B8) := by
          rw [hci]; exact owns_new wr wr.heap.size 5 [B8 c] 1 (Nat.le_refl _) rfl (by decide)
        have hb' := hb.ext ((Ext.refl wr).alloc (.cells #[.int .u8 (48 + (k : Int) % 10)] 5))
        have HC := hid hci
        clear v1 v2 v3 p2 hc hci hvs hdc hval
        go_wp2_with (at_builtin; refine append_bytes rfl _ _ rfl wr.heap.size _ 1 [c] rfl hown _ ds.length cp ds rfl rfl hb' (by omega) (by simp) ?_)
        intro v5 w5 hown5 hgr5
        have e5 : Ext wr w5 := ((Ext.refl wr).alloc _).grown hown (Nat.le_refl _) hgr5
        obtain ⟨a5, c5, rfl, hc5, _, hcp5⟩ := owned_cells hown5
        clear hown hown5 hgr5 hb'
        go_wp2_with fail
        go_roundw
        case rel =>
          refine ⟨k / 10, c :: ds, a5, c5, by omega, by congr 1, by rw [List.length_cons, Nat.add_comm], he.trans e5, hc5, by rw [List.length_cons]; omega, by rw [List.length_cons]; omega, HX.out.1, ?_, HD.out⟩
          rw [List.length_cons]; exact HX.out.2
        case measure => simp [intOf]; omega
      · have hk : k = 0 := by omega
        obtain ⟨v1, v2, v3⟩ := hval.out
        rw [hk, Nat.zero_mul, Nat.zero_add] at v1
        have HV := hid (show m = valOf 0 ds ∧ (∀ c ∈ ds, isDigit c = true) from ⟨v1, v3⟩)
        have HK := hid hk
        clear hval v1 v2 v3 hk
        go_wp2_with fail
        have hq : z % 20 < 20 := by omega
        go_loopw [6, 8] (fun v i wr2 => ∃ (j : Nat) (a2 : Option Addr) (c2 : Nat), (j : Int) ≤ z % 20 + 1 ∧ i = .int .i64 j ∧ v = .slice a2 (j + ds.length) c2 ∧ Ext w wr2 ∧ BytesAt wr2 a2 (List.replicate j 48 ++ ds) ∧ j + ds.length ≤ c2) (fun _ i _ => 21 - (intOf i).toNat)
        case atStart => exact ⟨0, ao, cp, by omega, rfl, by rw [Nat.zero_add], he, by simpa using hb, by omega⟩
        case round =>
          obtain ⟨j, a2, c2, hj, rfl, rfl, he2, hb2, hc2⟩ := hrel
          by_cases hjz : (j : Int) ≤ z % 20
          · have hown : (wr.alloc (.cells #[.int .u8 48] 5)).ownsRow wr.heap.size 5 1 (.slice (some ⟨wr.heap.size, 0, none⟩) 1 1) 1 ([48].map B8) := owns_new wr wr.heap.size 5 [B8 48] 1 (Nat.le_refl _) rfl (by decide)
            have hb' := hb2.ext ((Ext.refl wr).alloc (.cells #[.int .u8 48] 5))
            go_wp2_with (at_builtin; refine append_bytes rfl _ _ rfl wr.heap.size _ 1 [48] rfl hown _ (j + ds.length) c2 (List.replicate j 48 ++ ds) rfl (by simp) hb' (by omega) (by simp) ?_)
            intro v5 w5 hown5 hgr5
            have e5 : Ext wr w5 := ((Ext.refl wr).alloc _).grown hown (Nat.le_refl _) hgr5
            obtain ⟨a5, c5, rfl, hc5, _, hcp5⟩ := owned_cells hown5
            have hb5 : BytesAt w5 a5 (List.replicate (j + 1) 48 ++ ds) := by
              unfold BytesAt; rw [List.replicate_succ]; simpa using hc5
            clear hown hown5 hgr5 hb' hc5
            go_wp2_with fail
            go_roundw
            case rel => exact ⟨j + 1, a5, c5, by omega, by go_num, by congr 1; omega, he2.trans e5, hb5, by omega⟩
            case measure => simp [intOf]; omega
          · have hds := HV.out.2
            have hj1 : 1 ≤ j := by omega
            have hall : ∀ c ∈ List.replicate j 48 ++ ds, isDigit c = true := by
              intro c hc
              rcases List.mem_append.1 hc with hc | hc
              · rw [List.eq_of_mem_replicate hc]; rfl
              · exact hds c hc
            have hval2 : valOf 0 (List.replicate j 48 ++ ds) = m := by rw [val_noughts]; exact HV.out.1.symm
            have hlx := lex_digits (l := List.replicate j 48 ++ ds) (by intro h; have := congrArg List.length h; simp at this; omega) (by simp; omega) hall (by rw [hval2]; simp only [maxNum]; omega)
            rw [hval2] at hlx
            have L1 := lex_any wr a2 (List.replicate j 48 ++ ds) c2 hb2 (by simp; omega)
            rw [hlx, show (List.replicate j (48 : UInt8) ++ ds).length = j + ds.length by simp] at L1
            have HL1 := hid L1
            clear L1 hlx hval2 hall hds
            have b9 : ∀ w : World, BytesAt (w.alloc (.cells #[.int .u8 57, .int .u8 50, .int .u8 50, .int .u8 51, .int .u8 51, .int .u8 55, .int .u8 50, .int .u8 48, .int .u8 51, .int .u8 54, .int .u8 56, .int .u8 53, .int .u8 52, .int .u8 55, .int .u8 55, .int .u8 53, .int .u8 56, .int .u8 48, .int .u8 56] 5 (19, 20))) (some ⟨w.heap.size, 0, none⟩) [57, 50, 50, 51, 51, 55, 50, 48, 51, 54, 56, 53, 52, 55, 55, 53, 56, 48, 56] :=
              fun w => CellsAt.frozenNew w 5 _ _
            have L2 := fun w : World => lex_any _ _ [57, 50, 50, 51, 51, 55, 50, 48, 51, 54, 56, 53, 52, 55, 55, 53, 56, 48, 56] 19 (b9 w) (by decide)
            rw [lex_long] at L2
            have HL2 := hid L2
            clear L2 b9
            have kc := fun (w : World) (C : Array Value) (n c : Nat) => Lib.run_convert_bytes_const (P := Try.prog) w 22 5 C n c Try.underlying22 Try.underlying5
            go_wp2_with fail
            refine HL1.out.mono ?_
            rintro e w4 ⟨⟨a4, c4, rfl, hc4, _, _⟩, e4⟩
            go_wp2_with fail
            refine (HL2.out w4).mono ?_
            rintro e w5 ⟨hen, e5⟩
            simp only [lexEnds] at hen
            subst hen
            have e45 : Ext w4 w5 := ((Ext.refl w4).alloc _).trans e5
            obtain ⟨b, off, rfl, d0, d1, d2, _⟩ := toks_at (hc4.ext e45) (k := 0) (by simp)
            simp only [List.getElem_cons_zero, Nat.zero_mul, Nat.add_zero] at d0 d1 d2
            clear hc4 HL1 HL2 kc
            go_wp2_with fail
            go_ret
            exact ⟨rfl, he2.trans (e4.trans e45)⟩
end Go.Proofs.Ytaehlakefgnfmaa.tokenNumbers
