/-
  DERIVED. THE LAW TokenWords, walked.
-/
import Derived.Test.YtaehlakefgnfmaaToks
set_option linter.unusedSimpArgs false
set_option linter.unusedVariables false
namespace Go.Proofs.Ytaehlakefgnfmaa
open Go.RowKit

/-- A word is one token; with a digit behind it is one name. -/
theorem words_lex : ∀ l ∈ words, lex l = .ok [⟨4, l, 0, 0⟩] ∧ lex (l ++ [55]) = .ok [⟨1, l ++ [55], 0, 0⟩] := by
  intro l hl
  simp only [words, List.mem_cons, List.not_mem_nil, or_false] at hl
  rcases hl with rfl | rfl | rfl | rfl | rfl | rfl | rfl | rfl | rfl | rfl | rfl | rfl | rfl | rfl | rfl | rfl | rfl <;> exact ⟨rfl, rfl⟩
theorem word_lex {l : List UInt8} (h : word l = true) : lex l = .ok [⟨4, l, 0, 0⟩] ∧ lex (l ++ [55]) = .ok [⟨1, l ++ [55], 0, 0⟩] :=
  words_lex l (by simpa [word] using h)
theorem nextT_noword {l : List UInt8} {b : Bit} (h : nextT l = .ok b) (hk : b.kind = 1) : word b.text = false := by
  cases l with
  | nil => simp [nextT] at h
  | cons c r =>
    simp only [nextT] at h
    split at h
    · split at h
      · cases h; simp at hk
      · rename_i hw
        split at h
        · cases h
        · cases h; simpa using hw
    · repeat' (split at h)
      all_goals first | (cases h; simp at hk) | cases h
theorem lexGo_noword : ∀ (f pos : Nat) (l : List UInt8) (cnt : Nat) (ts : List Tok), lexGo f pos l cnt = .ok ts → ∀ t ∈ ts, t.kind = 1 → word t.text = false := by
  intro f
  induction f with
  | zero => intro pos l cnt ts h t ht; simp [lexGo] at h; subst h; simp at ht
  | succ f ih =>
    intro pos l cnt ts h t ht hk
    cases l with
    | nil => simp [lexGo] at h; subst h; simp at ht
    | cons c r =>
      simp only [lexGo] at h
      split at h
      · cases h
      · rename_i b hb
        split at h
        · cases h
        · split at h
          · rename_i us hu
            cases h
            rcases List.mem_cons.1 ht with rfl | ht
            · exact nextT_noword hb hk
            · exact ih _ _ _ _ hu t ht hk
          · cases h
theorem lexGo_err0 : ∀ (f pos : Nat) (l : List UInt8) (cnt : Nat) (x p : Nat), lexGo f pos l cnt = .error (x, p) → x = 2 ∨ x = 31 ∨ x = 32 := by
  intro f
  induction f with
  | zero => intro pos l cnt x p h; simp [lexGo] at h
  | succ f ih =>
    intro pos l cnt x p h
    cases l with
    | nil => simp [lexGo] at h
    | cons c r =>
      simp only [lexGo] at h
      split at h
      · rename_i y hy
        cases h
        rcases nextT_err hy with rfl | rfl <;> simp
      · split at h
        · cases h; simp
        · split at h
          · cases h
          · rename_i e he
            cases h
            exact ih _ _ _ _ _ he
theorem lex_err0 {l : List UInt8} {x p : Nat} (h : lex l = .error (x, p)) : x ≠ 0 := by
  unfold lex at h
  split at h
  · cases h; decide
  · rcases lexGo_err0 _ _ _ _ _ _ h with rfl | rfl | rfl <;> decide
theorem lexGo_len : ∀ (f pos : Nat) (l : List UInt8) (cnt : Nat) (ts : List Tok), lexGo f pos l cnt = .ok ts → cnt ≤ 2048 → ts.length + cnt ≤ 2048 := by
  intro f
  induction f with
  | zero => intro pos l cnt ts h hc; simp [lexGo] at h; subst h; simpa using hc
  | succ f ih =>
    intro pos l cnt ts h hc
    cases l with
    | nil => simp [lexGo] at h; subst h; simpa using hc
    | cons c r =>
      simp only [lexGo] at h
      split at h
      · cases h
      · split at h
        · cases h
        · split at h
          · rename_i us hu
            cases h
            have := ih _ _ _ _ hu (by omega)
            simp only [List.length_cons]
            omega
          · cases h
theorem lex_len {l : List UInt8} {ts : List Tok} (h : lex l = .ok ts) : ts.length ≤ 2048 := by
  unfold lex at h
  split at h
  · cases h
  · have := lexGo_len _ _ _ _ _ h (by decide)
    omega
theorem lex_noword {l : List UInt8} {ts : List Tok} (h : lex l = .ok ts) : ∀ t ∈ ts, t.kind = 1 → word t.text = false := by
  unfold lex at h
  split at h
  · cases h
  · exact lexGo_noword _ _ _ _ _ h
end Go.Proofs.Ytaehlakefgnfmaa
namespace Go.Proofs.Ytaehlakefgnfmaa.tokenWords
open Go.RowKit

set_option maxHeartbeats 1000000 in
theorem walk (w : World) (s : ByteArray) (hs : s.size ≤ maxLen) :
    Calls Try.prog 7 #[.string s] w fun e w' => e = .returned (.bool true) ∧ Ext w w' := by
  have hcv := fun (w : World) (s : ByteArray) => run_bytes_of_string (P := Try.prog) w 9 22 5 s Try.underlying9 Try.underlying22 Try.underlying5
  go_enter Try.func7, Try.ntmps7
  go_wp2_with fail
  refine (head_any w).mono ?_
  rintro e w1 ⟨rfl, e1⟩
  go_wp2_with fail
  refine (lex_string w1 s hs).mono ?_
  rintro e w2 ⟨hlx, e2⟩
  by_cases hw : word s.data.toList = true
  · obtain ⟨hw1, hw2⟩ := word_lex hw
    rw [hw1] at hlx
    obtain ⟨a, cap, rfl, hc, _, _⟩ := hlx
    have hs6 : s.size ≤ 6 := by
      have : ∀ l ∈ words, l.length ≤ 6 := by decide
      have := this s.data.toList (by simpa [word] using hw)
      rw [Array.length_toList] at this; exact this
    go_wp2_with fail
    refine (word_any _ _).mono ?_
    rintro e w3 ⟨rfl, hw3⟩
    subst hw3
    rw [hw]
    go_wp2_with fail
    have hsz : (s ++ (⟨#[55]⟩ : ByteArray)).size = s.size + 1 := by rw [ByteArray.size_append]; rfl
    have L := lex_string w2 (s ++ ⟨#[55]⟩) (by rw [hsz]; simp only [maxLen]; omega)
    have hd : (s ++ (⟨#[55]⟩ : ByteArray)).data.toList = s.data.toList ++ [55] := by simp
    rw [hsz, hd, hw2] at L
    refine L.mono ?_
    rintro e w3 ⟨hlx, e3⟩
    obtain ⟨a', cap', rfl, hc', _, _⟩ := hlx
    obtain ⟨b, off, rfl, c0, c1, _, _⟩ := toks_at (hc.ext e3) (k := 0) (by simp)
    obtain ⟨b', off', rfl, d0, d1, _, _⟩ := toks_at hc' (k := 0) (by simp)
    simp only [List.getElem_cons_zero, Nat.zero_mul, Nat.add_zero] at c0 c1 d0 d1
    have hte : ((ByteArray.mk s.data.toList.toArray).toList == s.toList) = true := by simp
    clear L hw1 hw2 hw hd hsz hc hc'
    go_wp2_with fail
    go_ret
    exact ⟨rfl, e1.trans (e2.trans e3)⟩
  · have hwf : word s.data.toList = false := by simpa using hw
    clear hw
    cases hlex : lex s.data.toList with
    | error x =>
      obtain ⟨x, p⟩ := x
      rw [hlex] at hlx
      simp only [lexEnds] at hlx
      subst hlx
      have hx0 := lex_err0 hlex
      have hne : ((x : Int) == 0) = false := by simp; omega
      clear hlex
      go_wp2_with fail
      refine (word_any _ _).mono ?_
      rintro e w3 ⟨rfl, hw3⟩
      subst hw3
      rw [hwf]
      go_wp2_with fail
      go_loop [10] (fun i => i = .int .i64 0) (fun _ => 0)
      case atStart => rfl
      case round =>
        subst hrel
        go_wp2_with fail
        go_ret
        exact ⟨rfl, e1.trans e2⟩
    | ok ts =>
      rw [hlex] at hlx
      obtain ⟨a, cap, rfl, hc, _, hcap⟩ := hlx
      have hno := lex_noword hlex
      have hlen := lex_len hlex
      have HNO := hid hno
      clear hlex hno
      go_wp2_with fail
      refine (word_any _ _).mono ?_
      rintro e w3 ⟨rfl, hw3⟩
      subst hw3
      rw [hwf]
      go_wp2_with fail
      go_loop [10] (fun i => ∃ k : Nat, k ≤ ts.length ∧ i = .int .i64 k) (fun i => ts.length - (intOf i).toNat)
      case atStart => exact ⟨0, by omega, rfl⟩
      case round =>
        obtain ⟨k, hk, rfl⟩ := hrel
        by_cases hlt : k < ts.length
        · obtain ⟨b, off, rfl, c0, c1, _, _⟩ := toks_at hc hlt
          by_cases hkind : ts[k].kind = 1
          · have hki : ((ts[k].kind : Int) == 1) = true := by rw [hkind]; rfl
            have hnw := HNO.out ts[k] (by simp) hkind
            clear hkind
            go_wp2_with fail
            refine (word_any _ _).mono ?_
            rintro e w3 ⟨rfl, hw3⟩
            subst hw3
            simp only [List.toList_toArray, hnw]
            go_wp2_with fail
            go_round
            case rel => exact ⟨k + 1, by omega, by go_num⟩
            case measure => simp [intOf]; omega
          · have hki : ((ts[k].kind : Int) == 1) = false := by simp; omega
            clear hkind
            go_wp2_with fail
            go_round
            case rel => exact ⟨k + 1, by omega, by go_num⟩
            case measure => simp [intOf]; omega
        · go_wp2_with fail
          go_ret
          exact ⟨rfl, e1.trans e2⟩
end Go.Proofs.Ytaehlakefgnfmaa.tokenWords
