/-
  DERIVED. THE LAW TokenPlaces, walked.
-/
import Derived.Test.YtaehlakefgnfmaaWTokenWords
import Derived.Test.YtaehlakefgnfmaaPlaces
set_option linter.unusedSimpArgs false
set_option linter.unusedVariables false
namespace Go.Proofs.Ytaehlakefgnfmaa.tokenPlaces
open Go.RowKit

set_option maxRecDepth 100000 in
set_option maxHeartbeats 2000000 in
theorem walk (w : World) (a : Option Addr) (s : List UInt8) (cap : Nat) (hs : BytesAt w a s) (hcap : s.length ≤ cap) (hmax : cap ≤ 9223372036854775807) :
    Calls Try.prog 4 #[.slice a s.length cap] w fun e w' => e = .returned (.bool true) ∧ Ext w w' := by
  go_enter Try.func4, Try.ntmps4
  go_wp2_with fail
  refine (head_any w).mono ?_
  rintro e w1 ⟨rfl, e1⟩
  go_wp2_with fail
  refine (lex_any w1 a s cap (hs.ext e1) hcap).mono ?_
  rintro e w2 ⟨hlx, e2⟩
  cases hlex : lex s with
  | error x =>
    obtain ⟨x, p⟩ := x
    rw [hlex] at hlx
    simp only [lexEnds] at hlx
    subst hlx
    have hx0 := lex_err0 hlex
    have hp := lex_errAt hlex
    have hne : ((x : Int) != 0) = true := by simp; omega
    have hp0 : (0 : Int) ≤ p := by omega
    clear hlex
    go_wp2_with fail
    go_ret
    exact ⟨rfl, e1.trans e2⟩
  | ok ts =>
    rw [hlex] at hlx
    obtain ⟨at_, tc, rfl, hc, _, htc⟩ := hlx
    have hpl := lex_placed hlex
    have hlen := lex_len hlex
    have hsl : s.length ≤ 4096 := by
      unfold lex at hlex
      split at hlex
      · cases hlex
      · omega
    clear hlex
    go_wp2_with fail
    go_loopw [7, 8] (fun v i wr => ∃ (k n : Nat), k ≤ ts.length ∧ n ≤ s.length ∧ i = .int .i64 k ∧ v = .int .i64 n ∧ Ext w2 wr ∧ Hid (Placed s n (ts.drop k))) (fun _ i _ => ts.length - (intOf i).toNat)
    case atStart => exact ⟨0, 0, by omega, by omega, rfl, rfl, Ext.refl _, hpl⟩
    case round =>
      obtain ⟨k, n, hk, hn, rfl, rfl, he, hP⟩ := hrel
      by_cases hlt : k < ts.length
      · obtain ⟨b, off, rfl, c0, c1, c2, c3⟩ := toks_at (hc.ext he) hlt
        have hP2 := hP.out
        rw [drop_getElem ts k hlt] at hP2
        obtain ⟨p1, p2, p3, p4⟩ := hP2
        generalize ts[k] = t at c0 c1 c2 c3 p1 p2 p3 p4
        obtain ⟨kind, text, num, place⟩ := t
        simp only at c0 c1 c2 c3 p1 p2 p3 p4
        have HP4 := hid p4
        clear p4 hP
        have hts : text.length ≤ s.length := by
          have : text.length ≤ (shown ⟨kind, text, num, place⟩).length := by unfold shown; split <;> simp <;> omega
          omega
        have hbs := (hs.ext (e1.trans (e2.trans he)))
        by_cases h2 : kind = 2
        · have hk2 : ((kind : Int) != 2) = false := by rw [h2]; rfl
          have hk3 : ((kind : Int) == 3) = false := by rw [h2]; rfl
          have hsh : shown ⟨kind, text, num, place⟩ = text := by simp [shown, h2]
          rw [hsh] at HP4 p2
          have hpl1 : place < s.length := by omega
          clear h2 p3 hsh hbs
          go_wp2_with fail
          refine ⟨⟨k + 1, place + max text.length 1, by omega, by omega, by go_num, ?_, he.alloc _, HP4⟩, by simp [intOf]; omega⟩
          congr 1; omega
        · have hk2 : ((kind : Int) != 2) = true := by simp; omega
          have htk := p3 h2
          have hpl1 : place < s.length := by omega
          obtain ⟨b', off', rfl, _⟩ := hbs.at hpl1
          have hpart := hbs.part place (shown ⟨kind, text, num, place⟩).length
          rw [htk] at hpart
          clear p3 htk
          by_cases h3 : kind = 3
          · have hk3 : ((kind : Int) == 3) = true := by rw [h3]; rfl
            have hsh : shown ⟨kind, text, num, place⟩ = 34 :: (text ++ [34]) := by simp [shown, h3]
            rw [hsh] at HP4 p2 hpart
            clear hsh h3 h2
            rw [show (34 :: (text ++ [34])).length = text.length + 2 by simp] at HP4 p2
            have hcv : ∀ w', Ext wr w' → (convert 22 9 (.slice (some ⟨b', off' + place, none⟩) (1 + text.length + 1) (cap - place))).run Try.prog w' = .ok (.string ⟨(34 :: (text ++ [34])).toArray⟩) w' := fun w' e =>
              run_string_of (hpart.ext e) _ _ _ Try.underlying22 Try.underlying5 Try.underlying9 _ _ (by simp; omega)
            have hcvw := hcv (wr.alloc (.cells #[.int .i64 kind, .string ⟨text.toArray⟩, .int .i64 num, .int .i64 place] 33)) ((Ext.refl _).alloc _)
            clear hcv
            have hqq : (34 :: (text ++ [34]) == ((⟨#[34]⟩ : ByteArray) ++ ⟨text.toArray⟩ ++ ⟨#[34]⟩).toList) = true := by
              rw [ByteArray.toList_eq]; simp
            have hb1 : (place : Int) + (1 + (text.length : Int) + 1) ≤ s.length := by omega
            have hb2 : (place : Int) + (1 + (text.length : Int) + 1) ≤ cap := by omega
            go_wp2_with fail
            refine ⟨⟨k + 1, place + max (text.length + 2) 1, by omega, by omega, by go_num, ?_, he.alloc _, HP4⟩, by simp [intOf]; omega⟩
            congr 1; omega
          · have hk3 : ((kind : Int) == 3) = false := by simp; omega
            have hsh : shown ⟨kind, text, num, place⟩ = text := by simp [shown, h3]
            rw [hsh] at HP4 p2 hpart
            clear hsh h3 h2
            have hcv : ∀ w', Ext wr w' → (convert 22 9 (.slice (some ⟨b', off' + place, none⟩) text.length (cap - place))).run Try.prog w' = .ok (.string ⟨text.toArray⟩) w' := fun w' e =>
              run_string_of (hpart.ext e) _ _ _ Try.underlying22 Try.underlying5 Try.underlying9 _ _ rfl
            have hcvw := hcv (wr.alloc (.cells #[.int .i64 kind, .string ⟨text.toArray⟩, .int .i64 num, .int .i64 place] 33)) ((Ext.refl _).alloc _)
            clear hcv
            have hb2 : (place : Int) + (text.length : Int) ≤ cap := by omega
            go_wp2_with fail
            refine ⟨⟨k + 1, place + max text.length 1, by omega, by omega, by go_num, ?_, he.alloc _, HP4⟩, by simp [intOf]; omega⟩
            congr 1; omega
      · go_wp2_with fail
        go_ret
        exact ⟨ret_bool (by simp; omega), e1.trans (e2.trans he)⟩
end Go.Proofs.Ytaehlakefgnfmaa.tokenPlaces
