/-
  DERIVED. THE WALKS of the reference's tokens, further: the next token, Lex.
-/
import Derived.Test.YtaehlakefgnfmaaGreatDoorRef
import Derived.Test.YtaehlakefgnfmaaGreatDoorTokf
set_option linter.unusedSimpArgs false
set_option linter.unusedVariables false
namespace Go.Proofs.YtaehlakefgnfmaaGreatDoor
open Go.RowKit

set_option maxHeartbeats 2000000 in
theorem rnext_any (w : World) (a : Option Addr) (s : List UInt8) (cap at_ : Nat) (hs : BytesAt w a s) (hlen : s.length ≤ 140737488355328) (hcap : s.length ≤ cap) (hat : at_ < s.length) :
    Calls Tryz.prog 32 #[.slice a s.length cap, .int .i64 at_] w fun e w' => refEnds (nextT (s.drop at_)) at_ e ∧ Ext w w' := by
  obtain ⟨b, off, rfl, hc⟩ := hs.at hat
  have w1 : Ext w (w.alloc (.cells #[.int .i64 0, .string ⟨#[]⟩, .int .i64 0, .int .i64 0] 63)) := (Ext.refl w).alloc _
  have br0 := Blk.new w 63 [Value.int .i64 0, .string ⟨#[]⟩, .int .i64 0, .int .i64 0]
  have hs1 := hs.ext w1
  obtain ⟨b', off', hbb, hc1⟩ := hs1.at hat
  simp only [Option.some.injEq, Addr.mk.injEq, and_true] at hbb
  obtain ⟨rfl, rfl⟩ := hbb
  have HL := hid hlen
  cases hl : isLetter s[at_] with
  | true =>
    have C := rname_any _ _ s cap at_ hs1 hlen hcap hat hl
    have HC := hid C
    have HLt := hid hl
    clear hl C
    go_enter Tryz.func32, Tryz.ntmps32
    go_wp2_with (go_at_call 60; refine (rletter_any _ _).mono ?_; rintro e w' ⟨rfl, rfl⟩; rw [HLt.out])
    refine HC.out.mono ?_
    rintro e w' ⟨hn, e2⟩
    have e02 := w1.trans e2
    obtain ⟨r0, r1, r2, r3, rf⟩ := (br0.ext e2).four
    cases hq : nextT (s.drop at_) with
    | error x =>
      rw [hq] at hn
      simp only [refEnds] at hn
      subst hn
      have HQ := hid hq
      clear hq
      go_wp2_with fail
      refine bodyPost_ret (v := .tuple #[.agg #[.int .i64 0, .string ⟨#[]⟩, .int .i64 0, .int .i64 0], .int .i64 0, .int .i64 x]) ?_ rfl ⟨refEnds_err HQ.out, ?_⟩
      · simp [results, Tryz.results32, go_sem, *]
      · repeat (with_reducible first | exact e02 | apply Ext.drew | refine Ext.setCell ?_ ?_ _)
        all_goals exact Nat.le_refl _
    | ok bt =>
      obtain ⟨bk, bx, bn, bl⟩ := bt
      rw [hq] at hn
      simp only [refEnds] at hn
      subst hn
      have HQ := hid hq
      clear hq
      go_wp2_with fail
      refine bodyPost_ret (v := .tuple #[.agg #[.int .i64 bk, .string ⟨bx.toArray⟩, .int .i64 bn, .int .i64 at_], .int .i64 (at_ + bl : Nat), .int .i64 0]) ?_ rfl ⟨refEnds_ok HQ.out rfl, ?_⟩
      · simp [results, Tryz.results32, go_sem, *]
      · repeat (with_reducible first | exact e02 | apply Ext.drew | refine Ext.setCell ?_ ?_ _)
        all_goals exact Nat.le_refl _
  | false =>
    cases hd : isDigit s[at_] with
    | true =>
      have C := rnumber_any _ _ s cap at_ hs1 hlen hcap hat hl hd
      have HC := hid C
      have HLt := hid hl
      have HDt := hid hd
      clear hl hd C
      go_enter Tryz.func32, Tryz.ntmps32
      go_wp2_with (first | (go_at_call 60; refine (rletter_any _ _).mono ?_; rintro e w' ⟨rfl, rfl⟩; rw [HLt.out]) | (go_at_call 62; refine (rdigit_any _ _).mono ?_; rintro e w' ⟨rfl, rfl⟩; rw [HDt.out]))
      refine HC.out.mono ?_
      rintro e w' ⟨hn, e2⟩
      have e02 := w1.trans e2
      obtain ⟨r0, r1, r2, r3, rf⟩ := (br0.ext e2).four
      cases hq : nextT (s.drop at_) with
      | error x =>
        rw [hq] at hn
        simp only [refEnds] at hn
        subst hn
        have HQ := hid hq
        clear hq
        go_wp2_with fail
        refine bodyPost_ret (v := .tuple #[.agg #[.int .i64 0, .string ⟨#[]⟩, .int .i64 0, .int .i64 0], .int .i64 0, .int .i64 x]) ?_ rfl ⟨refEnds_err HQ.out, ?_⟩
        · simp [results, Tryz.results32, go_sem, *]
        · repeat (with_reducible first | exact e02 | apply Ext.drew | refine Ext.setCell ?_ ?_ _)
          all_goals exact Nat.le_refl _
      | ok bt =>
        obtain ⟨bk, bx, bn, bl⟩ := bt
        rw [hq] at hn
        simp only [refEnds] at hn
        subst hn
        have HQ := hid hq
        clear hq
        go_wp2_with fail
        refine bodyPost_ret (v := .tuple #[.agg #[.int .i64 bk, .string ⟨bx.toArray⟩, .int .i64 bn, .int .i64 at_], .int .i64 (at_ + bl : Nat), .int .i64 0]) ?_ rfl ⟨refEnds_ok HQ.out rfl, ?_⟩
        · simp [results, Tryz.results32, go_sem, *]
        · repeat (with_reducible first | exact e02 | apply Ext.drew | refine Ext.setCell ?_ ?_ _)
          all_goals exact Nat.le_refl _
    | false =>
      have HLt := hid hl
      have HDt := hid hd
      by_cases h34 : s[at_] = 34
      · have C := rtext_any _ _ s cap at_ hs1 hlen hcap hat hl hd (hid h34)
        have HC := hid C
        have hx : (s[at_].toNat : Int) = 34 := by rw [h34]; rfl
        have hb34 : ((s[at_].toNat : Int) == 34) = true := by rw [hx]; rfl
        clear hl hd C h34 hx
        generalize hgx : s[at_] = x at HLt HDt hc1 hc hb34
        clear hgx
        go_enter Tryz.func32, Tryz.ntmps32
        go_wp2_with (first | (go_at_call 60; refine (rletter_any _ _).mono ?_; rintro e w' ⟨rfl, rfl⟩; rw [HLt.out]) | (go_at_call 62; refine (rdigit_any _ _).mono ?_; rintro e w' ⟨rfl, rfl⟩; rw [HDt.out]))
        refine HC.out.mono ?_
        rintro e w' ⟨hn, e2⟩
        have e02 := w1.trans e2
        obtain ⟨r0, r1, r2, r3, rf⟩ := (br0.ext e2).four
        cases hq : nextT (s.drop at_) with
        | error x =>
          rw [hq] at hn
          simp only [refEnds] at hn
          subst hn
          have HQ := hid hq
          clear hq
          go_wp2_with fail
          refine bodyPost_ret (v := .tuple #[.agg #[.int .i64 0, .string ⟨#[]⟩, .int .i64 0, .int .i64 0], .int .i64 0, .int .i64 x]) ?_ rfl ⟨refEnds_err HQ.out, ?_⟩
          · simp [results, Tryz.results32, go_sem, *]
          · repeat (with_reducible first | exact e02 | apply Ext.drew | refine Ext.setCell ?_ ?_ _)
            all_goals exact Nat.le_refl _
        | ok bt =>
          obtain ⟨bk, bx, bn, bl⟩ := bt
          rw [hq] at hn
          simp only [refEnds] at hn
          subst hn
          have HQ := hid hq
          clear hq
          go_wp2_with fail
          refine bodyPost_ret (v := .tuple #[.agg #[.int .i64 bk, .string ⟨bx.toArray⟩, .int .i64 bn, .int .i64 at_], .int .i64 (at_ + bl : Nat), .int .i64 0]) ?_ rfl ⟨refEnds_ok HQ.out rfl, ?_⟩
          · simp [results, Tryz.results32, go_sem, *]
          · repeat (with_reducible first | exact e02 | apply Ext.drew | refine Ext.setCell ?_ ?_ _)
            all_goals exact Nat.le_refl _
      · have C := rsign_any _ _ s cap at_ hs1 hlen hcap hat hl hd (hid h34)
        have HC := hid C
        have hb34 : ((s[at_].toNat : Int) == 34) = false := by
          have : (s[at_] == 34) = false := by simpa using h34
          rw [← this]; exact u8_eqi _ 34
        clear hl hd C h34
        generalize hgx : s[at_] = x at HLt HDt hc1 hc hb34
        clear hgx
        go_enter Tryz.func32, Tryz.ntmps32
        go_wp2_with (first | (go_at_call 60; refine (rletter_any _ _).mono ?_; rintro e w' ⟨rfl, rfl⟩; rw [HLt.out]) | (go_at_call 62; refine (rdigit_any _ _).mono ?_; rintro e w' ⟨rfl, rfl⟩; rw [HDt.out]))
        refine HC.out.mono ?_
        rintro e w' ⟨hn, e2⟩
        have e02 := w1.trans e2
        obtain ⟨r0, r1, r2, r3, rf⟩ := (br0.ext e2).four
        cases hq : nextT (s.drop at_) with
        | error x =>
          rw [hq] at hn
          simp only [refEnds] at hn
          subst hn
          have HQ := hid hq
          clear hq
          go_wp2_with fail
          refine bodyPost_ret (v := .tuple #[.agg #[.int .i64 0, .string ⟨#[]⟩, .int .i64 0, .int .i64 0], .int .i64 0, .int .i64 x]) ?_ rfl ⟨refEnds_err HQ.out, ?_⟩
          · simp [results, Tryz.results32, go_sem, *]
          · repeat (with_reducible first | exact e02 | apply Ext.drew | refine Ext.setCell ?_ ?_ _)
            all_goals exact Nat.le_refl _
        | ok bt =>
          obtain ⟨bk, bx, bn, bl⟩ := bt
          rw [hq] at hn
          simp only [refEnds] at hn
          subst hn
          have HQ := hid hq
          clear hq
          go_wp2_with fail
          refine bodyPost_ret (v := .tuple #[.agg #[.int .i64 bk, .string ⟨bx.toArray⟩, .int .i64 bn, .int .i64 at_], .int .i64 (at_ + bl : Nat), .int .i64 0]) ?_ rfl ⟨refEnds_ok HQ.out rfl, ?_⟩
          · simp [results, Tryz.results32, go_sem, *]
          · repeat (with_reducible first | exact e02 | apply Ext.drew | refine Ext.setCell ?_ ?_ _)
            all_goals exact Nat.le_refl _

set_option maxRecDepth 100000 in
set_option maxHeartbeats 1000000 in
theorem rLex_any (w : World) (a : Option Addr) (s : List UInt8) (cap : Nat) (hs : BytesAt w a s) (hcap : s.length ≤ cap) :
    Calls Tryz.prog 12 #[.slice a s.length cap] w fun e w' => lexEnds (lex s) w.heap.size e w' ∧ Ext w w' := by
  obtain ⟨i0, hi, hz0, hz1, hz2⟩ := info_parts Tryz.infoTok
  by_cases h4 : 4096 < s.length
  · have hno : lex s = .error (2, 0) := by unfold lex; rw [if_pos h4]
    have HNO := hid hno
    clear hno
    go_enter Tryz.func12, Tryz.ntmps12
    go_wp2_with fail
    go_ret3
    exact ⟨by rw [HNO.out]; rfl, Ext.refl _⟩
  · have hlen : s.length ≤ 140737488355328 := by omega
    have hx : lex s = pre [] (lexGo (s.length + 1) (0 + skip false (s.drop 0)) (s.drop (0 + skip false (s.drop 0))) 0) := by
      unfold lex; rw [if_neg h4, pre_nil]; simp
    have hk := skip_pos_le s 0 (by omega)
    have HX := hid hx
    clear hx
    go_enter Tryz.func12, Tryz.ntmps12
    go_wp2_with fail
    refine (rblanks_any w a s cap 0 hs hlen (by omega)).mono ?_
    rintro e w1 ⟨rfl, rfl⟩
    generalize 0 + skip false (s.drop 0) = p0 at HX hk
    go_wp2_with fail
    go_loopw [5, 6] (fun v i wr => ∃ (pos f : Nat) (acc : List Tok), pos ≤ s.length ∧ i = .int .i64 pos ∧ Ext w wr ∧ wr.ownsRow w.heap.size 63 4 v acc.length (acc.flatMap encTok) ∧ acc.length ≤ 2048 ∧ s.length - pos < f ∧
      Hid (lex s = pre acc (lexGo f pos (s.drop pos) acc.length))) (fun _ i _ => s.length - (intOf i).toNat)
    case atStart => exact ⟨p0, s.length + 1, [], hk, rfl, Ext.refl _, World.ownsRow_nil _ _ _ _, by simp, by omega, HX.out⟩
    case round =>
      obtain ⟨pos, f, acc, hpos, rfl, he, hown, hacc, hf, hsum⟩ := hrel
      obtain ⟨f, rfl⟩ : ∃ k, f = k + 1 := ⟨f - 1, by omega⟩
      by_cases hlt : pos < s.length
      · have hne : s.drop pos ≠ [] := by intro h0; have := congrArg List.length h0; rw [List.length_drop, List.length_nil] at this; omega
        go_wp2_with fail
        refine (rnext_any wr a s cap pos (hs.ext he) hlen hcap hlt).mono ?_
        rintro e w2 ⟨hn, e2⟩
        cases hq : nextT (s.drop pos) with
        | error x =>
          rw [hq] at hn
          simp only [refEnds] at hn
          subst hn
          have hres : lex s = .error (x, pos) := by rw [hsum.out, lexGo_err acc hne hq]
          have HR := hid hres
          rcases nextT_err hq with rfl | rfl
          all_goals
            clear hres hq hne
            go_wp2_with fail
            go_ret3
            refine ⟨?_, (he.trans e2).trans ((Ext.refl _).alloc _)⟩
            rw [HR.out]
            rfl
        | ok bt =>
          rw [hq] at hn
          have hl := nextT_len hq
          rw [List.length_drop] at hl
          simp only [refEnds] at hn
          subst hn
          have hown2 := ownsRow_ext hown e2
          by_cases hmany : acc.length = 2048
          · have hres : lex s = .error (2, pos) := by rw [hsum.out, hmany, lexGo_many acc hne hq]
            have HR := hid hres
            obtain ⟨ao, cp, rfl, _, _, _⟩ := owned_cells hown
            rw [hmany] at *
            clear hres hq hne hmany
            go_wp2_with fail
            go_ret3
            refine ⟨?_, (he.trans e2).trans ((Ext.refl _).alloc _)⟩
            rw [HR.out]
            rfl
          · have hres := hsum.out
            rw [lexGo_step acc hne hq hmany, List.drop_drop] at hres
            have hsk := skip_pos_le s (pos + bt.len) (by omega)
            have hown3 := (hown2.alloc (.cells #[.int .i64 bt.kind, .string ⟨bt.text.toArray⟩, .int .i64 bt.num, .int .i64 pos] 63)).alloc (.cells #[.int .i64 bt.kind, .string ⟨bt.text.toArray⟩, .int .i64 bt.num, .int .i64 pos] 63)
            obtain ⟨ao, cp, hv, _, _, _⟩ := owned_cells hown
            subst hv
            have HR := hid hres
            have hmi : ((acc.length : Int) == 2048) = false := by simp; omega
            have hlt2 : acc.length < 2048 := by omega
            have hge : (acc.length : Int) < 2048 := by omega
            have HLT2 := hid hlt2
            have HACC := hid hacc
            clear hres hq hne hmany hlt2 hacc hmi
            go_wp2_with (at_builtin; refine wpList_append_own _ rfl _ _ 38 rfl w.heap.size 63 i0 (.agg #[.int .i64 0, .string ⟨#[]⟩, .int .i64 0, .int .i64 0]) 4 40 Tryz.underlying38 hi hz0 hz1 hz2 rfl (by decide) _ _ _ rfl hown3 ⟨w2.heap.size + 1, 0, none⟩ 1 1 [.int .i64 bt.kind, .string ⟨bt.text.toArray⟩, .int .i64 bt.num, .int .i64 pos] rfl rfl ?c1 ?c2 ?c3 ?c4 ?c5 ?_)
            case c1 => exact news_cells _ _ _ _ (by simp)
            case c2 => simp [Value.oneCell']
            case c3 => have hlt2 := HLT2.out; simp only [maxLen]; omega
            case c4 => omega
            case c5 => have := (he.trans e2).size; simp; omega
            intro v' w4 hown4 hgr _
            have e4 : Ext w w4 := (((he.trans e2).alloc _).alloc _).grown hown3 (Nat.le_refl _) hgr
            clear hgr hown3 hown2 hown
            go_wp2_with fail
            refine (rblanks_any w4 a s cap (pos + bt.len) (hs.ext e4) hlen (by omega)).mono ?_
            rintro e w5 ⟨rfl, rfl⟩
            go_wp2_with fail
            go_roundw
            case rel =>
              have hlt2 := HLT2.out; refine ⟨pos + bt.len + skip false (s.drop (pos + bt.len)), f, acc ++ [⟨bt.kind, bt.text, bt.num, pos⟩], hsk, rfl, e4, ?_, by rw [List.length_append, List.length_singleton]; omega, by omega, ?_⟩
              · rw [List.length_append, List.length_singleton, List.flatMap_append]
                exact hown4
              · show _ = _
                rw [HR.out, List.drop_drop, List.length_append, List.length_singleton, Nat.add_assoc]
            case measure => simp [intOf]; omega
      · have hres : lex s = .ok acc := by rw [hsum.out, List.drop_of_length_le (by omega), lexGo_end]
        obtain ⟨ao, cp, rfl, hcells, hbase, hcp⟩ := owned_cells hown
        have HC := hid (owned_cap hown)
        have HR := hid hres
        clear hres
        go_wp2_with fail
        go_ret3
        refine ⟨?_, he⟩
        rw [HR.out]
        exact ⟨ao, cp, rfl, hcells, hbase, hcp, HC.out⟩
end Go.Proofs.YtaehlakefgnfmaaGreatDoor
