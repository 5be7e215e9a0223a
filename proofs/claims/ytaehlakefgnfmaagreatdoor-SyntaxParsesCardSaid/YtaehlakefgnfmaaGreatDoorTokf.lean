/-
  DERIVED. THE WALK of token.Lex.
-/
import Derived.Test.YtaehlakefgnfmaaGreatDoorTok
import Derived.Test.YtaehlakefgnfmaaGreatDoorMem
namespace Go.Proofs.YtaehlakefgnfmaaGreatDoor
set_option linter.unusedSimpArgs false
set_option linter.unusedVariables false
set_option maxRecDepth 100000
open Go.RowKit

/-- A token's four cells. -/
def encTok (t : Tok) : List Value := [.int .i64 t.kind, .string ⟨t.text.toArray⟩, .int .i64 t.num, .int .i64 t.place]
/-- What Lex answers: in new memory. -/
def lexEnds (o : Except (Nat × Nat) (List Tok)) (B : Nat) (e : Ending) (w' : World) : Prop :=
  match o with
  | .ok ts => ∃ a cap, e = .returned (.tuple #[.slice a ts.length cap, .int .i64 0, .int .i64 0]) ∧ CellsAt w' a (ts.flatMap encTok) ∧ (∀ ad, a = some ad → B ≤ ad.block) ∧ ts.length ≤ cap ∧ cap ≤ 9223372036854775807
  | .error (x, p) => e = .returned (.tuple #[.slice none 0 0, .int .i64 x, .int .i64 p])
theorem nextT_err {l : List UInt8} {x : Nat} (h : nextT l = .error x) : x = 31 ∨ x = 32 := by
  cases l with
  | nil => simp [nextT] at h; exact .inl h.symm
  | cons c r =>
    simp only [nextT] at h
    repeat' (split at h)
    all_goals first | (cases h; left; rfl) | (cases h; right; rfl) | cases h
theorem Tryz.infoTok : (Tryz.prog.info? 63).map (fun i => (i.zero, i.size, i.bytes)) = some (some (.agg #[.int .i64 0, .string ⟨#[]⟩, .int .i64 0, .int .i64 0]), 4, 40) := by kernel_rfl

set_option maxHeartbeats 1000000 in
theorem lex_any (w : World) (a : Option Addr) (s : List UInt8) (cap : Nat) (hs : BytesAt w a s) (hcap : s.length ≤ cap) :
    Calls Tryz.prog 9 #[.slice a s.length cap] w fun e w' => lexEnds (lex s) w.heap.size e w' ∧ Ext w w' := by
  obtain ⟨i0, hi, hz0, hz1, hz2⟩ := info_parts Tryz.infoTok
  by_cases h4 : 4096 < s.length
  · have hno : lex s = .error (2, 0) := by unfold lex; rw [if_pos h4]
    have HNO := hid hno
    clear hno
    go_enter Tryz.func9, Tryz.ntmps9
    go_wp2_with fail
    go_ret3
    exact ⟨by rw [HNO.out]; rfl, Ext.refl _⟩
  · have hlen : s.length ≤ 140737488355328 := by omega
    have hx : lex s = pre [] (lexGo (s.length + 1) (0 + skip false (s.drop 0)) (s.drop (0 + skip false (s.drop 0))) 0) := by
      unfold lex; rw [if_neg h4, pre_nil]; simp
    have hk := skip_pos_le s 0 (by omega)
    have HX := hid hx
    clear hx
    go_enter Tryz.func9, Tryz.ntmps9
    go_wp2_with fail
    refine (blanks_any w a s cap 0 hs hlen (by omega)).mono ?_
    rintro e w1 ⟨rfl, e1⟩
    generalize 0 + skip false (s.drop 0) = p0 at HX hk
    go_wp2_with fail
    go_loopw [5, 6] (fun v i wr => ∃ (pos f : Nat) (acc : List Tok), pos ≤ s.length ∧ i = .int .i64 pos ∧ Ext w wr ∧ wr.ownsRow w.heap.size 63 4 v acc.length (acc.flatMap encTok) ∧ acc.length ≤ 2048 ∧ s.length - pos < f ∧
      Hid (lex s = pre acc (lexGo f pos (s.drop pos) acc.length))) (fun _ i _ => s.length - (intOf i).toNat)
    case atStart => exact ⟨p0, s.length + 1, [], hk, rfl, e1, World.ownsRow_nil _ _ _ _, by simp, by omega, HX.out⟩
    case round =>
      obtain ⟨pos, f, acc, hpos, rfl, he, hown, hacc, hf, hsum⟩ := hrel
      obtain ⟨f, rfl⟩ : ∃ k, f = k + 1 := ⟨f - 1, by omega⟩
      by_cases hlt : pos < s.length
      · have hne : s.drop pos ≠ [] := by intro h0; have := congrArg List.length h0; rw [List.length_drop, List.length_nil] at this; omega
        go_wp2_with fail
        refine (next_any wr a s cap pos (hs.ext he) hlen hcap hlt).mono ?_
        rintro e w2 ⟨hn, e2⟩
        cases hq : nextT (s.drop pos) with
        | error x =>
          rw [hq] at hn
          obtain ⟨k, t, n, rfl⟩ := hn
          have hres : lex s = .error (x, pos) := by rw [hsum.out, lexGo_err acc hne hq]
          have HR := hid hres
          rcases nextT_err hq with rfl | rfl
          all_goals
            clear hres hq hne
            go_wp2_with fail
            go_ret3
            refine ⟨?_, (he.trans e2).trans ((Ext.refl _).alloc _)⟩
            rw [HR.out]
            rfl
        | ok bt =>
          rw [hq] at hn
          have hl := nextT_len hq
          rw [List.length_drop] at hl
          simp only [nextEnds] at hn
          subst hn
          have hown2 := ownsRow_ext hown e2
          by_cases hmany : acc.length = 2048
          · have hres : lex s = .error (2, pos) := by rw [hsum.out, hmany, lexGo_many acc hne hq]
            have HR := hid hres
            obtain ⟨ao, cp, rfl, _, _, _⟩ := owned_cells hown
            rw [hmany] at *
            clear hres hq hne hmany
            go_wp2_with fail
            go_ret3
            refine ⟨?_, (he.trans e2).trans ((Ext.refl _).alloc _)⟩
            rw [HR.out]
            rfl
          · have hres := hsum.out
            rw [lexGo_step acc hne hq hmany, List.drop_drop] at hres
            have hsk := skip_pos_le s (pos + bt.len) (by omega)
            have hown3 := (hown2.alloc (.cells #[.int .i64 bt.kind, .string ⟨bt.text.toArray⟩, .int .i64 bt.num, .int .i64 pos] 63)).alloc (.cells #[.int .i64 bt.kind, .string ⟨bt.text.toArray⟩, .int .i64 bt.num, .int .i64 pos] 63)
            obtain ⟨ao, cp, hv, _, _, _⟩ := owned_cells hown
            subst hv
            have HR := hid hres
            have hmi : ((acc.length : Int) == 2048) = false := by simp; omega
            have hlt2 : acc.length < 2048 := by omega
            clear hres hq hne hmany
            go_wp2_with (at_builtin; refine wpList_append_own _ rfl _ _ 38 rfl w.heap.size 63 i0 (.agg #[.int .i64 0, .string ⟨#[]⟩, .int .i64 0, .int .i64 0]) 4 40 Tryz.underlying38 hi hz0 hz1 hz2 rfl (by decide) _ _ _ rfl hown3 ⟨w2.heap.size + 1, 0, none⟩ 1 1 [.int .i64 bt.kind, .string ⟨bt.text.toArray⟩, .int .i64 bt.num, .int .i64 pos] rfl rfl ?c1 ?c2 ?c3 ?c4 ?c5 ?_)
            case c1 => exact news_cells _ _ _ _ (by simp)
            case c2 => simp [Value.oneCell']
            case c3 => simp only [maxLen]; omega
            case c4 => omega
            case c5 => have := (he.trans e2).size; simp; omega
            intro v' w4 hown4 hgr _
            have e4 : Ext w w4 := (((he.trans e2).alloc _).alloc _).grown hown3 (Nat.le_refl _) hgr
            clear hgr hown3 hown2 hown
            go_wp2_with fail
            refine (blanks_any w4 a s cap (pos + bt.len) (hs.ext e4) hlen (by omega)).mono ?_
            rintro e w5 ⟨rfl, e5⟩
            go_wp2_with fail
            go_roundw
            case rel =>
              refine ⟨pos + bt.len + skip false (s.drop (pos + bt.len)), f, acc ++ [⟨bt.kind, bt.text, bt.num, pos⟩], hsk, rfl, e4.trans e5, ?_, by rw [List.length_append, List.length_singleton]; omega, by omega, ?_⟩
              · rw [List.length_append, List.length_singleton, List.flatMap_append]
                exact ownsRow_ext hown4 e5
              · show _ = _
                rw [HR.out, List.drop_drop, List.length_append, List.length_singleton, Nat.add_assoc]
            case measure => simp [intOf]; omega
      · have hres : lex s = .ok acc := by rw [hsum.out, List.drop_of_length_le (by omega), lexGo_end]
        obtain ⟨ao, cp, rfl, hcells, hbase, hcp⟩ := owned_cells hown
        have HC := hid (owned_cap hown)
        have HR := hid hres
        clear hres
        go_wp2_with fail
        go_ret3
        refine ⟨?_, he⟩
        rw [HR.out]
        exact ⟨ao, cp, rfl, hcells, hbase, hcp, HC.out⟩
end Go.Proofs.YtaehlakefgnfmaaGreatDoor
/-
  DERIVED. The cells of a row of tokens.
-/
namespace Go.Proofs.YtaehlakefgnfmaaGreatDoor
set_option linter.unusedSimpArgs false
set_option linter.unusedVariables false
open Go.RowKit

theorem flatMap_get (ts : List Tok) (k : Nat) (hk : k < ts.length) (j : Nat) (hj : j < 4) : (ts.flatMap encTok)[k * 4 + j]? = (encTok ts[k])[j]? := by
  induction ts generalizing k with
  | nil => simp at hk
  | cons t ts ih =>
    rw [List.flatMap_cons]
    cases k with
    | zero => rw [List.getElem?_append_left (by simp [encTok]; omega)]; simp
    | succ k =>
      rw [List.getElem?_append_right (by simp [encTok]; omega), show (k + 1) * 4 + j - (encTok t).length = k * 4 + j by simp [encTok]; omega]
      simpa using ih k (by simpa using hk)
/-- The four cells of one token of a row. -/
theorem toks_at {w : World} {a : Option Addr} {ts : List Tok} (h : CellsAt w a (ts.flatMap encTok)) {k : Nat} (hk : k < ts.length) :
    ∃ b off, a = some ⟨b, off, none⟩ ∧ w.cell? ⟨b, off + k * 4, none⟩ = some (.int .i64 ts[k].kind) ∧ w.cell? ⟨b, off + k * 4 + 1, none⟩ = some (.string ⟨ts[k].text.toArray⟩) ∧
      w.cell? ⟨b, off + k * 4 + 2, none⟩ = some (.int .i64 ts[k].num) ∧ w.cell? ⟨b, off + k * 4 + 3, none⟩ = some (.int .i64 ts[k].place) := by
  have g : ∀ j, j < 4 → ∀ v, (encTok ts[k])[j]? = some v → ∃ b off, a = some ⟨b, off, none⟩ ∧ w.cell? ⟨b, off + (k * 4 + j), none⟩ = some v :=
    fun j hj v hv => h _ v (by rw [flatMap_get ts k hk j hj]; exact hv)
  obtain ⟨b, off, rfl, h0⟩ := g 0 (by omega) _ rfl
  obtain ⟨b', off', hb, h1⟩ := g 1 (by omega) _ rfl
  cases hb
  obtain ⟨b', off', hb, h2⟩ := g 2 (by omega) _ rfl
  cases hb
  obtain ⟨b', off', hb, h3⟩ := g 3 (by omega) _ rfl
  cases hb
  exact ⟨b, off, rfl, h0, h1, h2, h3⟩
end Go.Proofs.YtaehlakefgnfmaaGreatDoor
