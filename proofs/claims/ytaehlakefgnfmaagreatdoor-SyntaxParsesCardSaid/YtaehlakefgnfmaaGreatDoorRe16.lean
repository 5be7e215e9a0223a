/-
  DERIVED. THE WALK of the document's Parse (printed by gen_re16.py).
-/
import Derived.Test.YtaehlakefgnfmaaGreatDoorRe15
import Derived.Test.YtaehlakefgnfmaaGreatDoorRefe
import Derived.Test.YtaehlakefgnfmaaGreatDoorParse0
namespace Go.Proofs.YtaehlakefgnfmaaGreatDoor
set_option linter.unusedSimpArgs false
set_option linter.unusedVariables false
set_option maxRecDepth 100000
open Go.RowKit

/-- Where the document's Parse stands: the result's block, the reader, the program's block. -/
structure PgAt (w0 w : World) (br n : Nat) (S : Rz) (sv : Value) : Prop where
  res : Blk w w0.heap.size 26 [.slice none 0 0]
  rd : ReAt w br n S
  pb : Blk w (br + 1) 26 [sv]
  ext : Ext w0 w
  lb : w0.heap.size + 1 ≤ br
theorem PgAt.drewN {w0 w : World} {br n : Nat} {S : Rz} {sv : Value} (h : PgAt w0 w br n S sv) (m : Nat) : PgAt w0 (w.drewN m) br n S sv :=
  ⟨h.res, h.rd.drewN m, h.pb, h.ext.trans (Keep.ext (Keep.drewN (Keep.refl _ _) m)), h.lb⟩
theorem PgAt.push {w0 w w' : World} {br n : Nat} {S S' : Rz} {sv sv' : Value} (h : PgAt w0 w br n S sv) (r : ReAt w' br n S') (b : Blk w' (br + 1) 26 [sv']) (k : Keep (br :: (br + 1) :: ownL sv) w w') (hv : ∀ q ∈ ownL sv, br + 2 ≤ q) : PgAt w0 w' br n S' sv' :=
  ⟨h.res.keep k (fun hq => by
    have := h.lb
    simp only [List.mem_cons] at hq
    rcases hq with hq | hq | hq
    · omega
    · omega
    · have := hv _ hq; omega), r, b, k.below h.ext (fun q hq => by
    have := h.lb
    simp only [List.mem_cons] at hq
    rcases hq with hq | hq | hq
    · omega
    · omega
    · have := hv _ hq; omega), h.lb⟩
def PgRel (w : World) (br n : Nat) (R : Res (List Fu)) (k : Nat) (wr : World) : Prop :=
  ∃ va m vc S, PgAt w wr br n S (.slice va m vc) ∧ m ≤ 2049 ∧ 0 < k ∧ (∃ ks, wr.ownsRow (br + 2) 36 5 (.slice va m vc) m ks) ∧
    ((∃ acc us, S = .ok us ∧ m = acc.length ∧ OwnX fuEnc 36 wr (br + 2) (.slice va m vc) acc ∧ acc.length + us.length ≤ 2048 ∧ us.length + 1 < k ∧ R = progGo (k - 1) acc us) ∨ (∃ x q, S = .bad x q ∧ toS n R = .bad x q))
theorem owns_same {w : World} {base : Nat} {e : TypeId} {size : Nat} {v : Value} {n : Nat} {xs ys : List Value} (h : w.ownsRow base e size v n xs) (k : w.ownsRow base e size v n ys) : xs = ys := by
  obtain ⟨h1, h⟩ := h
  obtain ⟨k1, k⟩ := k
  rcases h with ⟨rfl, rfl⟩ | ⟨g, cap, cur, rfl, _, hg, _, _, _, ht⟩
  · exact (List.eq_nil_of_length_eq_zero (by simpa using h1)).trans (List.eq_nil_of_length_eq_zero (by simpa using k1)).symm
  · rcases k with ⟨hv, _⟩ | ⟨g', cap', cur', hv, _, hg', _, _, _, ht'⟩
    · cases hv
    · cases hv
      rw [hg] at hg'
      cases hg'
      rw [← ht, ← ht']
set_option maxHeartbeats 8000000 in
theorem rParse_lexNo (w : World) (a : Option Addr) (s : List UInt8) (cap : Nat) (hs : BytesAt w a s) (hcap : s.length ≤ cap) (x p : Nat) (h : lex s = .error (x, p)) :
    Calls Tryz.prog 6 #[.slice a s.length cap] w fun e w' => parseEnds (.error (x, p)) w.heap.size e w' ∧ Ext w w' := by
  have hx : ((x : Int) != 0) = true := by have := lex_code0 h; simp; omega
  have hs1 := hs.ext ((Ext.refl w).alloc (.cells #[.slice none 0 0] 26))
  have bR := Blk.new w 26 [.slice none 0 0]
  have H := hid h
  clear h
  go_enter Tryz.func6, Tryz.ntmps6
  go_wp2_with fail
  refine (rLex_any _ a s cap hs1 hcap).mono ?_
  rintro e w1 ⟨hlx, e1⟩
  rw [H.out] at hlx
  simp only [lexEnds] at hlx
  subst hlx
  have bR1 := bR.ext e1
  have c0 := bR1.cell 0
  have f0 := bR1.frozen 0
  have l0 := bR1.lt
  have bF := bR1.set 0 (.slice none 0 0)
  simp only [List.getElem?_cons_zero, List.set_cons_zero] at c0 bF
  have x0 := bF.cell 0
  simp only [List.getElem?_cons_zero] at x0
  have E1 := (((Ext.refl w).alloc (.cells #[.slice none 0 0] 26)).trans e1).setCell (p := ⟨w.heap.size, 0, none⟩) (Nat.le_refl _) (.slice none 0 0)
  go_wp2_with fail
  refine bodyPost_ret (v := .tuple #[.agg #[.slice none 0 0], .int .i64 x, .int .i64 p]) (by simp [results, Tryz.results6, go_sem, x0]) rfl ⟨rfl, E1⟩
set_option maxHeartbeats 32000000 in
theorem rParse_lexYes (w : World) (a : Option Addr) (s : List UInt8) (cap : Nat) (hs : BytesAt w a s) (hcap : s.length ≤ cap) (hmax : s.length ≤ 4096) (ts : List Tok) (h : lex s = .ok ts) (hwf : Wf ts) (hlen : ts.length ≤ 2048) :
    Calls Tryz.prog 6 #[.slice a s.length cap] w fun e w' => parseEnds (paOut s.length (progS ts)) w.heap.size e w' ∧ Ext w w' := by
  obtain ⟨i0, hi0, hz0, hz1, hz2⟩ := info_parts Tryz.infoFunc
  have hs1 := hs.ext ((Ext.refl w).alloc (.cells #[.slice none 0 0] 26))
  have bR := Blk.new w 26 [.slice none 0 0]
  have H := hid h
  have HRR := hid (show progS ts = progGo (ts.length + 1) [] ts from rfl)
  clear h
  generalize progS ts = R at HRR ⊢
  go_enter Tryz.func6, Tryz.ntmps6
  go_wp2_with fail
  refine (rLex_any _ a s cap hs1 hcap).mono ?_
  rintro e w1 ⟨hlx, e1⟩
  rw [H.out] at hlx
  obtain ⟨ax, cx, rfl, hcx, hax, hlcx, hmcx⟩ := hlx
  have bR1 := bR.ext e1
  have l1 := bR1.lt
  have E1 := ((Ext.refl w).alloc (.cells #[.slice none 0 0] 26)).trans e1
  have P0 : PgAt w ((w1.alloc (.cells #[.slice ax ts.length cx, .int .i64 0, .int .i64 0, .int .i64 0, .int .i64 s.length] 50)).alloc (.cells #[.slice none 0 0] 26)) w1.heap.size s.length (.ok ts) (.slice none 0 0) := by
    refine ⟨(bR1.alloc _).alloc _, ReRaw.at ((show ReRaw (w1.alloc _) w1.heap.size s.length ts 0 0 from ⟨ax, cx, ts, 0, Blk.new w1 50 [.slice ax ts.length cx, .int .i64 0, .int .i64 0, .int .i64 0, .int .i64 s.length], ?_, hlcx, hlen, by omega, hwf, rfl⟩).keep (Keep.ofExt ((Ext.refl _).alloc _) : Keep [] _ _) (by simp)), ?_, (E1.alloc _).alloc _, l1⟩
    · intro i v hv
      obtain ⟨b, off, rfl, hc⟩ := hcx i v hv
      have hb := World.block_lt_of_cell? _ _ hc
      exact ⟨b, off, rfl, hb, ((Ext.refl w1).alloc _).cell hc⟩
    · have := Blk.new (w1.alloc (.cells #[.slice ax ts.length cx, .int .i64 0, .int .i64 0, .int .i64 0, .int .i64 s.length] 50)) 26 [.slice none 0 0]
      rw [World.size_alloc] at this
      exact this
  have HREL := hid (show PgRel w w1.heap.size s.length R (ts.length + 2) _ from ⟨none, 0, 0, _, P0, by omega, by omega, ⟨[], World.ownsRow_nil _ _ _ _⟩, .inl ⟨[], ts, rfl, rfl, OwnX.nil _ _ _ _, by simp; omega, by omega, HRR.out⟩⟩)
  clear P0 hs1 hcx hax bR bR1 HRR
  go_wp2_with fail
  go_loopg [] (ts.length + 2) (fun k wr => PgRel w w1.heap.size s.length R k wr)
  case atStart => exact HREL.out
  case round =>
    obtain ⟨va, m, vc, S, PA, hm, hgk, ⟨ks1, own1⟩, hcase⟩ := hrel
    obtain ⟨k, rfl⟩ : ∃ k, gk = k + 1 := ⟨gk - 1, by omega⟩
    clear HREL
    rcases hcase with ⟨acc, us, rfl, hmacc, hownX, hl, hltk, hR⟩ | ⟨x, q, rfl, hR⟩
    · obtain ⟨k, rfl⟩ : ∃ k', k = k' + 1 := ⟨k - 1, by omega⟩
      have HWU := hid PA.rd.wf.1
      obtain ⟨rto, hraw⟩ := PA.rd.raw
      have HOX := hid hownX
      have HM := hid hmacc
      have HR := hid (show R = progGo (k + 1) acc us from hR)
      clear hownX hR hmacc
      cases us with
      | nil =>
        obtain ⟨ra, rlen, rcap, _, _, rb⟩ := hraw.nil
        obtain ⟨c0, c1, c2, c3, c4, cf⟩ := rb.fiveR
        have hd : decide ((rlen : Int) < (rlen : Int)) = false := by simp
        have HRA := hid (show R = .ok acc [] by rw [HR.out, progGo_nil])
        clear HR
        go_wp2_with fail
        go_quiet (fail)
        have PB := PA.drewN nq
        have y0 := PB.pb.cell 0
        have z0 := PB.res.cell 0
        have zf := PB.res.frozen 0
        have zl := PB.res.lt
        have zb := PB.pb.lt
        have bF := PB.res.set 0 (.slice va m vc)
        simp only [List.getElem?_cons_zero, List.set_cons_zero] at y0 z0 bF
        have x0 := bF.cell 0
        simp only [List.getElem?_cons_zero] at x0
        have hrow := ((HOX.out.keep (Keep.drewN' [] wr nq) (by simp)).keep (Keep.set (wr.drewN nq) ⟨w.heap.size, 0, none⟩ (.slice va m vc)) (by have := PA.lb; simp; omega)).row
        have EF := PB.ext.setCell (p := ⟨w.heap.size, 0, none⟩) (Nat.le_refl _) (.slice va m vc)
        have lbr := PA.lb
        have hd2 : (((0 : Nat) : Int) != 0) = false := rfl
        clear hd
        go_wp2_with fail
        refine bodyPost_ret (v := .tuple #[.agg #[.slice va m vc], .int .i64 0, .int .i64 0]) (by simp [results, Tryz.results6, go_sem, x0]) rfl ⟨?_, EF⟩
        rw [HRA.out]
        refine ⟨_, rfl, ?_⟩
        exact RowIs.carry hrow ⟨fun _ _ _ _ h => h, fun b _ hb => by have hb' : w1.heap.size + 2 ≤ b := hb; show w.heap.size ≤ b; omega⟩ fun ks hk => FusIs.carry ⟨fun _ _ _ _ h => h, fun b _ hb => by have hb' : w1.heap.size + 2 ≤ b := hb; show w.heap.size ≤ b; omega⟩ _ _ hk
      | cons t r =>
        obtain ⟨tb, toff, rlen, rcap, rk, q1, q2, q3, q4, q5, rb, d0, d1, d2, d3, _, _⟩ := hraw.cons
        obtain ⟨c0, c1, c2, c3, c4, cf⟩ := rb.fiveR
        have hd : decide ((rk : Int) < (rlen : Int)) = true := by simp; omega
        have HRC := hid (show R = (funS (t :: r)).bind fun x r => progGo k (acc ++ [x]) r by rw [HR.out, progGo_cons])
        have HKS := hid (fun (ks : List Value) (h : wr.ownsRow (w1.heap.size + 2) 36 5 (.slice va m vc) acc.length ks) => owns_same own1 (by rw [← HM.out] at h; exact h))
        clear HR d0 d1 d2 d3 q4
        go_wp2_with fail
        go_quiet (fail)
        have PB := PA.drewN nq
        clear c0 c1 c2 c3 c4 cf rb hraw hd
        go_wp2_with fail
        have bX := PB.pb
        have rr := PB.rd
        have lX := PB.pb.lt
        have own := ownsRow_keep own1 (Keep.drewN' [] wr nq) (by simp)
        have hSx : Blk (wr.drewN nq).drew (w1.heap.size + 1) 26 [.slice va m vc] := bX
        refine phase_begin (fun w' => Blk w' (w1.heap.size + 1) 26 [.slice va m vc]) 7 (by kernel_rfl) ?_
        refine phase_take (i := 0) (v := .pointer (some ⟨w1.heap.size + 1, 0, none⟩)) rfl (by kernel_rfl) (by omega) (by kernel_rfl) (by kernel_rfl) (by kernel_rfl) (fun _ _ _ h => h) ⟨by rfl, ?_⟩ hSx ?_
        · intro wS hSw
          have s0 := Blk.cell hSw 0
          have sl := Blk.lt hSw
          simp only [List.getElem?_cons_zero, List.getElem?_cons_succ] at s0
          go_simp
        try simp only [Act.put, List.getElem_toArray, List.getElem_cons_succ, List.getElem_cons_zero, List.setIfInBounds_toArray, List.set_cons_zero, List.set_cons_succ]
        refine phase_take (i := 1) (v := .slice va m vc) rfl (by kernel_rfl) (by omega) (by kernel_rfl) (by kernel_rfl) (by kernel_rfl) (fun _ _ _ h => h) ⟨by rfl, ?_⟩ hSx ?_
        · intro wS hSw
          have s0 := Blk.cell hSw 0
          have sl := Blk.lt hSw
          simp only [List.getElem?_cons_zero, List.getElem?_cons_succ] at s0
          go_simp
        try simp only [Act.put, List.getElem_toArray, List.getElem_cons_succ, List.getElem_cons_zero, List.setIfInBounds_toArray, List.set_cons_zero, List.set_cons_succ]
        refine phase_take (i := 2) (v := .pointer (some ⟨w1.heap.size, 0, none⟩)) rfl (by kernel_rfl) (by omega) (by kernel_rfl) (by kernel_rfl) (by kernel_rfl) (fun _ _ _ h => h) ⟨by rfl, fun wS hSw => by go_simp⟩ hSx ?_
        try simp only [Act.put, List.getElem_toArray, List.getElem_cons_succ, List.getElem_cons_zero, List.setIfInBounds_toArray, List.set_cons_zero, List.set_cons_succ]
        refine phase_one (i := 3) (by kernel_rfl) (by omega) rfl (by rfl) (fun K hK => ?_)
        go_simp
        refine (rFun_any _ w1.heap.size s.length (t :: r) (rr.ext (Ext.refl _).drew)).mono ?_
        rintro e' w3 ⟨⟨vs, rfl, ⟨nm, pa, pn, pc, rs, ba, bn, bc, at_, rfl⟩, hx⟩, r3, k3⟩
        have b3 := hSx.keep k3 (by simp)
        have HX := hid hx
        clear hx
        refine hK _ _ ⟨b3, ?_⟩
        clear hK K
        try simp only [Act.put, List.getElem_toArray, List.getElem_cons_succ, List.getElem_cons_zero, List.setIfInBounds_toArray, List.set_cons_zero, List.set_cons_succ]
        refine phase_one (i := 4) (by kernel_rfl) (by omega) rfl (by rfl) (fun K hK => ?_)
        go_simp
        refine hK _ _ ⟨b3.alloc _, ?_⟩
        clear hK K
        try simp only [Act.put, List.getElem_toArray, List.getElem_cons_succ, List.getElem_cons_zero, List.setIfInBounds_toArray, List.set_cons_zero, List.set_cons_succ]
        have own4 := (ownsRow_keep own ((Keep.refl [w1.heap.size] _).drew.trans' k3) (fun b hb _ hq => by simp only [List.mem_singleton] at hb; subst hb; have := (own.lt _ hq).1; omega)).alloc (.cells #[.string ⟨nm.toArray⟩, .slice pa pn pc, .int .i64 rs, .slice ba bn bc, .int .i64 at_] 36)
        have sz3 := k3.size
        simp only [World.size_drew] at sz3
        refine phase_one (i := 5) (by kernel_rfl) (by omega) rfl (by rfl) (fun K hK => ?_)
        refine wp_append_lies _ (.tmp 44) (.tmp 47) 24 (by rfl) (w1.heap.size + 2) 36 i0 (.agg #[.string ⟨#[]⟩, .slice none 0 0, .int .i64 0, .slice none 0 0, .int .i64 0]) 5 80 Tryz.underlying24 hi0 hz0 hz1 hz2 rfl (by omega) (.slice va m vc) m ks1 (by rfl) own4 ⟨w3.heap.size, 0, none⟩ 1 1
          [.string ⟨nm.toArray⟩, .slice pa pn pc, .int .i64 rs, .slice ba bn bc, .int .i64 at_] (by rfl) (by rfl) (news_cells _ _ _ _ rfl) (by simp [Value.oneCell']) (by omega) (by simp only [maxLen]; omega) (by omega) (by simp; omega) (w3.heap.size + 1) (by simp) (fun g cap w5 hown5 hgr hat hglt => ?_)
        have lg : w1.heap.size + 2 ≤ g := (hown5.lt g rfl).1
        have lown : ∀ q ∈ ownL (.slice va m vc), w1.heap.size + 2 ≤ q ∧ q < (wr.drewN nq).heap.size := fun q hq => own.lt q (mem_ownL.1 hq)
        have kk := Keep.grownBy hgr (ownL (.slice va m vc)) (fun k hk => mem_ownL.2 hk)
        have b5 := (b3.alloc (.cells #[.string ⟨nm.toArray⟩, .slice pa pn pc, .int .i64 rs, .slice ba bn bc, .int .i64 at_] 36)).keep kk (fun hq => by have := (lown _ hq).1; omega)
        refine hK _ _ ⟨b5, ?_⟩
        clear hK K
        try simp only [Act.put, List.getElem_toArray, List.getElem_cons_succ, List.getElem_cons_zero, List.setIfInBounds_toArray, List.set_cons_zero, List.set_cons_succ]
        refine phase_take (i := 6) (v := .pointer (some ⟨w1.heap.size + 1, 0, none⟩)) rfl (by kernel_rfl) (by omega) (by kernel_rfl) (by kernel_rfl) (by kernel_rfl) (fun _ _ _ h => h) ⟨by rfl, ?_⟩ (show Blk w5 (w1.heap.size + 1) 26 [.slice va m vc] from b5) ?_
        · intro wS hSw
          have s0 := Blk.cell hSw 0
          have sl := Blk.lt hSw
          simp only [List.getElem?_cons_zero, List.getElem?_cons_succ] at s0
          go_simp
        try simp only [Act.put, List.getElem_toArray, List.getElem_cons_succ, List.getElem_cons_zero, List.setIfInBounds_toArray, List.set_cons_zero, List.set_cons_succ]
        have c5 := b5.cell 0
        have f5 := b5.frozen 0
        have l5 := b5.lt
        simp only [List.getElem?_cons_zero, List.getElem?_cons_succ] at c5
        refine phase_late (i := 7) (by kernel_rfl) (by omega) rfl (by rfl) (fun K hK => ?_)
        go_simp
        refine hK _ _ ?_
        clear hK K
        try simp only [Act.put, List.getElem_toArray, List.getElem_cons_succ, List.getElem_cons_zero, List.setIfInBounds_toArray, List.set_cons_zero, List.set_cons_succ]
        have bX6 := b5.set 0 (.slice (some ⟨g, 0, none⟩) (m + 1) cap)
        simp only [List.set_cons_zero, List.set_cons_succ] at bX6
        have kS := Keep.set w5 ⟨w1.heap.size + 1, 0, none⟩ (.slice (some ⟨g, 0, none⟩) (m + 1) cap)
        have r6 := ((r3.ext ((Ext.refl _).alloc (.cells #[.string ⟨nm.toArray⟩, .slice pa pn pc, .int .i64 rs, .slice ba bn bc, .int .i64 at_] 36))).keep kk (fun q hq => by have := (lown q hq).1; omega)).keep kS (fun q hq => by simp only [List.mem_singleton] at hq; omega)
        have kA : Keep (w1.heap.size :: (w1.heap.size + 1) :: ownL (.slice va m vc)) (wr.drewN nq) (w5.setCell ⟨w1.heap.size + 1, 0, none⟩ (.slice (some ⟨g, 0, none⟩) (m + 1) cap)) :=
          ((((Keep.refl _ _).drew.trans k3 (by simp)).alloc _).trans kk (fun q hq => .inl (by simp [hq]))).trans kS (by simp)
        have own6 := ownsRow_keep hown5 kS (fun b hb _ hq => by simp only [List.mem_singleton] at hb; subst hb; simp only [Value.ownBlock, Option.some.injEq] at hq; omega)
        refine wpAny_done (by kernel_rfl) ?_ _
        clear c5 f5 hSx b3 own4
        have P6 := PB.push r6 bX6 kA (fun q hq => (lown q hq).1)
        cases hF : funS (t :: r) with
        | err xc xr =>
          have HRD := hid (show R = .err xc xr by rw [HRC.out, hF]; rfl)
          simp only [aft, hF, toS] at P6
          clear hF
          go_wp2_with fail
          go_roundg (k + 1)
          case measure => omega
          case rel => exact ⟨some ⟨g, 0, none⟩, m + 1, cap, _, P6, by have := HM.out; omega, by omega, ⟨_, own6⟩, .inr ⟨xc, _, rfl, by rw [HRD.out]; rfl⟩⟩
        | ok x xr =>
          have HRD := hid (show R = progGo k (acc ++ [x]) xr by rw [HRC.out, hF]; rfl)
          have hI := inv_fun (t :: r) HWU.out
          rw [hF] at hI
          have hI1 : x.size + xr.length ≤ (t :: r).length := hI.1
          have hxp := x.size_pos
          have hgx : Giv funS (.ok (t :: r)) x := ⟨_, xr, rfl, hF⟩
          simp only [aft, hF, toS] at P6
          obtain ⟨ks, own0, hall⟩ := HOX.out.keep (Keep.drewN' [] wr nq) (by simp)
          have hks : ks1 = ks := HKS.out ks own0
          have hsn := OwnX.snocR (En := fuEnc) (T := 36) (acc := acc) (B := (wr.drewN nq).drew.heap.size) (fuEnc.carries (Carry.keep (((Keep.refl [w1.heap.size] _).drew.trans' k3).alloc (.cells #[.string ⟨nm.toArray⟩, .slice pa pn pc, .int .i64 rs, .slice ba bn bc, .int .i64 at_] 36)) (by simp; omega) (fun b _ hf => hf)) _ _ hall) (HX.out x hgx) ((Ext.refl _).alloc (.cells #[.string ⟨nm.toArray⟩, .slice pa pn pc, .int .i64 rs, .slice ba bn bc, .int .i64 at_] 36)) (fun q hq => (own.lt q hq).2) (by simp only [World.size_drew]; omega) (by rw [← HM.out, ← hks]; exact hown5) hgr (by rw [World.size_alloc]; exact hat)
          have hsn6 := hsn.keep kS (fun q hq _ => by simp only [List.mem_singleton] at hq; omega)
          clear hF hI
          go_wp2_with fail
          go_roundg (k + 1)
          case measure => omega
          case rel => exact ⟨some ⟨g, 0, none⟩, m + 1, cap, _, P6, by have := HM.out; omega, by omega, ⟨_, own6⟩, .inl ⟨acc ++ [x], xr, rfl, by simpa using HM.out, hsn6, by rw [List.length_append, List.length_singleton]; simp only [List.length_cons] at hI1 hl; omega, by simp only [List.length_cons] at hI1 hltk; omega, by rw [HRD.out]; rfl⟩⟩
    · obtain ⟨hx0, rest, hraw⟩ := PA.rd.rawBad
      have hx0' : ((x : Int) == 0) = false := by simp; omega
      have hx1' : ((x : Int) != 0) = true := by simp; omega
      obtain ⟨ra, rlen, rcap, rk, _, _, _, rb, _⟩ := hraw.blk
      obtain ⟨c0, c1, c2, c3, c4, cf⟩ := rb.fiveR
      have HRA := hid hR
      clear hR
      have lbr := PA.lb
      go_wp2_with fail
      go_quiet (fail)
      have PB := PA.drewN nq
      have z0 := PA.res.cell 0
      have zf := PA.res.frozen 0
      have zl := PA.res.lt
      have PB2 := PA.drewN (nq + 1)
      have bF := PB2.res.set 0 (.slice none 0 0)
      simp only [List.getElem?_cons_zero, List.set_cons_zero] at z0 bF
      have x0 := bF.cell 0
      simp only [List.getElem?_cons_zero] at x0
      have EF := PB2.ext.setCell (p := ⟨w.heap.size, 0, none⟩) (Nat.le_refl _) (.slice none 0 0)
      have zr : w1.heap.size < wr.heap.size := PA.rd.lt
      go_wp2_with fail
      go_region
      all_goals go_wp2_with fail
      all_goals refine bodyPost_ret (v := .tuple #[.agg #[.slice none 0 0], .int .i64 x, .int .i64 q]) (by simp [results, Tryz.results6, go_sem, x0]) rfl ⟨?_, EF⟩
      all_goals
        cases R with
        | ok p r => have := HRA.out; cases this
        | err c r =>
          have := HRA.out
          simp only [toS, Rz.bad.injEq] at this
          obtain ⟨rfl, rfl⟩ := this
          rfl
/-- THE DOCUMENT's PARSE answers what the plain parser says, for every text. -/
theorem rParse_any (w : World) (a : Option Addr) (s : List UInt8) (cap : Nat) (hs : BytesAt w a s) (hcap : s.length ≤ cap) :
    Calls Tryz.prog 6 #[.slice a s.length cap] w fun e w' => parseEnds (parse s) w.heap.size e w' ∧ Ext w w' := by
  cases h : lex s with
  | error e =>
    obtain ⟨x, p⟩ := e
    rw [parse_lexErr h]
    exact rParse_lexNo w a s cap hs hcap x p h
  | ok ts =>
    have hw := lex_wf h
    have hp : parse s = paOut s.length (progS ts) := by
      unfold parse
      rw [h]
      simp only []
      cases progS ts <;> rfl
    rw [hp]
    exact rParse_lexYes w a s cap hs hcap (lex_short h) ts h hw.1 hw.2
theorem rParse_err (w : World) (a : Option Addr) (s : List UInt8) (cap : Nat) (hs : BytesAt w a s) (hcap : s.length ≤ cap) (x p : Nat) (h : parse s = .error (x, p)) :
    Calls Tryz.prog 6 #[.slice a s.length cap] w fun e w' => e = .returned (.tuple #[.agg #[.slice none 0 0], .int .i64 x, .int .i64 p]) ∧ Ext w w' := by
  have := rParse_any w a s cap hs hcap
  rw [h] at this
  exact this
theorem rParse_ok (w : World) (a : Option Addr) (s : List UInt8) (cap : Nat) (hs : BytesAt w a s) (hcap : s.length ≤ cap) (p : List Fu) (h : parse s = .ok p) :
    Calls Tryz.prog 6 #[.slice a s.length cap] w fun e w' => (∃ (fa : Option Addr) (fc : Nat), e = .returned (.tuple #[.agg #[.slice fa p.length fc], .int .i64 0, .int .i64 0]) ∧ RowIs w' (w.heap.size ≤ ·) (.slice fa p.length fc) p.length (FusIs w' (w.heap.size ≤ ·) p)) ∧ Ext w w' := by
  have := rParse_any w a s cap hs hcap
  rw [h] at this
  refine this.mono fun e w' ⟨⟨v, h1, h2⟩, h3⟩ => ?_
  obtain ⟨fa, fc, ks, rfl, hr⟩ := h2
  exact ⟨⟨fa, fc, h1, fa, fc, ks, rfl, hr⟩, h3⟩
end Go.Proofs.YtaehlakefgnfmaaGreatDoor
