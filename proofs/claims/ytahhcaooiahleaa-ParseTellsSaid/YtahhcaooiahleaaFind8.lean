/- Which packets tell bytes: all of them, found. -/
import Derived.Test.YtahhcaooiahleaaFind7
import Derived.Handy
namespace Go.Proofs.Ytahhcaooiahleaa
open Go Go.RowKit

set_option maxRecDepth 100000 in
set_option maxHeartbeats 4000000 in
theorem parse_Find {w : World} {v : Value} {l : List Nat} (hv : BSrc w v l) (hl : (l.length : Int) < 1099511627776) (hl8 : ∀ x ∈ l, x < 256) {fr te dict : Nat} (hft : fr ≤ te) (htl : te ≤ l.length) (hd1 : 1 ≤ dict) (hd2 : (dict : Int) < 4294967296) {r : R4}
    (ra : (r.a : Int) < 4294967296) (rb : (r.b : Int) < 4294967296) (rc : (r.c : Int) < 4294967296) (rd : (r.d : Int) < 4294967296) :
    Calls Try.prog 20 #[v, .int .i64 (fr : Nat), .int .i64 (te : Nat), .int .i64 (dict : Nat), r.val] w fun e w' => ∃ pv, e = .returned (.tuple #[pv, (find l te dict fr r).2.val]) ∧ PktRow w' pv (find l te dict fr r).1 ∧ (∀ b, pv.ownBlock = some b → w.heap.size ≤ b) ∧ Kept (fun _ _ => False) w w' := by
  obtain ⟨ao, cap, rfl, hcap, hrow⟩ := hv.form
  unfold R4.val
  obtain ⟨N, hN⟩ : ∃ N, N = l.length := ⟨_, rfl⟩
  rw [← hN] at hl htl hv
  have HN := Lib.hid hN
  rw [← hN]
  have m1 : (if (fr : Int) < 0 then (0 : Int) else (fr : Int)) = (fr : Int) := if_neg (by omega)
  have m2 : (if (te : Int) < (fr : Int) then (fr : Int) else (te : Int)) = (te : Int) := if_neg (by omega)
  have hmk : ∀ w, (Instr.makeSlice 94 (.int .i64 65536) (.int .i64 65536)).run Try.prog w = .ok (.slice (some ⟨w.heap.size, 0, none⟩) 65536 65536) (w.alloc (.cells (madeCells #[Value.int .i64 0] 65536) 3)) := fun (w : World) => run_make_row' (P := Try.prog) 94 3 (.int .i64 0) 8 Try.underlying94 Try.info_int rfl .i64 .i64 65536 (by decide) (by decide) w
  have hmn := fun (w : World) => run_make_row' (P := Try.prog) 94 3 (.int .i64 0) 8 Try.underlying94 Try.info_int rfl .i64 .i64 N (by omega) (by omega) w
  obtain ⟨Z, hZ⟩ : ∃ Z, Z = madeCells #[Value.int .i64 0] 65536 := ⟨_, rfl⟩
  obtain ⟨Y, hY⟩ : ∃ Y, Y = madeCells #[Value.int .i64 0] N := ⟨_, rfl⟩
  rw [← hZ] at hmk
  rw [← hY] at hmn
  have HZ := Lib.hid hZ
  have HY := Lib.hid hY
  clear hZ hY
  have hfI : (fr : Int) ≤ (te : Int) := by omega
  have htI : (te : Int) ≤ (N : Int) := by omega
  have HRW := Lib.hid hrow
  have HV := Lib.hid hv
  have HC := Lib.hid hcap
  clear hN hrow hv hcap
  obtain ⟨zd, hzd⟩ : ∃ zd, zd = (dict : Int) := ⟨_, rfl⟩
  have zd1 : 1 ≤ zd := by omega
  have zd2 : zd < 4294967296 := by omega
  have m3 : (if zd < 1 then (1 : Int) else zd) = zd := if_neg (by omega)
  rw [← hzd]
  have HZD := Lib.hid hzd
  have HD1 := Lib.hid hd1
  have HD2 := Lib.hid hd2
  clear hzd hd1 hd2
  go_enter Try.func20, Try.ntmps20
  go_wp2_with fail
  clear m1 m2
  obtain ⟨w0, hw0⟩ : ∃ w0, w0 = (w.alloc (.cells #[.int .u32 (r.a : Nat), .int .u32 (r.b : Nat), .int .u32 (r.c : Nat), .int .u32 (r.d : Nat)] 38)).alloc (.cells #[.int .u32 0, .int .u32 0, .int .u32 0, .int .u32 0] 38) := ⟨_, rfl⟩
  have K0 : Kept (fun _ _ => False) w w0 := by rw [hw0]; exact ((Kept.refl _ _).alloc _).alloc _
  obtain ⟨bi, hbi⟩ : ∃ bi, bi = w.heap.size := ⟨_, rfl⟩
  obtain ⟨bx, hbx⟩ : ∃ bx, bx = bi + 1 := ⟨_, rfl⟩
  have hs0 : w0.heap.size = bi + 2 := by rw [hw0, hbi]; simp
  have A0 : At w0 bi 0 (.int .u32 (r.a : Nat)) := by rw [hw0, hbi]; exact (At.alloc_new _ _ _ _ _ rfl).alloc _
  have A1 : At w0 bi 1 (.int .u32 (r.b : Nat)) := by rw [hw0, hbi]; exact (At.alloc_new _ _ _ _ _ rfl).alloc _
  have A2 : At w0 bi 2 (.int .u32 (r.c : Nat)) := by rw [hw0, hbi]; exact (At.alloc_new _ _ _ _ _ rfl).alloc _
  have A3 : At w0 bi 3 (.int .u32 (r.d : Nat)) := by rw [hw0, hbi]; exact (At.alloc_new _ _ _ _ _ rfl).alloc _
  have hsz1 : (w.alloc (.cells #[.int .u32 (r.a : Nat), .int .u32 (r.b : Nat), .int .u32 (r.c : Nat), .int .u32 (r.d : Nat)] 38)).heap.size = bi + 1 := by rw [hbi]; simp
  have B0 : At w0 bx 0 (.int .u32 0) := by rw [hw0, hbx, ← hsz1]; exact At.alloc_new _ _ _ _ _ rfl
  have B1 : At w0 bx 1 (.int .u32 0) := by rw [hw0, hbx, ← hsz1]; exact At.alloc_new _ _ _ _ _ rfl
  have B2 : At w0 bx 2 (.int .u32 0) := by rw [hw0, hbx, ← hsz1]; exact At.alloc_new _ _ _ _ _ rfl
  have B3 : At w0 bx 3 (.int .u32 0) := by rw [hw0, hbx, ← hsz1]; exact At.alloc_new _ _ _ _ _ rfl
  rw [← hw0, ← hbi, ← hbx]
  have a0 := A0.1
  have a1 := A1.1
  have a2 := A2.1
  have a3 := A3.1
  have HBX := Lib.hid hbx
  have HBI := Lib.hid hbi
  have HS0 := Lib.hid hs0
  have HL8 := Lib.hid hl8
  clear hw0 hsz1 hbx hbi hs0 hl8
  have HV0 : BSrc w0 (.slice ao N cap) l := HV.out.kept K0 (by simp)
  have hll : (l.length : Int) < 1099511627776 := by rw [← HN.out]; exact hl
  have HP := Lib.hid (⟨HZD.out, hll, HL8.out, by rw [← HN.out]; exact htl, HD1.out, HD2.out, ra, rb, rc, rd, HN.out, HZ.out, HY.out⟩ : FPre l te dict r zd N Z Y)
  have HA0 := Lib.hid A0
  have HA1 := Lib.hid A1
  have HA2 := Lib.hid A2
  have HA3 := Lib.hid A3
  clear A0 A1 A2 A3
  go_cut [12] (fun x wx => ∃ F : FA, x = .pointer (some ⟨F.fb, 0, none⟩) ∧ FMade w0 l te dict r F wx)
  case first =>
    go_region_held3 (fun w' => w'.cell? ⟨bi, 0, none⟩ = some (.int .u32 (r.a : Nat)) ∧ w'.cell? ⟨bi, 1, none⟩ = some (.int .u32 (r.b : Nat)) ∧ w'.cell? ⟨bi, 2, none⟩ = some (.int .u32 (r.c : Nat)) ∧ w'.cell? ⟨bi, 3, none⟩ = some (.int .u32 (r.d : Nat)))
      ((refine keepF4 (w := w0) ?_ HA0.out HA1.out HA2.out HA3.out; repeat (first | exact Kept.refl _ _ | refine Kept.drew ?_ | refine Kept.drewN ?_ _ | refine Kept.alloc ?_ _ | refine Kept.trans ?_ hK)))
      ((go_at_call 53; refine (slices_Clone (HV0.kept (S := fun _ _ => False) (by (repeat (first | exact Kept.refl _ _ | refine Kept.drewN ?_ _ | refine Kept.drew ?_ | refine Kept.setCell ?_ (by simp) _ | refine Kept.alloc ?_ _))) (by simp)) hll).mono ?_; rintro e w1 ⟨cv, rfl, hO, hK⟩; obtain ⟨aoc, capc, rfl, hcr⟩ := own_shape hO))
    all_goals
      go_wp2_with fail
      go_meet
      (with_reducible first | refine FMade.glue (FMade.ofCZY HP.out hK hO) ?_ | refine FMade.glue (FMade.ofCYZ HP.out hK hO) ?_ | refine FMade.glue (FMade.ofZCY HP.out hK hO) ?_ | refine FMade.glue (FMade.ofYCZ HP.out hK hO) ?_ | refine FMade.glue (FMade.ofZYC HP.out hK hO) ?_ | refine FMade.glue (FMade.ofYZC HP.out hK hO) ?_)
      rfl
  case rest =>
    obtain ⟨F, rfl, ⟨hF, K1, q1, q2, q3⟩⟩ := hcut
    clear hmk hmn a0 a1 a2 a3 HP HA0 HA1 HA2 HA3 HZ HY
    obtain ⟨i0, hi, hz0, hz1, hz2⟩ := info_parts Try.info_pkt
    have HFS : ∀ x o, FindS F x o → w0.heap.size ≤ x := fun x o hx => by
      rcases hx with e | e | e
      · rw [e]; exact q1
      · rw [e]; exact q2
      · rw [e]; exact q3
    have HHFS := Lib.hid HFS
    clear HFS
    go_wp2_with fail
    go_loopw [13, 14] (fun ov iv wr => ∃ (i kn : Nat) (rr : R4) (ps : List Pkt), fr ≤ i ∧ i ≤ te ∧ iv = .int .i64 (i : Nat) ∧ kn ≤ i ∧ FindW wr F l te dict rr kn ∧ Kept (fun _ _ => False) w0 wr ∧ wr.ownsRow 0 26 4 ov ps.length (pktCells ps) ∧
      Hid (∀ b, ov.ownBlock = some b → w0.heap.size ≤ b ∧ b ≠ F.fb ∧ b ≠ F.lb ∧ b ≠ F.ab ∧ F.bv.ownBlock ≠ some b) ∧ ps.length ≤ i ∧ Hid (find l te dict fr r = (ps ++ (find l te dict i rr).1, (find l te dict i rr).2))) (fun _ iv _ => te - (intOf iv).toNat)
    case atStart => exact ⟨fr, 0, r, [], Nat.le_refl _, hft, rfl, Nat.zero_le _, hF, K1, World.ownsRow_nil _ _ _ _, (fun b hb => by simp [Value.ownBlock] at hb), Nat.zero_le _, rfl⟩
    case round =>
      obtain ⟨i, kn, rr, ps, hfi, hit, rfl, hkn, hF, hK, hO, hB, hpl, hE⟩ := hrel
      have hiI : (i : Int) < 1099511627776 := by omega
      by_cases hlt : i < te
      · have d1 : decide ((i : Int) < (te : Int)) = true := decide_eq_true (by omega)
        have d2 : decide (i < te) = true := decide_eq_true hlt
        have hpk := parse_packet hF hlt hkn
        have hpn := pick_len l (dict := dict) rr hlt
        have hst := find_step l (dict := dict) rr hlt
        obtain ⟨pp, hpp⟩ : ∃ pp, pp = (pick l te dict i rr).1 := ⟨_, rfl⟩
        obtain ⟨n, hn⟩ : ∃ n, n = (pick l te dict i rr).2.1 := ⟨_, rfl⟩
        obtain ⟨r2, hr2⟩ : ∃ r2, r2 = (pick l te dict i rr).2.2 := ⟨_, rfl⟩
        rw [← hn] at hpn
        rw [← hpp, ← hn, ← hr2] at hst hpk
        have HST := Lib.hid hst
        have HPK := Lib.hid hpk
        obtain ⟨n, rfl, hnI⟩ : ∃ n' : Nat, n = n' ∧ (n' : Int) ≤ 1099511627776 := ⟨n, rfl, by omega⟩
        clear hst hpk hpp hn hr2
        obtain ⟨pk, pb, pl, pd⟩ := pp
        have HPK2 := HPK.out
        unfold Pkt.val pktv at HPK2
        dsimp only at HPK2
        have HPK3 := Lib.hid HPK2
        clear HPK2 HPK
        go_wp2_with fail
        refine HPK3.out.mono ?_
        rintro e w2 ⟨rfl, kn', hkn', hF2, hKF⟩
        have hK2 : Kept (fun _ _ => False) w0 w2 := hK.trans' hKF (fun x o hx => .inr (HHFS.out x o hx))
        have hO2 : w2.ownsRow 0 26 4 u13 ps.length (pktCells ps) := hKF.owns hO (fun x hx o hs => by
          obtain ⟨_, e1, e2, e3, _⟩ := hB.out x hx
          rcases hs with e | e | e
          · exact e1 e
          · exact e2 e
          · exact e3 e)
        go_wp2_with (at_builtin; refine wpList_append_new4 rfl (.tmp 50) (.tmp 52) 37 rfl 26 i0 (.agg #[.int .i64 0, .int .u8 0, .int .i64 0, .int .u32 0]) 4 32 Try.underlying37 hi hz0 hz1 hz2 rfl (by decide) u13 _ _ (by simp [Act.eval]) ((hO2.alloc _).alloc _) ⟨w2.heap.size + 1, 0, none⟩ 1 1 [.int .i64 pk, .int .u8 (pb : Nat), .int .i64 pl, .int .u32 (pd : Nat)] (by simp [Act.eval]) rfl (newCells w2 _ _ _ _ _ _) (by intro u hu; simp at hu; rcases hu with rfl | rfl | rfl | rfl <;> rfl) (by unfold maxLen; omega) (by omega) ?_; intro v' w4 h2 h3 h4; obtain ⟨g, cap2, rfl, hg⟩ := own_form4 h2 (by omega); have hk0 : Kept (fun b _ => u13.ownBlock = some b) w2 w4 := Kept.grown (by (repeat (first | exact Kept.refl _ _ | refine Kept.drewN ?_ _ | refine Kept.drew ?_ | refine Kept.setCell ?_ (by simp) _ | refine Kept.alloc ?_ _))) h3 (fun k hk => .inl (fun _ => hk)))
        go_roundw
        case rel =>
          have l1 := hF2.f0.lt
          have l2 := (hF2.last 0 (by decide)).lt
          obtain ⟨xa, hxa, _⟩ := hF2.ahead i (by rw [← HN.out]; omega)
          have l3 := hxa.lt
          obtain ⟨gb, ob, cb, hbv, hbq⟩ := hF2.bytes.get (i := i) (by rw [← HN.out]; omega)
          have l4 : gb < w2.heap.size := World.block_lt_of_cell? w2 ⟨gb, ob + i, none⟩ hbq
          have z0 := hK2.size
          refine ⟨i + n, kn', r2, ps ++ [⟨pk, pb, pl, pd⟩], by omega, by omega, by go_num, by omega, hF2.kept hk0 (fun x hx o hs => ?_), hK2.trans' hk0 (fun x o hx => .inr (hB.out x hx).1), ?_, (fun b hb => ?_), by simp; omega, ?_⟩
          · obtain ⟨_, e1, e2, e3, e4⟩ := hB.out x hs
            rcases hx with e | e | e | e
            · exact e1 e
            · exact e2 e
            · exact e3 e
            · exact e4 e
          · rw [pktCells_append, List.length_append]
            exact h2
          · have hbg : b = g := by simpa [Value.ownBlock] using hb.symm
            rcases h4 b hb with h' | h'
            · exact hB.out b h'
            · have h'' : w2.heap.size + 1 + 1 ≤ b := by simpa using h'
              refine ⟨by omega, by omega, by omega, by omega, fun e => ?_⟩
              rw [hbv] at e
              have : gb = b := by simpa [Value.ownBlock] using e
              omega
          · show find l te dict fr r = _
            rw [hE.out, HST.out]
            simp
        case measure => simp [intOf]; omega
      · have d1 : decide ((i : Int) < (te : Int)) = false := decide_eq_false (by omega)
        have d2 : decide (i < te) = false := decide_eq_false hlt
        obtain rfl : i = te := by omega
        have f3 := hF.f3.1
        have f4 := hF.f4.1
        have f5 := hF.f5.1
        have f6 := hF.f6.1
        have b0 := hK.at_ _ _ _ (by simp) B0
        have b1 := hK.at_ _ _ _ (by simp) B1
        have b2 := hK.at_ _ _ _ (by simp) B2
        have b3 := hK.at_ _ _ _ (by simp) B3
        have g0 := b0.1
        have g1 := b1.1
        have g2 := b2.1
        have g3 := b3.1
        have h0 := b0.2
        have h1 := b1.2
        have h2 := b2.2
        have h3 := b3.2
        have hfx : F.fb ≠ bx := fun e => by have := HS0.out; have := HBX.out; omega
        have hxf : bx ≠ F.fb := fun e => hfx e.symm
        have hBB := hB.out
        have HBB := Lib.hid hBB
        clear hBB
        go_wp2_with fail
        go_region
        go_wp2_with fail
        obtain ⟨w4, hw4⟩ : ∃ w4, w4 = (((wr.setCell ⟨bx, 0, none⟩ (.int .u32 (rr.a : Nat))).setCell ⟨bx, 1, none⟩ (.int .u32 (rr.b : Nat))).setCell ⟨bx, 2, none⟩ (.int .u32 (rr.c : Nat))).setCell ⟨bx, 3, none⟩ (.int .u32 (rr.d : Nat)) := ⟨_, rfl⟩
        have Y0 : At w4 bx 0 (.int .u32 (rr.a : Nat)) := by rw [hw4]; exact (((b0.set _).set_other (by simp) _).set_other (by simp) _).set_other (by simp) _
        have Y1 : At w4 bx 1 (.int .u32 (rr.b : Nat)) := by rw [hw4]; exact (((b1.set_other (by simp) _).set _).set_other (by simp) _).set_other (by simp) _
        have Y2 : At w4 bx 2 (.int .u32 (rr.c : Nat)) := by rw [hw4]; exact (((b2.set_other (by simp) _).set_other (by simp) _).set _).set_other (by simp) _
        have Y3 : At w4 bx 3 (.int .u32 (rr.d : Nat)) := by rw [hw4]; exact (((b3.set_other (by simp) _).set_other (by simp) _).set_other (by simp) _).set _
        have Kb : Kept (fun x _ => x = bx) wr w4 := by rw [hw4]; exact ((((Kept.refl (fun x _ => x = bx) wr).setCell (.inl rfl) _).setCell (.inl rfl) _).setCell (.inl rfl) _).setCell (.inl rfl) _
        have hwb : w.heap.size ≤ bx := by have := HBI.out; have := HBX.out; omega
        have Kw : Kept (fun _ _ => False) w w4 := by rw [hw4]; exact (((((K0.trans hK).setCell (.inr hwb) _).setCell (.inr hwb) _).setCell (.inr hwb) _).setCell (.inr hwb) _)
        rw [← hw4]
        have y0 := Y0.1
        have y1 := Y1.1
        have y2 := Y2.1
        have y3 := Y3.1
        clear hw4 Y0 Y1 Y2 Y3 f3 f4 f5 f6 g0 g1 g2 g3 h0 h1 h2 h3
        have hres : find l i dict fr r = (ps, rr) := by rw [hE.out, find_end l rr (Nat.le_refl _)]; simp
        refine bodyPost_ret (v := .tuple #[u13, .agg #[.int .u32 (rr.a : Nat), .int .u32 (rr.b : Nat), .int .u32 (rr.c : Nat), .int .u32 (rr.d : Nat)]]) (by simp [results, Try.results20, go_sem, y0, y1, y2, y3]) rfl ?_
        rw [hres]
        have hO4 : w4.ownsRow 0 26 4 u13 ps.length (pktCells ps) := Kb.owns hO (fun x hx o hs => by
          have := (HBB.out x hx).1
          have := HS0.out
          have := HBX.out
          omega)
        exact ⟨u13, rfl, PktRow.own ((Kept.refl (fun _ _ => False) w4).drew.owns hO4 (by simp)), fun x hx => by have := (HBB.out x hx).1; have := K0.size; omega, Kw.drew⟩

end Go.Proofs.Ytahhcaooiahleaa
