/- The coder of LZMA: packets that copy. -/
import Derived.Test.YtahhcaooiahleaaAgain
namespace Go.Proofs.Ytahhcaooiahleaa
open Go Go.RowKit

/-- So many bytes more, each the one at the newest distance. -/
def CO.copyN (c : CO) : Nat → CO
  | 0 => c
  | k + 1 => { CO.copyN c k with told := (CO.copyN c k).told ++ [(CO.copyN c k).at_ (CO.copyN c k).r0] }

theorem CO.copyN_facts (c : CO) (k : Nat) : (c.copyN k).told.length = c.told.length + k ∧ (c.copyN k).enc = c.enc ∧ (c.copyN k).n = c.n ∧ (c.copyN k).ended = c.ended ∧ (c.copyN k).r0 = c.r0 := by
  induction k with
  | zero => exact ⟨rfl, rfl, rfl, rfl, rfl⟩
  | succ k ih =>
    obtain ⟨h1, h2, h3, h4, h5⟩ := ih
    refine ⟨?_, h2, h3, h4, h5⟩
    show ((c.copyN k).told ++ [_]).length = _
    rw [List.length_append, h1]; simp; omega

def CO.codeSingle (c : CO) : CO :=
  { c with enc := (((c.enc.bit (0 + 16 * c.state + c.ctx) 1).bit (192 + c.state) 1).bit (204 + c.state) 0).bit (240 + 16 * c.state + c.ctx) 0, state := if c.state < 7 then 9 else 11 }

set_option maxRecDepth 100000 in
set_option maxHeartbeats 4000000 in
theorem lzmac_Code_single {w : World} {A : CA} {ov tv : Value} {c : CO} (h : CoderW w A ov tv c) {l : Int} {b d : Nat} (hd : (d : Int) < 4294967296) (hlen : c.told.length + 1 < 1099511627776) (hn : c.enc.e.count + 16 < 1099511627776) (hfit : c.fits 6 l d = true) :
    Calls Try.prog 18 #[.pointer (some ⟨A.cb, 0, none⟩), pktv 6 b l d] w fun e w' =>
      e = .returned (.bool true) ∧ ∃ ov' tv', CStep w w' A ov ov' tv tv' c.n (c.codeSingle.copyN 1) := by
  have hf : c.ended = false := by
    cases hh : c.ended with
    | false => rfl
    | true => simp [CO.fits, hh] at hfit
  obtain ⟨i0, hi, hz0, hz1, hz2⟩ := info_parts Try.info_u8
  go_enter Try.func18, Try.ntmps18
  unfold pktv
  go_wp2_with fail
  have hwl : ∀ o, ¬ CoderS A ov tv c.n w.heap.size o := fun o e => by have := h.wlt e; omega
  obtain ⟨w0, hw0⟩ : ∃ w0, w0 = w.alloc (.cells #[.int .i64 6, .int .u8 (b : Nat), .int .i64 l, .int .u32 (d : Nat)] 26) := ⟨_, rfl⟩
  have K0 : Kept (fun _ _ => False) w w0 := by rw [hw0]; exact Kept.of_alloc _ _ _
  obtain ⟨bx, hbx⟩ : ∃ bx, bx = w.heap.size := ⟨_, rfl⟩
  have hbw : w.heap.size ≤ bx := Nat.le_of_eq hbx.symm
  have hwy : ∀ b, A.Y tv b → b ≠ bx := fun b hb e => by have := h.apart.lt b hb; omega
  have B0 : At w0 bx 0 (.int .i64 6) := by rw [hw0, hbx]; exact At.alloc_new _ _ _ _ _ rfl
  have B1 : At w0 bx 1 (.int .u8 (b : Nat)) := by rw [hw0, hbx]; exact At.alloc_new _ _ _ _ _ rfl
  have B2 : At w0 bx 2 (.int .i64 l) := by rw [hw0, hbx]; exact At.alloc_new _ _ _ _ _ rfl
  have B3 : At w0 bx 3 (.int .u32 (d : Nat)) := by rw [hw0, hbx]; exact At.alloc_new _ _ _ _ _ rfl
  rw [← hbx] at hwl ⊢
  rw [← hw0]
  clear hw0 hbx
  refine (lzmac_Fits (k := 6) (l := l) (b := b) (d := d) (h.kept K0 (by simp)) hd (by omega)).mono ?_
  rintro e w1 ⟨rfl, K1⟩
  rw [hfit]
  have KB := K0.trans K1
  have H1 := h.kept KB (by simp)
  have D0 := K1.at_ _ _ _ (by simp) B0
  have D1 := K1.at_ _ _ _ (by simp) B1
  have D2 := K1.at_ _ _ _ (by simp) B2
  have D3 := K1.at_ _ _ _ (by simp) B3
  clear B0 B1 B2 B3 K0 K1
  have d0 := D0.1
  have d2 := D2.1
  obtain ⟨ao, cap, htv, _⟩ := own_shape h.own
  have c11 := H1.a11.1
  rw [htv] at c11
  have HTV := Lib.hid htv
  clear htv
  have c2 := H1.a2.1
  have c4 := H1.a4.1
  have c5 := H1.a5.1
  have c6 := H1.a6.1
  have hpb := h.may.pb
  obtain ⟨st, hst⟩ : ∃ st, st = c.state := ⟨_, rfl⟩
  obtain ⟨pb, hpb1⟩ : ∃ pb, pb = c.pb := ⟨_, rfl⟩
  obtain ⟨n, hn1⟩ : ∃ n, n = c.told.length := ⟨_, rfl⟩
  have hst12 := h.may.st
  rw [← hst] at c6 hst12
  rw [← hpb1] at c2 hpb
  rw [← hn1] at c11
  have hn2 : (n : Int) < 1099511627776 := by omega
  have hls := low_bits hn2 (k := pb) (by omega)
  obtain ⟨sx, hsx⟩ : ∃ sx, sx = n % 2 ^ pb := ⟨_, rfl⟩
  have hsx16 : sx < 16 := by
    have h1 : 2 ^ pb ≤ 2 ^ 4 := Nat.pow_le_pow_right (by decide) hpb
    have h2 := Nat.mod_lt n (Nat.pow_pos (n := pb) (a := 2) (by decide))
    omega
  rw [← hsx] at hls
  have hst13 : (st : Int) < 12 := by omega
  have hsx17 : (sx : Int) < 16 := by omega
  obtain ⟨om, cm, _, hm1, hm2⟩ := H1.probs.isMatch.2
  obtain ⟨gm, hm3, hm4⟩ := hm2 st hst12
  obtain ⟨gr, hr1, hr2⟩ := H1.probs.rep.2
  have p0 := hm1.1
  have p1 := hm3.1
  have p2 := hr1.1
  have HM4 := Lib.hid hm4
  have HST := Lib.hid hst
  have HPB := Lib.hid hpb1
  have HN := Lib.hid hn1
  have HSX := Lib.hid hsx
  have HR2 := Lib.hid hr2
  clear hm2 hr2 hm4 hst hpb1 hn1 hsx
  go_wp2_with fail
  go_quiet (fail)
  clear hls
  obtain ⟨nq1, hnq1⟩ : ∃ y, y = nq := ⟨_, rfl⟩
  subst hnq1
  go_wp2_with fail
  go_quiet (fail)
  go_wp2_with fail
  obtain ⟨nq2, hnq2⟩ : ∃ y, y = nq1 + nq := ⟨_, rfl⟩
  rw [← hnq2]
  clear hnq2
  have S0 : CStep w1 (w1.drewN nq2) A ov ov tv tv c.n c := ⟨H1.drewN _, NewOr.refl _ _, NewOr.refl _ _, (Kept.refl _ _).drewN _⟩
  have E1 : At (w1.drewN nq2) bx 0 (.int .i64 6) := D0
  obtain ⟨wa, hwa⟩ : ∃ wa, wa = w1.drewN nq2 := ⟨_, rfl⟩
  rw [← hwa] at S0 ⊢
  clear hwa
  have hjm := HM4.out sx hsx16
  refine (renc_Bit S0.co.enc (j := 0 + 16 * st + sx) (by unfold CO.n; omega) (by rw [hjm]) rfl (by omega)).mono ?_
  rintro e w2 ⟨rfl, ov1, hE1⟩
  have T1 := CoderW.encStep S0.co hE1
  have S1 := S0.trans T1
  have hcb1 := EncW.count (j := 0 + 16 * st + sx) (b := 1) S0.co.enc
  have H2 := S1.co
  have q4 := H2.a4.1
  have q5 := H2.a5.1
  have q6 := H2.a6.1
  dsimp only at q6
  rw [← HST.out] at q6
  go_wp2_with fail
  refine (renc_Bit H2.enc (j := 192 + st) (by unfold CO.n; omega) (by rw [HR2.out st hst12]) rfl (by dsimp only; omega)).mono ?_
  rintro e w3 ⟨rfl, ov2, hE2⟩
  have T2 := CoderW.encStep H2 hE2
  have S2 := S1.trans T2
  have hcb2 := EncW.count (j := 192 + st) (b := 1) H2.enc
  have H3 := S2.co
  clear q4 q5 q6
  have q4 := H3.a4.1
  have q5 := H3.a5.1
  have q6 := H3.a6.1
  dsimp only at q6
  rw [← HST.out] at q6
  obtain ⟨g0, hg1, hg2⟩ := H3.probs.rep0.2
  have p3 := hg1.1
  have HG2 := Lib.hid hg2
  clear hg2
  go_wp2_with fail
  go_still_tail 16, (by kernel_rfl)
  change wpList _ _ _ _ _ w3.drew
  go_wp2_with fail
  refine (renc_Bit H3.enc.drew (j := 204 + st) (by unfold CO.n; omega) (by rw [HG2.out st (by omega)]) rfl (by dsimp only at *; omega)).mono ?_
  rintro e w4 ⟨rfl, ov3, hE3⟩
  have T3 := CoderW.encStep H3 hE3.ofDrew
  have S3 := S2.trans T3
  have hcb3 := EncW.count (j := 204 + st) (b := 0) H3.enc
  have H4 := S3.co
  clear q4 q5 q6 p3
  have q4 := H4.a4.1
  have q5 := H4.a5.1
  have q6 := H4.a6.1
  dsimp only at q6
  rw [← HST.out] at q6
  obtain ⟨ol, cl, _, hl1, hl2⟩ := H4.probs.long.2
  obtain ⟨gl, hl3, hl4⟩ := hl2 st hst12
  have p4 := hl1.1
  have p5 := hl3.1
  have HL4 := Lib.hid hl4
  clear hl2 hl4
  go_wp2_with fail
  go_still_tail 19, (by kernel_rfl)
  change wpList _ _ _ _ _ w4.drew
  go_wp2_with fail
  refine (renc_Bit H4.enc.drew (j := 240 + 16 * st + sx) (by unfold CO.n; omega) (by rw [HL4.out sx hsx16]) rfl (by dsimp only at *; omega)).mono ?_
  rintro e w5 ⟨rfl, ov4, hE4⟩
  have T4 := CoderW.encStep H4 hE4.ofDrew
  have S4 := S3.trans T4
  clear q4 q5 q6 p4 p5
  go_wp2_with fail
  refine (lzmac_next S4.co (y := 9) (o := 11) (by decide) (by decide) rfl rfl).mono ?_
  rintro e w6 ⟨rfl, T5⟩
  have S5 := S4.trans T5
  have hcc : ({ { c with enc := (((c.enc.bit (0 + 16 * st + sx) 1).bit (192 + st) 1).bit (204 + st) 0).bit (240 + 16 * st + sx) 0 } with state := if c.state < 7 then 9 else 11 } : CO) = c.codeSingle := by
    unfold CO.codeSingle CO.ctx
    rw [HST.out, HSX.out, HN.out, HPB.out]
  rw [hcc] at S5
  clear hcc
  have hlenM : c.codeSingle.told.length + 1 < 1099511627776 := hlen
  have HC := S5.co
  have t12 := HC.a12.1
  have hend : (c.codeSingle).ended = false := by exact hf
  rw [hend] at t12
  have L0 := Lib.hid hend
  clear hend
  go_wp2_with fail
  go_loopw [236] (fun i wr => ∃ (j : Nat) (ov' tv' : Value), j ≤ 1 ∧ i = .int .i64 j ∧ CStep w1 wr A ov ov' tv tv' c.n ((c.codeSingle).copyN j)) (fun i _ => 1 - (intOf i).toNat)
  case atStart => exact ⟨0, _, _, Nat.zero_le _, rfl, S5⟩
  case round =>
    obtain ⟨j, ov', tv', hj, rfl, hS⟩ := hrel
    obtain ⟨k1, k2, k3, k4, k5⟩ := CO.copyN_facts (c.codeSingle) j
    have KF := Lib.hid (And.intro k1 (And.intro k2 (And.intro k3 (And.intro k4 k5))))
    obtain ⟨cj, hcj⟩ : ∃ cj, cj = (c.codeSingle).copyN j := ⟨_, rfl⟩
    rw [← hcj] at hS k1 k2 k3 k4 k5
    have HCJ := Lib.hid hcj
    clear hcj
    have hlen2 : cj.told.length < 1099511627776 := by rw [k1]; omega
    have H := hS.co
    have u7 := H.a7.1
    have K3 := Lib.hid k3
    clear k1 k2 k3 k4 k5
    by_cases hlt : j < 1
    · have hlen3 : cj.told.length + 1 < 1099511627776 := by rw [HCJ.out, KF.out.1]; omega
      have hdd : decide ((j : Int) < ((1 : Nat) : Int)) = true := decide_eq_true (by omega)
      obtain rfl : j = 0 := by omega
      go_wp2_with fail
      refine (lzmac_back H (d := cj.r0) rfl H.may.r0 hlen2).mono ?_
      rintro e w9 ⟨rfl, hw9⟩
      rw [hw9]
      clear hw9
      have hx256 := CO.at_lt H.may cj.r0
      obtain ⟨x, hx⟩ : ∃ x, x = cj.at_ cj.r0 := ⟨_, rfl⟩
      obtain ⟨y, hy⟩ : ∃ y, y = cj.is cj.r0 := ⟨_, rfl⟩
      rw [← hx] at hx256 ⊢
      rw [← hy]
      have HX := Lib.hid hx
      clear hx hy
      obtain ⟨nj, hnj⟩ : ∃ nj, nj = cj.told.length := ⟨_, rfl⟩
      have hown := H.own
      rw [← hnj] at hown hlen3
      have HNJ := Lib.hid hnj
      clear hnj
      have u11 := H.a11.1
      have hl3 := H.a11.lt
      go_wp2_with (at_builtin; refine wpList_append_new rfl (.tmp 252) (.tmp 254) 35 rfl 5 i0 (.int .u8 0) 1 Try.underlying35 hi hz0 hz1 hz2 rfl tv' _ _ (by simp [Act.eval]) (hown.alloc _) (some ⟨wr.heap.size, 0, none⟩) 1 1 [.int .u8 (x : Nat)] (by simp [Act.eval]) rfl (by simp) (by intro ad h j u hj; match j, hj with | 0, hj => simp at hj h; subst hj; subst h; simp [Addr.add]) (by intro u hu; simp at hu; subst hu; rfl) (by unfold maxLen; omega) (by omega) ?_; intro v' w4 h2 h3 h4 _; obtain ⟨g, cap2, rfl, hg⟩ := own_form h2 (by omega); have hk0 : Kept (fun b _ => tv'.ownBlock = some b) wr w4 := Kept.grown (by (repeat (first | exact Kept.refl _ _ | refine Kept.drewN ?_ _ | refine Kept.drew ?_ | refine Kept.setCell ?_ (by simp) _ | refine Kept.alloc ?_ _))) h3 (fun k hk => .inl (fun _ => hk)); have b11 := hk0.at_ _ _ _ H.tcb H.a11; have d11 := b11.1; have g11 := b11.2)
      go_roundw
      case rel =>
        have h4' : NewOr wr tv' (.slice (some ⟨g, 0, none⟩) (nj + 1) cap2) := h4.old (by simp)
        have S3 := CoderW.push H hx256 hk0 h4' (by rw [← HNJ.out]; exact h2)
        rw [K3.out] at S3
        have S4 := hS.trans S3
        refine ⟨0 + 1, ov', .slice (some ⟨g, 0, none⟩) (nj + 1) cap2, by omega, by go_num, ?_⟩
        show CStep w1 _ A ov ov' tv _ c.n { CO.copyN (c.codeSingle) 0 with told := (CO.copyN (c.codeSingle) 0).told ++ [(CO.copyN (c.codeSingle) 0).at_ (CO.copyN (c.codeSingle) 0).r0] }
        rw [← HCJ.out, ← HX.out]
        exact S4
      case measure => first | (simp [intOf]; omega) | simp [intOf]
    · have hdd : decide ((j : Int) < ((1 : Nat) : Int)) = false := decide_eq_false (by omega)
      obtain rfl : j = 1 := by omega
      go_wp2_with fail
      go_ret
      have S4 := (CStep.ofKept h KB).trans hS
      rw [HCJ.out] at S4
      refine ⟨rfl, ov', tv', ?_⟩
      skip
      exact S4

end Go.Proofs.Ytahhcaooiahleaa
