/- The coder of LZMA: a match. -/
import Derived.Test.YtahhcaooiahleaaCode3
namespace Go.Proofs.Ytahhcaooiahleaa
open Go Go.RowKit

theorem CSOk.treeCount {s : CS} {n : Nat} (h : CSOk s n) (base nb v : Nat) : (s.tree base nb v).e.count ≤ n + nb := CS.treeGo_count nb h.e h.p h.c

theorem CSOk.lenCount {s : CS} {n : Nat} (h : CSOk s n) (base sx v : Nat) : (s.len base sx v).e.count ≤ n + 10 := by
  unfold CS.len
  split
  · exact Nat.le_trans ((h.bit _ _).treeCount _ 3 _) (by omega)
  · split
    · exact Nat.le_trans (((h.bit _ _).bit _ _).treeCount _ 3 _) (by omega)
    · exact Nat.le_trans (((h.bit _ _).bit _ _).treeCount _ 8 _) (by omega)

def CO.codeMatch (c : CO) (l d : Nat) : CO :=
  { c with enc := ((((c.enc.bit (0 + 16 * c.state + c.ctx) 1).bit (192 + c.state) 0).len 819 c.ctx (l - 2)).dist (l - 2) d), state := if c.state < 7 then 7 else 10, r0 := d, r1 := c.r0, r2 := c.r1, r3 := c.r2 }

set_option maxRecDepth 100000 in
set_option maxHeartbeats 4000000 in
theorem lzmac_Code_match {w : World} {A : CA} {ov tv : Value} {c : CO} (h : CoderW w A ov tv c) {b d L : Nat} (hd : (d : Int) < 4294967296) (hlen : c.told.length + 300 < 1099511627776) (hn : c.enc.e.count + 200 < 1099511627776) (hL2 : 2 ≤ L) (hL : L ≤ 273) {l : Int} (hl : l = (L : Int)) (hfit : c.fits 1 l d = true) :
    Calls Try.prog 18 #[.pointer (some ⟨A.cb, 0, none⟩), pktv 1 b l d] w fun e w' =>
      e = .returned (.bool true) ∧ ∃ ov' tv', CStep w w' A ov ov' tv tv' c.n ((c.codeMatch L d).copyN L) := by
  have hf : c.ended = false := by
    cases hh : c.ended with
    | false => rfl
    | true => simp [CO.fits, hh] at hfit
  subst hl
  have iL2 : (2 : Int) ≤ L := by omega
  have iL : (L : Int) ≤ 273 := by omega
  obtain ⟨l, hl⟩ : ∃ l : Int, l = (L : Int) := ⟨_, rfl⟩
  rw [← hl] at hfit iL2 iL ⊢
  have HLL := Lib.hid hl
  clear hl
  obtain ⟨i0, hi, hz0, hz1, hz2⟩ := info_parts Try.info_u8
  go_enter Try.func18, Try.ntmps18
  unfold pktv
  go_wp2_with fail
  have hwl : ∀ o, ¬ CoderS A ov tv c.n w.heap.size o := fun o e => by have := h.wlt e; omega
  obtain ⟨w0, hw0⟩ : ∃ w0, w0 = w.alloc (.cells #[.int .i64 1, .int .u8 (b : Nat), .int .i64 l, .int .u32 (d : Nat)] 26) := ⟨_, rfl⟩
  have K0 : Kept (fun _ _ => False) w w0 := by rw [hw0]; exact Kept.of_alloc _ _ _
  obtain ⟨bx, hbx⟩ : ∃ bx, bx = w.heap.size := ⟨_, rfl⟩
  have hbw : w.heap.size ≤ bx := Nat.le_of_eq hbx.symm
  have hwy : ∀ b, A.Y tv b → b ≠ bx := fun b hb e => by have := h.apart.lt b hb; omega
  have B0 : At w0 bx 0 (.int .i64 1) := by rw [hw0, hbx]; exact At.alloc_new _ _ _ _ _ rfl
  have B1 : At w0 bx 1 (.int .u8 (b : Nat)) := by rw [hw0, hbx]; exact At.alloc_new _ _ _ _ _ rfl
  have B2 : At w0 bx 2 (.int .i64 l) := by rw [hw0, hbx]; exact At.alloc_new _ _ _ _ _ rfl
  have B3 : At w0 bx 3 (.int .u32 (d : Nat)) := by rw [hw0, hbx]; exact At.alloc_new _ _ _ _ _ rfl
  rw [← hbx] at hwl ⊢
  rw [← hw0]
  clear hw0 hbx
  refine (lzmac_Fits (k := 1) (l := l) (b := b) (d := d) (h.kept K0 (by simp)) hd (by omega)).mono ?_
  rintro e w1 ⟨rfl, K1⟩
  rw [hfit]
  have KB := K0.trans K1
  have H1 := h.kept KB (by simp)
  have D0 := K1.at_ _ _ _ (by simp) B0
  have D1 := K1.at_ _ _ _ (by simp) B1
  have D2 := K1.at_ _ _ _ (by simp) B2
  have D3 := K1.at_ _ _ _ (by simp) B3
  clear B0 B1 B2 B3 K0 K1
  have d0 := D0.1
  have d2 := D2.1
  obtain ⟨ao, cap, htv, _⟩ := own_shape h.own
  have c11 := H1.a11.1
  rw [htv] at c11
  have HTV := Lib.hid htv
  clear htv
  have c2 := H1.a2.1
  have c4 := H1.a4.1
  have c5 := H1.a5.1
  have c6 := H1.a6.1
  have hpb := h.may.pb
  obtain ⟨st, hst⟩ : ∃ st, st = c.state := ⟨_, rfl⟩
  obtain ⟨pb, hpb1⟩ : ∃ pb, pb = c.pb := ⟨_, rfl⟩
  obtain ⟨n, hn1⟩ : ∃ n, n = c.told.length := ⟨_, rfl⟩
  have hst12 := h.may.st
  rw [← hst] at c6 hst12
  rw [← hpb1] at c2 hpb
  rw [← hn1] at c11
  have hn2 : (n : Int) < 1099511627776 := by omega
  have hls := low_bits hn2 (k := pb) (by omega)
  obtain ⟨sx, hsx⟩ : ∃ sx, sx = n % 2 ^ pb := ⟨_, rfl⟩
  have hsx16 : sx < 16 := by
    have h1 : 2 ^ pb ≤ 2 ^ 4 := Nat.pow_le_pow_right (by decide) hpb
    have h2 := Nat.mod_lt n (Nat.pow_pos (n := pb) (a := 2) (by decide))
    omega
  rw [← hsx] at hls
  have hst13 : (st : Int) < 12 := by omega
  have hsx17 : (sx : Int) < 16 := by omega
  obtain ⟨om, cm, _, hm1, hm2⟩ := H1.probs.isMatch.2
  obtain ⟨gm, hm3, hm4⟩ := hm2 st hst12
  obtain ⟨gr, hr1, hr2⟩ := H1.probs.rep.2
  have p0 := hm1.1
  have p1 := hm3.1
  have p2 := hr1.1
  have HM4 := Lib.hid hm4
  have HST := Lib.hid hst
  have HPB := Lib.hid hpb1
  have HN := Lib.hid hn1
  have HSX := Lib.hid hsx
  have HR2 := Lib.hid hr2
  clear hm2 hr2 hm4 hst hpb1 hn1 hsx
  go_wp2_with fail
  go_quiet (fail)
  clear hls
  obtain ⟨nq1, hnq1⟩ : ∃ y, y = nq := ⟨_, rfl⟩
  subst hnq1
  go_wp2_with fail
  go_quiet (fail)
  go_wp2_with fail
  obtain ⟨nq2, hnq2⟩ : ∃ y, y = nq1 + nq := ⟨_, rfl⟩
  rw [← hnq2]
  clear hnq2
  have S0 : CStep w1 (w1.drewN nq2) A ov ov tv tv c.n c := ⟨H1.drewN _, NewOr.refl _ _, NewOr.refl _ _, (Kept.refl _ _).drewN _⟩
  have E1 : At (w1.drewN nq2) bx 0 (.int .i64 1) := D0
  obtain ⟨wa, hwa⟩ : ∃ wa, wa = w1.drewN nq2 := ⟨_, rfl⟩
  rw [← hwa] at S0 ⊢
  clear hwa
  have hjm := HM4.out sx hsx16
  refine (renc_Bit S0.co.enc (j := 0 + 16 * st + sx) (by unfold CO.n; omega) (by rw [hjm]) rfl (by omega)).mono ?_
  rintro e w2 ⟨rfl, ov1, hE1⟩
  have T1 := CoderW.encStep S0.co hE1
  have S1 := S0.trans T1
  have hcb1 := EncW.count (j := 0 + 16 * st + sx) (b := 1) S0.co.enc
  have H2 := S1.co
  have q4 := H2.a4.1
  go_wp2_with fail
  refine (renc_Bit H2.enc (j := 192 + st) (by unfold CO.n; omega) (by rw [HR2.out st hst12]) rfl (by dsimp only; omega)).mono ?_
  rintro e w3 ⟨rfl, ov2, hE2⟩
  have T2 := CoderW.encStep H2 hE2
  have S2 := S1.trans T2
  have hcb2 := EncW.count (j := 192 + st) (b := 0) H2.enc
  have H3 := S2.co
  have E30 := S2.kept.at_ _ _ _ (hwl 0) D0
  have E33 := S2.kept.at_ _ _ _ (hwl 3) D3
  have e30 := E30.1
  have e33 := E33.1
  have r7 := H3.a7.1
  have f7 := H3.a7.2
  have r8 := H3.a8.1
  have f8 := H3.a8.2
  have r9 := H3.a9.1
  have f9 := H3.a9.2
  have r10 := H3.a10.1
  have f10 := H3.a10.2
  clear q4
  go_wp2_with fail
  have hcp := fun dc sc ty => reps_copy3 (w := w3.drew) H3.a7.drew H3.a8.drew H3.a9.drew H3.a10.drew rfl rfl rfl dc sc ty
  go_region
  clear hcp
  have hbc : bx ≠ A.cb := fun e => hwl 0 (.inl e)
  have hcbx : A.cb ≠ bx := fun e => hbc e.symm
  go_wp2_with fail
  go_region
  go_wp2_with fail
  have U1 := H3.setR1 (s := c.r0) h.may.r0
  have U2 := U1.co.setR2 (s := c.r1) h.may.r1
  have U3 := U2.co.setR3 (s := c.r2) h.may.r2
  have U0 := U3.co.setR0 (s := d) hd
  have V := CStep.ofKept U0.co ((Kept.refl _ _).drew.drew)
  have S3 := ((((S2.trans U1).trans U2).trans U3).trans U0).trans V
  clear U1 U2 U3 U0 V e30 e33 r7 f7 r8 f8 r9 f9 r10 f10
  obtain ⟨w4, hw4⟩ : ∃ w4, w4 = ((((w3.setCell ⟨A.cb, 8, none⟩ (.int .u32 (c.r0 : Nat))).setCell ⟨A.cb, 9, none⟩ (.int .u32 (c.r1 : Nat))).setCell ⟨A.cb, 10, none⟩ (.int .u32 (c.r2 : Nat))).setCell ⟨A.cb, 7, none⟩ (.int .u32 (d : Nat))).drew.drew := ⟨_, rfl⟩
  rw [← hw4] at S3 ⊢
  clear hw4
  have H4 := S3.co
  have q4 := H4.a4.1
  have q5 := H4.a5.1
  obtain ⟨lb, hlb, hlens⟩ := H4.probs.len
  have p9 := hlb.1
  obtain ⟨v, hv1, hv2⟩ : ∃ v : Nat, l - 2 = (v : Int) ∧ v = L - 2 := ⟨L - 2, by have := HLL.out; omega, rfl⟩
  have HV := Lib.hid hv2
  have hv3 : v < 272 := by omega
  clear hv2
  go_wp2_with fail
  go_still_tail 14, (by kernel_rfl)
  change wpList _ _ _ _ _ w4.drew
  have hv4 : IntKind.i64.wrap (v : Int) = (v : Int) := IntWalk.i64_in _ (by omega)
  rw [hv4]
  go_wp2_with fail
  have hX : Apart w4.drew A.eb ov2 A.pa c.n A.X := ⟨fun b hb => H4.apart.lt b (.inr (.inr hb)), fun b hb => H4.apart.eb b (.inr (.inr hb)), fun b hb => H4.apart.ov b (.inr (.inr hb)), fun b hb => H4.apart.pa b (.inr (.inr hb))⟩
  refine (lens_tell H4.enc.drew (base := 819) (hlens.kept ((Kept.refl (fun _ _ => False) _).drew) (by simp)) hX (by show 819 + 514 ≤ c.n; unfold CO.n; omega) (sx := sx) (v := v) hsx16 hv3 rfl rfl (by dsimp only at *; omega)).mono ?_
  rintro e w5 ⟨rfl, ov4, hE4⟩
  have T4 := CoderW.encStep H4 hE4.ofDrew
  have S4 := S3.trans T4
  clear q4 q5 p9
  go_wp2_with fail
  refine (lzmac_next S4.co (y := 7) (o := 10) (by decide) (by decide) rfl rfl).mono ?_
  rintro e w6 ⟨rfl, T5⟩
  have S5 := S4.trans T5
  have g33 := (S5.kept.at_ _ _ _ (hwl 3) D3).1
  go_wp2_with fail
  have hlc := CSOk.lenCount (s := (c.enc.bit (0 + 16 * st + sx) 1).bit (192 + st) 0) (n := c.enc.e.count + 2) ⟨H3.enc.ok, H3.enc.pok, by first | omega | (dsimp only at *; omega)⟩ 819 sx v
  refine (lzmac_distance S5.co (l := v) (d := d) hv3 hd rfl rfl (by dsimp only; omega)).mono ?_
  rintro e w7 ⟨rfl, ov5, T6⟩
  have S6 := S5.trans T6
  have hcc : ({ c with enc := ((((c.enc.bit (0 + 16 * st + sx) 1).bit (192 + st) 0).len 819 sx v).dist v d), state := if c.state < 7 then 7 else 10, r0 := d, r1 := c.r0, r2 := c.r1, r3 := c.r2 } : CO) = c.codeMatch L d := by
    have hctx : c.ctx = sx := by unfold CO.ctx; rw [HSX.out, HN.out, HPB.out]
    unfold CO.codeMatch
    rw [hctx, HV.out, HST.out]
  have S7 : CStep w1 w7 A ov ov5 tv tv c.n (c.codeMatch L d) := by rw [← hcc]; exact S6
  have hend0 : (c.codeMatch L d).ended = false := hf
  have hlenM : (c.codeMatch L d).told.length + L < 1099511627776 := by show c.told.length + L < _; omega
  clear hcc T4 T5 T6 hlc hX g33 S5 S6
  have hl := HLL.out
  subst hl
  have HE0 := Lib.hid hend0
  clear hend0
  have HC := S7.co
  have t12 := HC.a12.1
  have hend : ((c.codeMatch L d)).ended = false := by exact HE0.out
  rw [hend] at t12
  have L0 := Lib.hid hend
  clear hend
  go_wp2_with fail
  go_loopw [236] (fun i wr => ∃ (j : Nat) (ov' tv' : Value), j ≤ L ∧ i = .int .i64 j ∧ CStep w1 wr A ov ov' tv tv' c.n (((c.codeMatch L d)).copyN j)) (fun i _ => L - (intOf i).toNat)
  case atStart => exact ⟨0, _, _, Nat.zero_le _, rfl, S7⟩
  case round =>
    obtain ⟨j, ov', tv', hj, rfl, hS⟩ := hrel
    obtain ⟨k1, k2, k3, k4, k5⟩ := CO.copyN_facts ((c.codeMatch L d)) j
    have KF := Lib.hid (And.intro k1 (And.intro k2 (And.intro k3 (And.intro k4 k5))))
    obtain ⟨cj, hcj⟩ : ∃ cj, cj = ((c.codeMatch L d)).copyN j := ⟨_, rfl⟩
    rw [← hcj] at hS k1 k2 k3 k4 k5
    have HCJ := Lib.hid hcj
    clear hcj
    have hlen2 : cj.told.length < 1099511627776 := by rw [k1]; omega
    have H := hS.co
    have u7 := H.a7.1
    have K3 := Lib.hid k3
    clear k1 k2 k3 k4 k5
    by_cases hlt : j < L
    · have hlen3 : cj.told.length + 1 < 1099511627776 := by rw [HCJ.out, KF.out.1]; omega
      have hdd : decide ((j : Int) < ((L : Nat) : Int)) = true := decide_eq_true (by omega)
      skip
      go_wp2_with fail
      refine (lzmac_back H (d := cj.r0) rfl H.may.r0 hlen2).mono ?_
      rintro e w9 ⟨rfl, hw9⟩
      rw [hw9]
      clear hw9
      have hx256 := CO.at_lt H.may cj.r0
      obtain ⟨x, hx⟩ : ∃ x, x = cj.at_ cj.r0 := ⟨_, rfl⟩
      obtain ⟨y, hy⟩ : ∃ y, y = cj.is cj.r0 := ⟨_, rfl⟩
      rw [← hx] at hx256 ⊢
      rw [← hy]
      have HX := Lib.hid hx
      clear hx hy
      obtain ⟨nj, hnj⟩ : ∃ nj, nj = cj.told.length := ⟨_, rfl⟩
      have hown := H.own
      rw [← hnj] at hown hlen3
      have HNJ := Lib.hid hnj
      clear hnj
      have u11 := H.a11.1
      have hl3 := H.a11.lt
      go_wp2_with (at_builtin; refine wpList_append_new rfl (.tmp 252) (.tmp 254) 35 rfl 5 i0 (.int .u8 0) 1 Try.underlying35 hi hz0 hz1 hz2 rfl tv' _ _ (by simp [Act.eval]) (hown.alloc _) (some ⟨wr.heap.size, 0, none⟩) 1 1 [.int .u8 (x : Nat)] (by simp [Act.eval]) rfl (by simp) (by intro ad h j u hj; match j, hj with | 0, hj => simp at hj h; subst hj; subst h; simp [Addr.add]) (by intro u hu; simp at hu; subst hu; rfl) (by unfold maxLen; omega) (by omega) ?_; intro v' w4 h2 h3 h4 _; obtain ⟨g, cap2, rfl, hg⟩ := own_form h2 (by omega); have hk0 : Kept (fun b _ => tv'.ownBlock = some b) wr w4 := Kept.grown (by (repeat (first | exact Kept.refl _ _ | refine Kept.drewN ?_ _ | refine Kept.drew ?_ | refine Kept.setCell ?_ (by simp) _ | refine Kept.alloc ?_ _))) h3 (fun k hk => .inl (fun _ => hk)); have b11 := hk0.at_ _ _ _ H.tcb H.a11; have d11 := b11.1; have g11 := b11.2)
      go_roundw
      case rel =>
        have h4' : NewOr wr tv' (.slice (some ⟨g, 0, none⟩) (nj + 1) cap2) := h4.old (by simp)
        have S3 := CoderW.push H hx256 hk0 h4' (by rw [← HNJ.out]; exact h2)
        rw [K3.out] at S3
        have S4 := hS.trans S3
        refine ⟨j + 1, ov', .slice (some ⟨g, 0, none⟩) (nj + 1) cap2, by omega, by go_num, ?_⟩
        show CStep w1 _ A ov ov' tv _ c.n { CO.copyN ((c.codeMatch L d)) j with told := (CO.copyN ((c.codeMatch L d)) j).told ++ [(CO.copyN ((c.codeMatch L d)) j).at_ (CO.copyN ((c.codeMatch L d)) j).r0] }
        rw [← HCJ.out, ← HX.out]
        exact S4
      case measure => first | (simp [intOf]; omega) | simp [intOf]
    · have hdd : decide ((j : Int) < ((L : Nat) : Int)) = false := decide_eq_false (by omega)
      obtain rfl : j = L := by omega
      go_wp2_with fail
      go_ret
      have S4 := (CStep.ofKept h KB).trans hS
      rw [HCJ.out] at S4
      refine ⟨rfl, ov', tv', ?_⟩
      skip
      exact S4

end Go.Proofs.Ytahhcaooiahleaa
