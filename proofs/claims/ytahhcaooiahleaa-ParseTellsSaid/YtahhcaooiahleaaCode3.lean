/- The coder of LZMA: a packet that copies at an elder distance. -/
import Derived.Test.YtahhcaooiahleaaCode2
import Derived.Test.YtahhcaooiahleaaFirst
namespace Go.Proofs.Ytahhcaooiahleaa
open Go Go.RowKit

theorem Apart.sub {w : World} {eb : Nat} {ov : Value} {pa : Nat → Nat × Nat} {n : Nat} {Y X : Nat → Prop} (h : Apart w eb ov pa n Y) (hs : ∀ b, X b → Y b) : Apart w eb ov pa n X :=
  ⟨fun b hb => h.lt b (hs b hb), fun b hb => h.eb b (hs b hb), fun b hb => h.ov b (hs b hb), fun b hb => h.pa b (hs b hb)⟩

/-- Which of the elder distances comes first. -/
def CO.again (c : CO) (k sx : Nat) : CO :=
  match k with
  | 0 => { c with enc := (c.enc.bit (204 + c.state) 0).bit (240 + (16 * c.state + sx)) 1 }
  | 1 => { c with enc := (c.enc.bit (204 + c.state) 1).bit (216 + c.state) 0, r0 := c.r1, r1 := c.r0 }
  | 2 => { c with enc := ((c.enc.bit (204 + c.state) 1).bit (216 + c.state) 1).bit (228 + c.state) 0, r0 := c.r2, r1 := c.r0, r2 := c.r1 }
  | _ => { c with enc := ((c.enc.bit (204 + c.state) 1).bit (216 + c.state) 1).bit (228 + c.state) 1, r0 := c.r3, r1 := c.r0, r2 := c.r1, r3 := c.r2 }

theorem lzmac_again {w : World} {A : CA} {ov tv : Value} {c : CO} (h : CoderW w A ov tv c) {k sx : Nat} (hk : k < 4) (hsx : sx < 16) {zk zs : Int} (hzk : zk = (k : Int)) (hzs : zs = (sx : Int)) (hn : c.enc.e.count + 20 < 1099511627776) :
    Calls Try.prog 51 #[.pointer (some ⟨A.cb, 0, none⟩), .int .i64 zk, .int .i64 zs] w fun e w' =>
      e = .returned (.tuple #[]) ∧ ∃ ov', CStep w w' A ov ov' tv tv c.n (c.again k sx) := by
  subst hzk
  obtain rfl | rfl | rfl | rfl : k = 0 ∨ k = 1 ∨ k = 2 ∨ k = 3 := by omega
  · exact lzmac_again_0 h hsx hzs hn
  · exact lzmac_again_1 h hsx hzs hn
  · exact lzmac_again_2 h hsx hzs hn
  · exact lzmac_again_3 h hsx hzs hn

theorem CO.again_facts (c : CO) (k sx : Nat) : (c.again k sx).told = c.told ∧ (c.again k sx).n = c.n ∧ (c.again k sx).ended = c.ended ∧ (c.again k sx).state = c.state ∧ (c.again k sx).lc = c.lc ∧ (c.again k sx).lp = c.lp ∧ (c.again k sx).pb = c.pb ∧ (c.again k sx).dict = c.dict := by
  unfold CO.again
  split <;> exact ⟨rfl, rfl, rfl, rfl, rfl, rfl, rfl, rfl⟩

def CO.codeAgain (c : CO) (k l : Nat) : CO :=
  let c1 := { c with enc := (c.enc.bit (0 + 16 * c.state + c.ctx) 1).bit (192 + c.state) 1 }
  let c2 := c1.again k c.ctx
  { c2 with enc := c2.enc.len 1333 c.ctx (l - 2), state := if c.state < 7 then 8 else 11 }

theorem CO.again_ok {c : CO} {n : Nat} (h : CSOk c.enc n) (k sx : Nat) : CSOk (c.again k sx).enc (n + 3) := by
  have w2 : ∀ {s : CS}, CSOk s (n + 2) → CSOk s (n + 3) := fun h => ⟨h.e, h.p, Nat.le_succ_of_le h.c⟩
  unfold CO.again
  split
  · exact w2 ((h.bit _ _).bit _ _)
  · exact w2 ((h.bit _ _).bit _ _)
  · exact ((h.bit _ _).bit _ _).bit _ _
  · exact ((h.bit _ _).bit _ _).bit _ _


set_option maxRecDepth 100000 in
set_option maxHeartbeats 4000000 in
theorem lzmac_Code_again0 {w : World} {A : CA} {ov tv : Value} {c : CO} (h : CoderW w A ov tv c) {b d L : Nat} (hd : (d : Int) < 4294967296) (hlen : c.told.length + 300 < 1099511627776) (hn : c.enc.e.count + 100 < 1099511627776) (hL2 : 2 ≤ L) (hL : L ≤ 273) {l : Int} (hl : l = (L : Int)) (hfit : c.fits 2 l d = true) :
    Calls Try.prog 18 #[.pointer (some ⟨A.cb, 0, none⟩), pktv 2 b l d] w fun e w' =>
      e = .returned (.bool true) ∧ ∃ ov' tv', CStep w w' A ov ov' tv tv' c.n ((c.codeAgain 0 L).copyN L) := by
  have hf : c.ended = false := by
    cases hh : c.ended with
    | false => rfl
    | true => simp [CO.fits, hh] at hfit
  subst hl
  have iL2 : (2 : Int) ≤ L := by omega
  have iL : (L : Int) ≤ 273 := by omega
  obtain ⟨l, hl⟩ : ∃ l : Int, l = (L : Int) := ⟨_, rfl⟩
  rw [← hl] at hfit iL2 iL ⊢
  have HLL := Lib.hid hl
  clear hl
  obtain ⟨i0, hi, hz0, hz1, hz2⟩ := info_parts Try.info_u8
  go_enter Try.func18, Try.ntmps18
  unfold pktv
  go_wp2_with fail
  have hwl : ∀ o, ¬ CoderS A ov tv c.n w.heap.size o := fun o e => by have := h.wlt e; omega
  obtain ⟨w0, hw0⟩ : ∃ w0, w0 = w.alloc (.cells #[.int .i64 2, .int .u8 (b : Nat), .int .i64 l, .int .u32 (d : Nat)] 26) := ⟨_, rfl⟩
  have K0 : Kept (fun _ _ => False) w w0 := by rw [hw0]; exact Kept.of_alloc _ _ _
  obtain ⟨bx, hbx⟩ : ∃ bx, bx = w.heap.size := ⟨_, rfl⟩
  have hbw : w.heap.size ≤ bx := Nat.le_of_eq hbx.symm
  have hwy : ∀ b, A.Y tv b → b ≠ bx := fun b hb e => by have := h.apart.lt b hb; omega
  have B0 : At w0 bx 0 (.int .i64 2) := by rw [hw0, hbx]; exact At.alloc_new _ _ _ _ _ rfl
  have B1 : At w0 bx 1 (.int .u8 (b : Nat)) := by rw [hw0, hbx]; exact At.alloc_new _ _ _ _ _ rfl
  have B2 : At w0 bx 2 (.int .i64 l) := by rw [hw0, hbx]; exact At.alloc_new _ _ _ _ _ rfl
  have B3 : At w0 bx 3 (.int .u32 (d : Nat)) := by rw [hw0, hbx]; exact At.alloc_new _ _ _ _ _ rfl
  rw [← hbx] at hwl ⊢
  rw [← hw0]
  clear hw0 hbx
  refine (lzmac_Fits (k := 2) (l := l) (b := b) (d := d) (h.kept K0 (by simp)) hd (by omega)).mono ?_
  rintro e w1 ⟨rfl, K1⟩
  rw [hfit]
  have KB := K0.trans K1
  have H1 := h.kept KB (by simp)
  have D0 := K1.at_ _ _ _ (by simp) B0
  have D1 := K1.at_ _ _ _ (by simp) B1
  have D2 := K1.at_ _ _ _ (by simp) B2
  have D3 := K1.at_ _ _ _ (by simp) B3
  clear B0 B1 B2 B3 K0 K1
  have d0 := D0.1
  have d2 := D2.1
  obtain ⟨ao, cap, htv, _⟩ := own_shape h.own
  have c11 := H1.a11.1
  rw [htv] at c11
  have HTV := Lib.hid htv
  clear htv
  have c2 := H1.a2.1
  have c4 := H1.a4.1
  have c5 := H1.a5.1
  have c6 := H1.a6.1
  have hpb := h.may.pb
  obtain ⟨st, hst⟩ : ∃ st, st = c.state := ⟨_, rfl⟩
  obtain ⟨pb, hpb1⟩ : ∃ pb, pb = c.pb := ⟨_, rfl⟩
  obtain ⟨n, hn1⟩ : ∃ n, n = c.told.length := ⟨_, rfl⟩
  have hst12 := h.may.st
  rw [← hst] at c6 hst12
  rw [← hpb1] at c2 hpb
  rw [← hn1] at c11
  have hn2 : (n : Int) < 1099511627776 := by omega
  have hls := low_bits hn2 (k := pb) (by omega)
  obtain ⟨sx, hsx⟩ : ∃ sx, sx = n % 2 ^ pb := ⟨_, rfl⟩
  have hsx16 : sx < 16 := by
    have h1 : 2 ^ pb ≤ 2 ^ 4 := Nat.pow_le_pow_right (by decide) hpb
    have h2 := Nat.mod_lt n (Nat.pow_pos (n := pb) (a := 2) (by decide))
    omega
  rw [← hsx] at hls
  have hst13 : (st : Int) < 12 := by omega
  have hsx17 : (sx : Int) < 16 := by omega
  obtain ⟨om, cm, _, hm1, hm2⟩ := H1.probs.isMatch.2
  obtain ⟨gm, hm3, hm4⟩ := hm2 st hst12
  obtain ⟨gr, hr1, hr2⟩ := H1.probs.rep.2
  have p0 := hm1.1
  have p1 := hm3.1
  have p2 := hr1.1
  have HM4 := Lib.hid hm4
  have HST := Lib.hid hst
  have HPB := Lib.hid hpb1
  have HN := Lib.hid hn1
  have HSX := Lib.hid hsx
  have HR2 := Lib.hid hr2
  clear hm2 hr2 hm4 hst hpb1 hn1 hsx
  go_wp2_with fail
  go_quiet (fail)
  clear hls
  obtain ⟨nq1, hnq1⟩ : ∃ y, y = nq := ⟨_, rfl⟩
  subst hnq1
  go_wp2_with fail
  go_quiet (fail)
  go_wp2_with fail
  obtain ⟨nq2, hnq2⟩ : ∃ y, y = nq1 + nq := ⟨_, rfl⟩
  rw [← hnq2]
  clear hnq2
  have S0 : CStep w1 (w1.drewN nq2) A ov ov tv tv c.n c := ⟨H1.drewN _, NewOr.refl _ _, NewOr.refl _ _, (Kept.refl _ _).drewN _⟩
  have E1 : At (w1.drewN nq2) bx 0 (.int .i64 2) := D0
  obtain ⟨wa, hwa⟩ : ∃ wa, wa = w1.drewN nq2 := ⟨_, rfl⟩
  rw [← hwa] at S0 ⊢
  clear hwa
  have hjm := HM4.out sx hsx16
  refine (renc_Bit S0.co.enc (j := 0 + 16 * st + sx) (by unfold CO.n; omega) (by rw [hjm]) rfl (by omega)).mono ?_
  rintro e w2 ⟨rfl, ov1, hE1⟩
  have T1 := CoderW.encStep S0.co hE1
  have S1 := S0.trans T1
  have hcb1 := EncW.count (j := 0 + 16 * st + sx) (b := 1) S0.co.enc
  have H2 := S1.co
  have q4 := H2.a4.1
  go_wp2_with fail
  refine (renc_Bit H2.enc (j := 192 + st) (by unfold CO.n; omega) (by rw [HR2.out st hst12]) rfl (by dsimp only; omega)).mono ?_
  rintro e w3 ⟨rfl, ov2, hE2⟩
  have T2 := CoderW.encStep H2 hE2
  have S2 := S1.trans T2
  have hcb2 := EncW.count (j := 192 + st) (b := 1) H2.enc
  have H3 := S2.co
  have E3 := (S2.kept.at_ _ _ _ (hwl 0) D0)
  have e3 := E3.1
  clear q4
  go_wp2_with fail
  refine (lzmac_again H3 (k := 0) (sx := sx) (by decide) hsx16 rfl rfl (by dsimp only at *; omega)).mono ?_
  rintro e w4 ⟨rfl, ov3, T3⟩
  have S3 := S2.trans T3
  obtain ⟨ca, hca⟩ : ∃ ca, ca = CO.again { c with enc := (c.enc.bit (0 + 16 * st + sx) 1).bit (192 + st) 1 } 0 sx := ⟨_, rfl⟩
  rw [← hca] at S3
  obtain ⟨a1, a2, a3, a4, _⟩ := CO.again_facts { c with enc := (c.enc.bit (0 + 16 * st + sx) 1).bit (192 + st) 1 } 0 sx
  have aok := CO.again_ok (c := { c with enc := (c.enc.bit (0 + 16 * st + sx) 1).bit (192 + st) 1 }) (n := c.enc.e.count + 2) ⟨H3.enc.ok, H3.enc.pok, by dsimp only at *; omega⟩ 0 sx
  rw [← hca] at a1 a2 a3 a4 aok
  have a2' : ca.n = c.n := a2
  have HCA := Lib.hid (And.intro hca (And.intro a1 (And.intro a2' (And.intro a3 (And.intro a4 aok)))))
  clear hca a1 a2 a2' a3 a4 aok T3
  have H4 := S3.co
  have q4 := H4.a4.1
  have q5 := H4.a5.1
  obtain ⟨lb, hlb, hlens⟩ := H4.probs.repLen
  have p10 := hlb.1
  obtain ⟨v, hv1, hv2⟩ : ∃ v : Nat, l - 2 = (v : Int) ∧ v = L - 2 := ⟨L - 2, by have := HLL.out; omega, rfl⟩
  have HV := Lib.hid hv2
  have hv3 : v < 272 := by omega
  clear hv2
  go_wp2_with fail
  go_still_tail 14, (by kernel_rfl)
  change wpList _ _ _ _ _ w4.drew
  have hv4 : IntKind.i64.wrap (v : Int) = (v : Int) := IntWalk.i64_in _ (by omega)
  rw [hv4]
  clear hv4
  go_wp2_with fail
  have hX : Apart w4.drew A.eb ov3 A.pa ca.n A.X := ⟨fun b hb => H4.apart.lt b (.inr (.inr hb)), fun b hb => H4.apart.eb b (.inr (.inr hb)), fun b hb => H4.apart.ov b (.inr (.inr hb)), fun b hb => H4.apart.pa b (.inr (.inr hb))⟩
  have hcnt := HCA.out.2.2.2.2.2.c
  refine (lens_tell H4.enc.drew (base := 1333) (hlens.kept ((Kept.refl (fun _ _ => False) _).drew) (by simp)) hX (by rw [HCA.out.2.2.1]; unfold CO.n; omega) (sx := sx) (v := v) hsx16 hv3 rfl rfl (by omega)).mono ?_
  rintro e w5 ⟨rfl, ov4, hE4⟩
  have T4 := CoderW.encStep H4 hE4.ofDrew
  rw [HCA.out.2.2.1] at T4
  have S4 := S3.trans T4
  clear q4 q5 p10 hv1
  go_wp2_with fail
  refine (lzmac_next S4.co (y := 8) (o := 11) (by decide) (by decide) rfl rfl).mono ?_
  rintro e w6 ⟨rfl, T5⟩
  have T5' : CStep w5 w6 A ov4 ov4 tv tv c.n { { ca with enc := ca.enc.len 1333 sx v } with state := if ca.state < 7 then 8 else 11 } := by
    have hn5 : ({ ca with enc := ca.enc.len 1333 sx v } : CO).n = c.n := HCA.out.2.2.1
    rw [← hn5]; exact T5
  have S5 := S4.trans T5'
  have hcc : ({ { ca with enc := ca.enc.len 1333 sx v } with state := if ca.state < 7 then 8 else 11 } : CO) = c.codeAgain 0 L := by
    have hctx : c.ctx = sx := by unfold CO.ctx; rw [HSX.out, HN.out, HPB.out]
    have hcs : ca.state = c.state := HCA.out.2.2.2.2.1
    unfold CO.codeAgain
    dsimp only
    rw [hctx, hcs, HV.out, HCA.out.1, HST.out]
  rw [hcc] at S5
  have hend0 : (c.codeAgain 0 L).ended = false := by rw [← hcc]; show ca.ended = false; rw [HCA.out.2.2.2.1]; exact hf
  have hlenM : (c.codeAgain 0 L).told.length + L < 1099511627776 := by rw [← hcc]; show ca.told.length + L < _; rw [HCA.out.2.1]; show c.told.length + L < _; omega
  clear hcc T5 T5' T4 hcnt hX
  have hl := HLL.out
  subst hl
  have HE0 := Lib.hid hend0
  clear hend0
  have HC := S5.co
  have t12 := HC.a12.1
  have hend : ((c.codeAgain 0 L)).ended = false := by exact HE0.out
  rw [hend] at t12
  have L0 := Lib.hid hend
  clear hend
  go_wp2_with fail
  go_loopw [236] (fun i wr => ∃ (j : Nat) (ov' tv' : Value), j ≤ L ∧ i = .int .i64 j ∧ CStep w1 wr A ov ov' tv tv' c.n (((c.codeAgain 0 L)).copyN j)) (fun i _ => L - (intOf i).toNat)
  case atStart => exact ⟨0, _, _, Nat.zero_le _, rfl, S5⟩
  case round =>
    obtain ⟨j, ov', tv', hj, rfl, hS⟩ := hrel
    obtain ⟨k1, k2, k3, k4, k5⟩ := CO.copyN_facts ((c.codeAgain 0 L)) j
    have KF := Lib.hid (And.intro k1 (And.intro k2 (And.intro k3 (And.intro k4 k5))))
    obtain ⟨cj, hcj⟩ : ∃ cj, cj = ((c.codeAgain 0 L)).copyN j := ⟨_, rfl⟩
    rw [← hcj] at hS k1 k2 k3 k4 k5
    have HCJ := Lib.hid hcj
    clear hcj
    have hlen2 : cj.told.length < 1099511627776 := by rw [k1]; omega
    have H := hS.co
    have u7 := H.a7.1
    have K3 := Lib.hid k3
    clear k1 k2 k3 k4 k5
    by_cases hlt : j < L
    · have hlen3 : cj.told.length + 1 < 1099511627776 := by rw [HCJ.out, KF.out.1]; omega
      have hdd : decide ((j : Int) < ((L : Nat) : Int)) = true := decide_eq_true (by omega)
      skip
      go_wp2_with fail
      refine (lzmac_back H (d := cj.r0) rfl H.may.r0 hlen2).mono ?_
      rintro e w9 ⟨rfl, hw9⟩
      rw [hw9]
      clear hw9
      have hx256 := CO.at_lt H.may cj.r0
      obtain ⟨x, hx⟩ : ∃ x, x = cj.at_ cj.r0 := ⟨_, rfl⟩
      obtain ⟨y, hy⟩ : ∃ y, y = cj.is cj.r0 := ⟨_, rfl⟩
      rw [← hx] at hx256 ⊢
      rw [← hy]
      have HX := Lib.hid hx
      clear hx hy
      obtain ⟨nj, hnj⟩ : ∃ nj, nj = cj.told.length := ⟨_, rfl⟩
      have hown := H.own
      rw [← hnj] at hown hlen3
      have HNJ := Lib.hid hnj
      clear hnj
      have u11 := H.a11.1
      have hl3 := H.a11.lt
      go_wp2_with (at_builtin; refine wpList_append_new rfl (.tmp 252) (.tmp 254) 35 rfl 5 i0 (.int .u8 0) 1 Try.underlying35 hi hz0 hz1 hz2 rfl tv' _ _ (by simp [Act.eval]) (hown.alloc _) (some ⟨wr.heap.size, 0, none⟩) 1 1 [.int .u8 (x : Nat)] (by simp [Act.eval]) rfl (by simp) (by intro ad h j u hj; match j, hj with | 0, hj => simp at hj h; subst hj; subst h; simp [Addr.add]) (by intro u hu; simp at hu; subst hu; rfl) (by unfold maxLen; omega) (by omega) ?_; intro v' w4 h2 h3 h4 _; obtain ⟨g, cap2, rfl, hg⟩ := own_form h2 (by omega); have hk0 : Kept (fun b _ => tv'.ownBlock = some b) wr w4 := Kept.grown (by (repeat (first | exact Kept.refl _ _ | refine Kept.drewN ?_ _ | refine Kept.drew ?_ | refine Kept.setCell ?_ (by simp) _ | refine Kept.alloc ?_ _))) h3 (fun k hk => .inl (fun _ => hk)); have b11 := hk0.at_ _ _ _ H.tcb H.a11; have d11 := b11.1; have g11 := b11.2)
      go_roundw
      case rel =>
        have h4' : NewOr wr tv' (.slice (some ⟨g, 0, none⟩) (nj + 1) cap2) := h4.old (by simp)
        have S3 := CoderW.push H hx256 hk0 h4' (by rw [← HNJ.out]; exact h2)
        rw [K3.out] at S3
        have S4 := hS.trans S3
        refine ⟨j + 1, ov', .slice (some ⟨g, 0, none⟩) (nj + 1) cap2, by omega, by go_num, ?_⟩
        show CStep w1 _ A ov ov' tv _ c.n { CO.copyN ((c.codeAgain 0 L)) j with told := (CO.copyN ((c.codeAgain 0 L)) j).told ++ [(CO.copyN ((c.codeAgain 0 L)) j).at_ (CO.copyN ((c.codeAgain 0 L)) j).r0] }
        rw [← HCJ.out, ← HX.out]
        exact S4
      case measure => first | (simp [intOf]; omega) | simp [intOf]
    · have hdd : decide ((j : Int) < ((L : Nat) : Int)) = false := decide_eq_false (by omega)
      obtain rfl : j = L := by omega
      go_wp2_with fail
      go_ret
      have S4 := (CStep.ofKept h KB).trans hS
      rw [HCJ.out] at S4
      refine ⟨rfl, ov', tv', ?_⟩
      skip
      exact S4

set_option maxRecDepth 100000 in
set_option maxHeartbeats 4000000 in
theorem lzmac_Code_again1 {w : World} {A : CA} {ov tv : Value} {c : CO} (h : CoderW w A ov tv c) {b d L : Nat} (hd : (d : Int) < 4294967296) (hlen : c.told.length + 300 < 1099511627776) (hn : c.enc.e.count + 100 < 1099511627776) (hL2 : 2 ≤ L) (hL : L ≤ 273) {l : Int} (hl : l = (L : Int)) (hfit : c.fits 3 l d = true) :
    Calls Try.prog 18 #[.pointer (some ⟨A.cb, 0, none⟩), pktv 3 b l d] w fun e w' =>
      e = .returned (.bool true) ∧ ∃ ov' tv', CStep w w' A ov ov' tv tv' c.n ((c.codeAgain 1 L).copyN L) := by
  have hf : c.ended = false := by
    cases hh : c.ended with
    | false => rfl
    | true => simp [CO.fits, hh] at hfit
  subst hl
  have iL2 : (2 : Int) ≤ L := by omega
  have iL : (L : Int) ≤ 273 := by omega
  obtain ⟨l, hl⟩ : ∃ l : Int, l = (L : Int) := ⟨_, rfl⟩
  rw [← hl] at hfit iL2 iL ⊢
  have HLL := Lib.hid hl
  clear hl
  obtain ⟨i0, hi, hz0, hz1, hz2⟩ := info_parts Try.info_u8
  go_enter Try.func18, Try.ntmps18
  unfold pktv
  go_wp2_with fail
  have hwl : ∀ o, ¬ CoderS A ov tv c.n w.heap.size o := fun o e => by have := h.wlt e; omega
  obtain ⟨w0, hw0⟩ : ∃ w0, w0 = w.alloc (.cells #[.int .i64 3, .int .u8 (b : Nat), .int .i64 l, .int .u32 (d : Nat)] 26) := ⟨_, rfl⟩
  have K0 : Kept (fun _ _ => False) w w0 := by rw [hw0]; exact Kept.of_alloc _ _ _
  obtain ⟨bx, hbx⟩ : ∃ bx, bx = w.heap.size := ⟨_, rfl⟩
  have hbw : w.heap.size ≤ bx := Nat.le_of_eq hbx.symm
  have hwy : ∀ b, A.Y tv b → b ≠ bx := fun b hb e => by have := h.apart.lt b hb; omega
  have B0 : At w0 bx 0 (.int .i64 3) := by rw [hw0, hbx]; exact At.alloc_new _ _ _ _ _ rfl
  have B1 : At w0 bx 1 (.int .u8 (b : Nat)) := by rw [hw0, hbx]; exact At.alloc_new _ _ _ _ _ rfl
  have B2 : At w0 bx 2 (.int .i64 l) := by rw [hw0, hbx]; exact At.alloc_new _ _ _ _ _ rfl
  have B3 : At w0 bx 3 (.int .u32 (d : Nat)) := by rw [hw0, hbx]; exact At.alloc_new _ _ _ _ _ rfl
  rw [← hbx] at hwl ⊢
  rw [← hw0]
  clear hw0 hbx
  refine (lzmac_Fits (k := 3) (l := l) (b := b) (d := d) (h.kept K0 (by simp)) hd (by omega)).mono ?_
  rintro e w1 ⟨rfl, K1⟩
  rw [hfit]
  have KB := K0.trans K1
  have H1 := h.kept KB (by simp)
  have D0 := K1.at_ _ _ _ (by simp) B0
  have D1 := K1.at_ _ _ _ (by simp) B1
  have D2 := K1.at_ _ _ _ (by simp) B2
  have D3 := K1.at_ _ _ _ (by simp) B3
  clear B0 B1 B2 B3 K0 K1
  have d0 := D0.1
  have d2 := D2.1
  obtain ⟨ao, cap, htv, _⟩ := own_shape h.own
  have c11 := H1.a11.1
  rw [htv] at c11
  have HTV := Lib.hid htv
  clear htv
  have c2 := H1.a2.1
  have c4 := H1.a4.1
  have c5 := H1.a5.1
  have c6 := H1.a6.1
  have hpb := h.may.pb
  obtain ⟨st, hst⟩ : ∃ st, st = c.state := ⟨_, rfl⟩
  obtain ⟨pb, hpb1⟩ : ∃ pb, pb = c.pb := ⟨_, rfl⟩
  obtain ⟨n, hn1⟩ : ∃ n, n = c.told.length := ⟨_, rfl⟩
  have hst12 := h.may.st
  rw [← hst] at c6 hst12
  rw [← hpb1] at c2 hpb
  rw [← hn1] at c11
  have hn2 : (n : Int) < 1099511627776 := by omega
  have hls := low_bits hn2 (k := pb) (by omega)
  obtain ⟨sx, hsx⟩ : ∃ sx, sx = n % 2 ^ pb := ⟨_, rfl⟩
  have hsx16 : sx < 16 := by
    have h1 : 2 ^ pb ≤ 2 ^ 4 := Nat.pow_le_pow_right (by decide) hpb
    have h2 := Nat.mod_lt n (Nat.pow_pos (n := pb) (a := 2) (by decide))
    omega
  rw [← hsx] at hls
  have hst13 : (st : Int) < 12 := by omega
  have hsx17 : (sx : Int) < 16 := by omega
  obtain ⟨om, cm, _, hm1, hm2⟩ := H1.probs.isMatch.2
  obtain ⟨gm, hm3, hm4⟩ := hm2 st hst12
  obtain ⟨gr, hr1, hr2⟩ := H1.probs.rep.2
  have p0 := hm1.1
  have p1 := hm3.1
  have p2 := hr1.1
  have HM4 := Lib.hid hm4
  have HST := Lib.hid hst
  have HPB := Lib.hid hpb1
  have HN := Lib.hid hn1
  have HSX := Lib.hid hsx
  have HR2 := Lib.hid hr2
  clear hm2 hr2 hm4 hst hpb1 hn1 hsx
  go_wp2_with fail
  go_quiet (fail)
  clear hls
  obtain ⟨nq1, hnq1⟩ : ∃ y, y = nq := ⟨_, rfl⟩
  subst hnq1
  go_wp2_with fail
  go_quiet (fail)
  go_wp2_with fail
  obtain ⟨nq2, hnq2⟩ : ∃ y, y = nq1 + nq := ⟨_, rfl⟩
  rw [← hnq2]
  clear hnq2
  have S0 : CStep w1 (w1.drewN nq2) A ov ov tv tv c.n c := ⟨H1.drewN _, NewOr.refl _ _, NewOr.refl _ _, (Kept.refl _ _).drewN _⟩
  have E1 : At (w1.drewN nq2) bx 0 (.int .i64 3) := D0
  obtain ⟨wa, hwa⟩ : ∃ wa, wa = w1.drewN nq2 := ⟨_, rfl⟩
  rw [← hwa] at S0 ⊢
  clear hwa
  have hjm := HM4.out sx hsx16
  refine (renc_Bit S0.co.enc (j := 0 + 16 * st + sx) (by unfold CO.n; omega) (by rw [hjm]) rfl (by omega)).mono ?_
  rintro e w2 ⟨rfl, ov1, hE1⟩
  have T1 := CoderW.encStep S0.co hE1
  have S1 := S0.trans T1
  have hcb1 := EncW.count (j := 0 + 16 * st + sx) (b := 1) S0.co.enc
  have H2 := S1.co
  have q4 := H2.a4.1
  go_wp2_with fail
  refine (renc_Bit H2.enc (j := 192 + st) (by unfold CO.n; omega) (by rw [HR2.out st hst12]) rfl (by dsimp only; omega)).mono ?_
  rintro e w3 ⟨rfl, ov2, hE2⟩
  have T2 := CoderW.encStep H2 hE2
  have S2 := S1.trans T2
  have hcb2 := EncW.count (j := 192 + st) (b := 1) H2.enc
  have H3 := S2.co
  have E3 := (S2.kept.at_ _ _ _ (hwl 0) D0)
  have e3 := E3.1
  clear q4
  go_wp2_with fail
  refine (lzmac_again H3 (k := 1) (sx := sx) (by decide) hsx16 rfl rfl (by dsimp only at *; omega)).mono ?_
  rintro e w4 ⟨rfl, ov3, T3⟩
  have S3 := S2.trans T3
  obtain ⟨ca, hca⟩ : ∃ ca, ca = CO.again { c with enc := (c.enc.bit (0 + 16 * st + sx) 1).bit (192 + st) 1 } 1 sx := ⟨_, rfl⟩
  rw [← hca] at S3
  obtain ⟨a1, a2, a3, a4, _⟩ := CO.again_facts { c with enc := (c.enc.bit (0 + 16 * st + sx) 1).bit (192 + st) 1 } 1 sx
  have aok := CO.again_ok (c := { c with enc := (c.enc.bit (0 + 16 * st + sx) 1).bit (192 + st) 1 }) (n := c.enc.e.count + 2) ⟨H3.enc.ok, H3.enc.pok, by dsimp only at *; omega⟩ 1 sx
  rw [← hca] at a1 a2 a3 a4 aok
  have a2' : ca.n = c.n := a2
  have HCA := Lib.hid (And.intro hca (And.intro a1 (And.intro a2' (And.intro a3 (And.intro a4 aok)))))
  clear hca a1 a2 a2' a3 a4 aok T3
  have H4 := S3.co
  have q4 := H4.a4.1
  have q5 := H4.a5.1
  obtain ⟨lb, hlb, hlens⟩ := H4.probs.repLen
  have p10 := hlb.1
  obtain ⟨v, hv1, hv2⟩ : ∃ v : Nat, l - 2 = (v : Int) ∧ v = L - 2 := ⟨L - 2, by have := HLL.out; omega, rfl⟩
  have HV := Lib.hid hv2
  have hv3 : v < 272 := by omega
  clear hv2
  go_wp2_with fail
  go_still_tail 14, (by kernel_rfl)
  change wpList _ _ _ _ _ w4.drew
  have hv4 : IntKind.i64.wrap (v : Int) = (v : Int) := IntWalk.i64_in _ (by omega)
  rw [hv4]
  clear hv4
  go_wp2_with fail
  have hX : Apart w4.drew A.eb ov3 A.pa ca.n A.X := ⟨fun b hb => H4.apart.lt b (.inr (.inr hb)), fun b hb => H4.apart.eb b (.inr (.inr hb)), fun b hb => H4.apart.ov b (.inr (.inr hb)), fun b hb => H4.apart.pa b (.inr (.inr hb))⟩
  have hcnt := HCA.out.2.2.2.2.2.c
  refine (lens_tell H4.enc.drew (base := 1333) (hlens.kept ((Kept.refl (fun _ _ => False) _).drew) (by simp)) hX (by rw [HCA.out.2.2.1]; unfold CO.n; omega) (sx := sx) (v := v) hsx16 hv3 rfl rfl (by omega)).mono ?_
  rintro e w5 ⟨rfl, ov4, hE4⟩
  have T4 := CoderW.encStep H4 hE4.ofDrew
  rw [HCA.out.2.2.1] at T4
  have S4 := S3.trans T4
  clear q4 q5 p10 hv1
  go_wp2_with fail
  refine (lzmac_next S4.co (y := 8) (o := 11) (by decide) (by decide) rfl rfl).mono ?_
  rintro e w6 ⟨rfl, T5⟩
  have T5' : CStep w5 w6 A ov4 ov4 tv tv c.n { { ca with enc := ca.enc.len 1333 sx v } with state := if ca.state < 7 then 8 else 11 } := by
    have hn5 : ({ ca with enc := ca.enc.len 1333 sx v } : CO).n = c.n := HCA.out.2.2.1
    rw [← hn5]; exact T5
  have S5 := S4.trans T5'
  have hcc : ({ { ca with enc := ca.enc.len 1333 sx v } with state := if ca.state < 7 then 8 else 11 } : CO) = c.codeAgain 1 L := by
    have hctx : c.ctx = sx := by unfold CO.ctx; rw [HSX.out, HN.out, HPB.out]
    have hcs : ca.state = c.state := HCA.out.2.2.2.2.1
    unfold CO.codeAgain
    dsimp only
    rw [hctx, hcs, HV.out, HCA.out.1, HST.out]
  rw [hcc] at S5
  have hend0 : (c.codeAgain 1 L).ended = false := by rw [← hcc]; show ca.ended = false; rw [HCA.out.2.2.2.1]; exact hf
  have hlenM : (c.codeAgain 1 L).told.length + L < 1099511627776 := by rw [← hcc]; show ca.told.length + L < _; rw [HCA.out.2.1]; show c.told.length + L < _; omega
  clear hcc T5 T5' T4 hcnt hX
  have hl := HLL.out
  subst hl
  have HE0 := Lib.hid hend0
  clear hend0
  have HC := S5.co
  have t12 := HC.a12.1
  have hend : ((c.codeAgain 1 L)).ended = false := by exact HE0.out
  rw [hend] at t12
  have L0 := Lib.hid hend
  clear hend
  go_wp2_with fail
  go_loopw [236] (fun i wr => ∃ (j : Nat) (ov' tv' : Value), j ≤ L ∧ i = .int .i64 j ∧ CStep w1 wr A ov ov' tv tv' c.n (((c.codeAgain 1 L)).copyN j)) (fun i _ => L - (intOf i).toNat)
  case atStart => exact ⟨0, _, _, Nat.zero_le _, rfl, S5⟩
  case round =>
    obtain ⟨j, ov', tv', hj, rfl, hS⟩ := hrel
    obtain ⟨k1, k2, k3, k4, k5⟩ := CO.copyN_facts ((c.codeAgain 1 L)) j
    have KF := Lib.hid (And.intro k1 (And.intro k2 (And.intro k3 (And.intro k4 k5))))
    obtain ⟨cj, hcj⟩ : ∃ cj, cj = ((c.codeAgain 1 L)).copyN j := ⟨_, rfl⟩
    rw [← hcj] at hS k1 k2 k3 k4 k5
    have HCJ := Lib.hid hcj
    clear hcj
    have hlen2 : cj.told.length < 1099511627776 := by rw [k1]; omega
    have H := hS.co
    have u7 := H.a7.1
    have K3 := Lib.hid k3
    clear k1 k2 k3 k4 k5
    by_cases hlt : j < L
    · have hlen3 : cj.told.length + 1 < 1099511627776 := by rw [HCJ.out, KF.out.1]; omega
      have hdd : decide ((j : Int) < ((L : Nat) : Int)) = true := decide_eq_true (by omega)
      skip
      go_wp2_with fail
      refine (lzmac_back H (d := cj.r0) rfl H.may.r0 hlen2).mono ?_
      rintro e w9 ⟨rfl, hw9⟩
      rw [hw9]
      clear hw9
      have hx256 := CO.at_lt H.may cj.r0
      obtain ⟨x, hx⟩ : ∃ x, x = cj.at_ cj.r0 := ⟨_, rfl⟩
      obtain ⟨y, hy⟩ : ∃ y, y = cj.is cj.r0 := ⟨_, rfl⟩
      rw [← hx] at hx256 ⊢
      rw [← hy]
      have HX := Lib.hid hx
      clear hx hy
      obtain ⟨nj, hnj⟩ : ∃ nj, nj = cj.told.length := ⟨_, rfl⟩
      have hown := H.own
      rw [← hnj] at hown hlen3
      have HNJ := Lib.hid hnj
      clear hnj
      have u11 := H.a11.1
      have hl3 := H.a11.lt
      go_wp2_with (at_builtin; refine wpList_append_new rfl (.tmp 252) (.tmp 254) 35 rfl 5 i0 (.int .u8 0) 1 Try.underlying35 hi hz0 hz1 hz2 rfl tv' _ _ (by simp [Act.eval]) (hown.alloc _) (some ⟨wr.heap.size, 0, none⟩) 1 1 [.int .u8 (x : Nat)] (by simp [Act.eval]) rfl (by simp) (by intro ad h j u hj; match j, hj with | 0, hj => simp at hj h; subst hj; subst h; simp [Addr.add]) (by intro u hu; simp at hu; subst hu; rfl) (by unfold maxLen; omega) (by omega) ?_; intro v' w4 h2 h3 h4 _; obtain ⟨g, cap2, rfl, hg⟩ := own_form h2 (by omega); have hk0 : Kept (fun b _ => tv'.ownBlock = some b) wr w4 := Kept.grown (by (repeat (first | exact Kept.refl _ _ | refine Kept.drewN ?_ _ | refine Kept.drew ?_ | refine Kept.setCell ?_ (by simp) _ | refine Kept.alloc ?_ _))) h3 (fun k hk => .inl (fun _ => hk)); have b11 := hk0.at_ _ _ _ H.tcb H.a11; have d11 := b11.1; have g11 := b11.2)
      go_roundw
      case rel =>
        have h4' : NewOr wr tv' (.slice (some ⟨g, 0, none⟩) (nj + 1) cap2) := h4.old (by simp)
        have S3 := CoderW.push H hx256 hk0 h4' (by rw [← HNJ.out]; exact h2)
        rw [K3.out] at S3
        have S4 := hS.trans S3
        refine ⟨j + 1, ov', .slice (some ⟨g, 0, none⟩) (nj + 1) cap2, by omega, by go_num, ?_⟩
        show CStep w1 _ A ov ov' tv _ c.n { CO.copyN ((c.codeAgain 1 L)) j with told := (CO.copyN ((c.codeAgain 1 L)) j).told ++ [(CO.copyN ((c.codeAgain 1 L)) j).at_ (CO.copyN ((c.codeAgain 1 L)) j).r0] }
        rw [← HCJ.out, ← HX.out]
        exact S4
      case measure => first | (simp [intOf]; omega) | simp [intOf]
    · have hdd : decide ((j : Int) < ((L : Nat) : Int)) = false := decide_eq_false (by omega)
      obtain rfl : j = L := by omega
      go_wp2_with fail
      go_ret
      have S4 := (CStep.ofKept h KB).trans hS
      rw [HCJ.out] at S4
      refine ⟨rfl, ov', tv', ?_⟩
      skip
      exact S4

set_option maxRecDepth 100000 in
set_option maxHeartbeats 4000000 in
theorem lzmac_Code_again2 {w : World} {A : CA} {ov tv : Value} {c : CO} (h : CoderW w A ov tv c) {b d L : Nat} (hd : (d : Int) < 4294967296) (hlen : c.told.length + 300 < 1099511627776) (hn : c.enc.e.count + 100 < 1099511627776) (hL2 : 2 ≤ L) (hL : L ≤ 273) {l : Int} (hl : l = (L : Int)) (hfit : c.fits 4 l d = true) :
    Calls Try.prog 18 #[.pointer (some ⟨A.cb, 0, none⟩), pktv 4 b l d] w fun e w' =>
      e = .returned (.bool true) ∧ ∃ ov' tv', CStep w w' A ov ov' tv tv' c.n ((c.codeAgain 2 L).copyN L) := by
  have hf : c.ended = false := by
    cases hh : c.ended with
    | false => rfl
    | true => simp [CO.fits, hh] at hfit
  subst hl
  have iL2 : (2 : Int) ≤ L := by omega
  have iL : (L : Int) ≤ 273 := by omega
  obtain ⟨l, hl⟩ : ∃ l : Int, l = (L : Int) := ⟨_, rfl⟩
  rw [← hl] at hfit iL2 iL ⊢
  have HLL := Lib.hid hl
  clear hl
  obtain ⟨i0, hi, hz0, hz1, hz2⟩ := info_parts Try.info_u8
  go_enter Try.func18, Try.ntmps18
  unfold pktv
  go_wp2_with fail
  have hwl : ∀ o, ¬ CoderS A ov tv c.n w.heap.size o := fun o e => by have := h.wlt e; omega
  obtain ⟨w0, hw0⟩ : ∃ w0, w0 = w.alloc (.cells #[.int .i64 4, .int .u8 (b : Nat), .int .i64 l, .int .u32 (d : Nat)] 26) := ⟨_, rfl⟩
  have K0 : Kept (fun _ _ => False) w w0 := by rw [hw0]; exact Kept.of_alloc _ _ _
  obtain ⟨bx, hbx⟩ : ∃ bx, bx = w.heap.size := ⟨_, rfl⟩
  have hbw : w.heap.size ≤ bx := Nat.le_of_eq hbx.symm
  have hwy : ∀ b, A.Y tv b → b ≠ bx := fun b hb e => by have := h.apart.lt b hb; omega
  have B0 : At w0 bx 0 (.int .i64 4) := by rw [hw0, hbx]; exact At.alloc_new _ _ _ _ _ rfl
  have B1 : At w0 bx 1 (.int .u8 (b : Nat)) := by rw [hw0, hbx]; exact At.alloc_new _ _ _ _ _ rfl
  have B2 : At w0 bx 2 (.int .i64 l) := by rw [hw0, hbx]; exact At.alloc_new _ _ _ _ _ rfl
  have B3 : At w0 bx 3 (.int .u32 (d : Nat)) := by rw [hw0, hbx]; exact At.alloc_new _ _ _ _ _ rfl
  rw [← hbx] at hwl ⊢
  rw [← hw0]
  clear hw0 hbx
  refine (lzmac_Fits (k := 4) (l := l) (b := b) (d := d) (h.kept K0 (by simp)) hd (by omega)).mono ?_
  rintro e w1 ⟨rfl, K1⟩
  rw [hfit]
  have KB := K0.trans K1
  have H1 := h.kept KB (by simp)
  have D0 := K1.at_ _ _ _ (by simp) B0
  have D1 := K1.at_ _ _ _ (by simp) B1
  have D2 := K1.at_ _ _ _ (by simp) B2
  have D3 := K1.at_ _ _ _ (by simp) B3
  clear B0 B1 B2 B3 K0 K1
  have d0 := D0.1
  have d2 := D2.1
  obtain ⟨ao, cap, htv, _⟩ := own_shape h.own
  have c11 := H1.a11.1
  rw [htv] at c11
  have HTV := Lib.hid htv
  clear htv
  have c2 := H1.a2.1
  have c4 := H1.a4.1
  have c5 := H1.a5.1
  have c6 := H1.a6.1
  have hpb := h.may.pb
  obtain ⟨st, hst⟩ : ∃ st, st = c.state := ⟨_, rfl⟩
  obtain ⟨pb, hpb1⟩ : ∃ pb, pb = c.pb := ⟨_, rfl⟩
  obtain ⟨n, hn1⟩ : ∃ n, n = c.told.length := ⟨_, rfl⟩
  have hst12 := h.may.st
  rw [← hst] at c6 hst12
  rw [← hpb1] at c2 hpb
  rw [← hn1] at c11
  have hn2 : (n : Int) < 1099511627776 := by omega
  have hls := low_bits hn2 (k := pb) (by omega)
  obtain ⟨sx, hsx⟩ : ∃ sx, sx = n % 2 ^ pb := ⟨_, rfl⟩
  have hsx16 : sx < 16 := by
    have h1 : 2 ^ pb ≤ 2 ^ 4 := Nat.pow_le_pow_right (by decide) hpb
    have h2 := Nat.mod_lt n (Nat.pow_pos (n := pb) (a := 2) (by decide))
    omega
  rw [← hsx] at hls
  have hst13 : (st : Int) < 12 := by omega
  have hsx17 : (sx : Int) < 16 := by omega
  obtain ⟨om, cm, _, hm1, hm2⟩ := H1.probs.isMatch.2
  obtain ⟨gm, hm3, hm4⟩ := hm2 st hst12
  obtain ⟨gr, hr1, hr2⟩ := H1.probs.rep.2
  have p0 := hm1.1
  have p1 := hm3.1
  have p2 := hr1.1
  have HM4 := Lib.hid hm4
  have HST := Lib.hid hst
  have HPB := Lib.hid hpb1
  have HN := Lib.hid hn1
  have HSX := Lib.hid hsx
  have HR2 := Lib.hid hr2
  clear hm2 hr2 hm4 hst hpb1 hn1 hsx
  go_wp2_with fail
  go_quiet (fail)
  clear hls
  obtain ⟨nq1, hnq1⟩ : ∃ y, y = nq := ⟨_, rfl⟩
  subst hnq1
  go_wp2_with fail
  go_quiet (fail)
  go_wp2_with fail
  obtain ⟨nq2, hnq2⟩ : ∃ y, y = nq1 + nq := ⟨_, rfl⟩
  rw [← hnq2]
  clear hnq2
  have S0 : CStep w1 (w1.drewN nq2) A ov ov tv tv c.n c := ⟨H1.drewN _, NewOr.refl _ _, NewOr.refl _ _, (Kept.refl _ _).drewN _⟩
  have E1 : At (w1.drewN nq2) bx 0 (.int .i64 4) := D0
  obtain ⟨wa, hwa⟩ : ∃ wa, wa = w1.drewN nq2 := ⟨_, rfl⟩
  rw [← hwa] at S0 ⊢
  clear hwa
  have hjm := HM4.out sx hsx16
  refine (renc_Bit S0.co.enc (j := 0 + 16 * st + sx) (by unfold CO.n; omega) (by rw [hjm]) rfl (by omega)).mono ?_
  rintro e w2 ⟨rfl, ov1, hE1⟩
  have T1 := CoderW.encStep S0.co hE1
  have S1 := S0.trans T1
  have hcb1 := EncW.count (j := 0 + 16 * st + sx) (b := 1) S0.co.enc
  have H2 := S1.co
  have q4 := H2.a4.1
  go_wp2_with fail
  refine (renc_Bit H2.enc (j := 192 + st) (by unfold CO.n; omega) (by rw [HR2.out st hst12]) rfl (by dsimp only; omega)).mono ?_
  rintro e w3 ⟨rfl, ov2, hE2⟩
  have T2 := CoderW.encStep H2 hE2
  have S2 := S1.trans T2
  have hcb2 := EncW.count (j := 192 + st) (b := 1) H2.enc
  have H3 := S2.co
  have E3 := (S2.kept.at_ _ _ _ (hwl 0) D0)
  have e3 := E3.1
  clear q4
  go_wp2_with fail
  refine (lzmac_again H3 (k := 2) (sx := sx) (by decide) hsx16 rfl rfl (by dsimp only at *; omega)).mono ?_
  rintro e w4 ⟨rfl, ov3, T3⟩
  have S3 := S2.trans T3
  obtain ⟨ca, hca⟩ : ∃ ca, ca = CO.again { c with enc := (c.enc.bit (0 + 16 * st + sx) 1).bit (192 + st) 1 } 2 sx := ⟨_, rfl⟩
  rw [← hca] at S3
  obtain ⟨a1, a2, a3, a4, _⟩ := CO.again_facts { c with enc := (c.enc.bit (0 + 16 * st + sx) 1).bit (192 + st) 1 } 2 sx
  have aok := CO.again_ok (c := { c with enc := (c.enc.bit (0 + 16 * st + sx) 1).bit (192 + st) 1 }) (n := c.enc.e.count + 2) ⟨H3.enc.ok, H3.enc.pok, by dsimp only at *; omega⟩ 2 sx
  rw [← hca] at a1 a2 a3 a4 aok
  have a2' : ca.n = c.n := a2
  have HCA := Lib.hid (And.intro hca (And.intro a1 (And.intro a2' (And.intro a3 (And.intro a4 aok)))))
  clear hca a1 a2 a2' a3 a4 aok T3
  have H4 := S3.co
  have q4 := H4.a4.1
  have q5 := H4.a5.1
  obtain ⟨lb, hlb, hlens⟩ := H4.probs.repLen
  have p10 := hlb.1
  obtain ⟨v, hv1, hv2⟩ : ∃ v : Nat, l - 2 = (v : Int) ∧ v = L - 2 := ⟨L - 2, by have := HLL.out; omega, rfl⟩
  have HV := Lib.hid hv2
  have hv3 : v < 272 := by omega
  clear hv2
  go_wp2_with fail
  go_still_tail 14, (by kernel_rfl)
  change wpList _ _ _ _ _ w4.drew
  have hv4 : IntKind.i64.wrap (v : Int) = (v : Int) := IntWalk.i64_in _ (by omega)
  rw [hv4]
  clear hv4
  go_wp2_with fail
  have hX : Apart w4.drew A.eb ov3 A.pa ca.n A.X := ⟨fun b hb => H4.apart.lt b (.inr (.inr hb)), fun b hb => H4.apart.eb b (.inr (.inr hb)), fun b hb => H4.apart.ov b (.inr (.inr hb)), fun b hb => H4.apart.pa b (.inr (.inr hb))⟩
  have hcnt := HCA.out.2.2.2.2.2.c
  refine (lens_tell H4.enc.drew (base := 1333) (hlens.kept ((Kept.refl (fun _ _ => False) _).drew) (by simp)) hX (by rw [HCA.out.2.2.1]; unfold CO.n; omega) (sx := sx) (v := v) hsx16 hv3 rfl rfl (by omega)).mono ?_
  rintro e w5 ⟨rfl, ov4, hE4⟩
  have T4 := CoderW.encStep H4 hE4.ofDrew
  rw [HCA.out.2.2.1] at T4
  have S4 := S3.trans T4
  clear q4 q5 p10 hv1
  go_wp2_with fail
  refine (lzmac_next S4.co (y := 8) (o := 11) (by decide) (by decide) rfl rfl).mono ?_
  rintro e w6 ⟨rfl, T5⟩
  have T5' : CStep w5 w6 A ov4 ov4 tv tv c.n { { ca with enc := ca.enc.len 1333 sx v } with state := if ca.state < 7 then 8 else 11 } := by
    have hn5 : ({ ca with enc := ca.enc.len 1333 sx v } : CO).n = c.n := HCA.out.2.2.1
    rw [← hn5]; exact T5
  have S5 := S4.trans T5'
  have hcc : ({ { ca with enc := ca.enc.len 1333 sx v } with state := if ca.state < 7 then 8 else 11 } : CO) = c.codeAgain 2 L := by
    have hctx : c.ctx = sx := by unfold CO.ctx; rw [HSX.out, HN.out, HPB.out]
    have hcs : ca.state = c.state := HCA.out.2.2.2.2.1
    unfold CO.codeAgain
    dsimp only
    rw [hctx, hcs, HV.out, HCA.out.1, HST.out]
  rw [hcc] at S5
  have hend0 : (c.codeAgain 2 L).ended = false := by rw [← hcc]; show ca.ended = false; rw [HCA.out.2.2.2.1]; exact hf
  have hlenM : (c.codeAgain 2 L).told.length + L < 1099511627776 := by rw [← hcc]; show ca.told.length + L < _; rw [HCA.out.2.1]; show c.told.length + L < _; omega
  clear hcc T5 T5' T4 hcnt hX
  have hl := HLL.out
  subst hl
  have HE0 := Lib.hid hend0
  clear hend0
  have HC := S5.co
  have t12 := HC.a12.1
  have hend : ((c.codeAgain 2 L)).ended = false := by exact HE0.out
  rw [hend] at t12
  have L0 := Lib.hid hend
  clear hend
  go_wp2_with fail
  go_loopw [236] (fun i wr => ∃ (j : Nat) (ov' tv' : Value), j ≤ L ∧ i = .int .i64 j ∧ CStep w1 wr A ov ov' tv tv' c.n (((c.codeAgain 2 L)).copyN j)) (fun i _ => L - (intOf i).toNat)
  case atStart => exact ⟨0, _, _, Nat.zero_le _, rfl, S5⟩
  case round =>
    obtain ⟨j, ov', tv', hj, rfl, hS⟩ := hrel
    obtain ⟨k1, k2, k3, k4, k5⟩ := CO.copyN_facts ((c.codeAgain 2 L)) j
    have KF := Lib.hid (And.intro k1 (And.intro k2 (And.intro k3 (And.intro k4 k5))))
    obtain ⟨cj, hcj⟩ : ∃ cj, cj = ((c.codeAgain 2 L)).copyN j := ⟨_, rfl⟩
    rw [← hcj] at hS k1 k2 k3 k4 k5
    have HCJ := Lib.hid hcj
    clear hcj
    have hlen2 : cj.told.length < 1099511627776 := by rw [k1]; omega
    have H := hS.co
    have u7 := H.a7.1
    have K3 := Lib.hid k3
    clear k1 k2 k3 k4 k5
    by_cases hlt : j < L
    · have hlen3 : cj.told.length + 1 < 1099511627776 := by rw [HCJ.out, KF.out.1]; omega
      have hdd : decide ((j : Int) < ((L : Nat) : Int)) = true := decide_eq_true (by omega)
      skip
      go_wp2_with fail
      refine (lzmac_back H (d := cj.r0) rfl H.may.r0 hlen2).mono ?_
      rintro e w9 ⟨rfl, hw9⟩
      rw [hw9]
      clear hw9
      have hx256 := CO.at_lt H.may cj.r0
      obtain ⟨x, hx⟩ : ∃ x, x = cj.at_ cj.r0 := ⟨_, rfl⟩
      obtain ⟨y, hy⟩ : ∃ y, y = cj.is cj.r0 := ⟨_, rfl⟩
      rw [← hx] at hx256 ⊢
      rw [← hy]
      have HX := Lib.hid hx
      clear hx hy
      obtain ⟨nj, hnj⟩ : ∃ nj, nj = cj.told.length := ⟨_, rfl⟩
      have hown := H.own
      rw [← hnj] at hown hlen3
      have HNJ := Lib.hid hnj
      clear hnj
      have u11 := H.a11.1
      have hl3 := H.a11.lt
      go_wp2_with (at_builtin; refine wpList_append_new rfl (.tmp 252) (.tmp 254) 35 rfl 5 i0 (.int .u8 0) 1 Try.underlying35 hi hz0 hz1 hz2 rfl tv' _ _ (by simp [Act.eval]) (hown.alloc _) (some ⟨wr.heap.size, 0, none⟩) 1 1 [.int .u8 (x : Nat)] (by simp [Act.eval]) rfl (by simp) (by intro ad h j u hj; match j, hj with | 0, hj => simp at hj h; subst hj; subst h; simp [Addr.add]) (by intro u hu; simp at hu; subst hu; rfl) (by unfold maxLen; omega) (by omega) ?_; intro v' w4 h2 h3 h4 _; obtain ⟨g, cap2, rfl, hg⟩ := own_form h2 (by omega); have hk0 : Kept (fun b _ => tv'.ownBlock = some b) wr w4 := Kept.grown (by (repeat (first | exact Kept.refl _ _ | refine Kept.drewN ?_ _ | refine Kept.drew ?_ | refine Kept.setCell ?_ (by simp) _ | refine Kept.alloc ?_ _))) h3 (fun k hk => .inl (fun _ => hk)); have b11 := hk0.at_ _ _ _ H.tcb H.a11; have d11 := b11.1; have g11 := b11.2)
      go_roundw
      case rel =>
        have h4' : NewOr wr tv' (.slice (some ⟨g, 0, none⟩) (nj + 1) cap2) := h4.old (by simp)
        have S3 := CoderW.push H hx256 hk0 h4' (by rw [← HNJ.out]; exact h2)
        rw [K3.out] at S3
        have S4 := hS.trans S3
        refine ⟨j + 1, ov', .slice (some ⟨g, 0, none⟩) (nj + 1) cap2, by omega, by go_num, ?_⟩
        show CStep w1 _ A ov ov' tv _ c.n { CO.copyN ((c.codeAgain 2 L)) j with told := (CO.copyN ((c.codeAgain 2 L)) j).told ++ [(CO.copyN ((c.codeAgain 2 L)) j).at_ (CO.copyN ((c.codeAgain 2 L)) j).r0] }
        rw [← HCJ.out, ← HX.out]
        exact S4
      case measure => first | (simp [intOf]; omega) | simp [intOf]
    · have hdd : decide ((j : Int) < ((L : Nat) : Int)) = false := decide_eq_false (by omega)
      obtain rfl : j = L := by omega
      go_wp2_with fail
      go_ret
      have S4 := (CStep.ofKept h KB).trans hS
      rw [HCJ.out] at S4
      refine ⟨rfl, ov', tv', ?_⟩
      skip
      exact S4

set_option maxRecDepth 100000 in
set_option maxHeartbeats 4000000 in
theorem lzmac_Code_again3 {w : World} {A : CA} {ov tv : Value} {c : CO} (h : CoderW w A ov tv c) {b d L : Nat} (hd : (d : Int) < 4294967296) (hlen : c.told.length + 300 < 1099511627776) (hn : c.enc.e.count + 100 < 1099511627776) (hL2 : 2 ≤ L) (hL : L ≤ 273) {l : Int} (hl : l = (L : Int)) (hfit : c.fits 5 l d = true) :
    Calls Try.prog 18 #[.pointer (some ⟨A.cb, 0, none⟩), pktv 5 b l d] w fun e w' =>
      e = .returned (.bool true) ∧ ∃ ov' tv', CStep w w' A ov ov' tv tv' c.n ((c.codeAgain 3 L).copyN L) := by
  have hf : c.ended = false := by
    cases hh : c.ended with
    | false => rfl
    | true => simp [CO.fits, hh] at hfit
  subst hl
  have iL2 : (2 : Int) ≤ L := by omega
  have iL : (L : Int) ≤ 273 := by omega
  obtain ⟨l, hl⟩ : ∃ l : Int, l = (L : Int) := ⟨_, rfl⟩
  rw [← hl] at hfit iL2 iL ⊢
  have HLL := Lib.hid hl
  clear hl
  obtain ⟨i0, hi, hz0, hz1, hz2⟩ := info_parts Try.info_u8
  go_enter Try.func18, Try.ntmps18
  unfold pktv
  go_wp2_with fail
  have hwl : ∀ o, ¬ CoderS A ov tv c.n w.heap.size o := fun o e => by have := h.wlt e; omega
  obtain ⟨w0, hw0⟩ : ∃ w0, w0 = w.alloc (.cells #[.int .i64 5, .int .u8 (b : Nat), .int .i64 l, .int .u32 (d : Nat)] 26) := ⟨_, rfl⟩
  have K0 : Kept (fun _ _ => False) w w0 := by rw [hw0]; exact Kept.of_alloc _ _ _
  obtain ⟨bx, hbx⟩ : ∃ bx, bx = w.heap.size := ⟨_, rfl⟩
  have hbw : w.heap.size ≤ bx := Nat.le_of_eq hbx.symm
  have hwy : ∀ b, A.Y tv b → b ≠ bx := fun b hb e => by have := h.apart.lt b hb; omega
  have B0 : At w0 bx 0 (.int .i64 5) := by rw [hw0, hbx]; exact At.alloc_new _ _ _ _ _ rfl
  have B1 : At w0 bx 1 (.int .u8 (b : Nat)) := by rw [hw0, hbx]; exact At.alloc_new _ _ _ _ _ rfl
  have B2 : At w0 bx 2 (.int .i64 l) := by rw [hw0, hbx]; exact At.alloc_new _ _ _ _ _ rfl
  have B3 : At w0 bx 3 (.int .u32 (d : Nat)) := by rw [hw0, hbx]; exact At.alloc_new _ _ _ _ _ rfl
  rw [← hbx] at hwl ⊢
  rw [← hw0]
  clear hw0 hbx
  refine (lzmac_Fits (k := 5) (l := l) (b := b) (d := d) (h.kept K0 (by simp)) hd (by omega)).mono ?_
  rintro e w1 ⟨rfl, K1⟩
  rw [hfit]
  have KB := K0.trans K1
  have H1 := h.kept KB (by simp)
  have D0 := K1.at_ _ _ _ (by simp) B0
  have D1 := K1.at_ _ _ _ (by simp) B1
  have D2 := K1.at_ _ _ _ (by simp) B2
  have D3 := K1.at_ _ _ _ (by simp) B3
  clear B0 B1 B2 B3 K0 K1
  have d0 := D0.1
  have d2 := D2.1
  obtain ⟨ao, cap, htv, _⟩ := own_shape h.own
  have c11 := H1.a11.1
  rw [htv] at c11
  have HTV := Lib.hid htv
  clear htv
  have c2 := H1.a2.1
  have c4 := H1.a4.1
  have c5 := H1.a5.1
  have c6 := H1.a6.1
  have hpb := h.may.pb
  obtain ⟨st, hst⟩ : ∃ st, st = c.state := ⟨_, rfl⟩
  obtain ⟨pb, hpb1⟩ : ∃ pb, pb = c.pb := ⟨_, rfl⟩
  obtain ⟨n, hn1⟩ : ∃ n, n = c.told.length := ⟨_, rfl⟩
  have hst12 := h.may.st
  rw [← hst] at c6 hst12
  rw [← hpb1] at c2 hpb
  rw [← hn1] at c11
  have hn2 : (n : Int) < 1099511627776 := by omega
  have hls := low_bits hn2 (k := pb) (by omega)
  obtain ⟨sx, hsx⟩ : ∃ sx, sx = n % 2 ^ pb := ⟨_, rfl⟩
  have hsx16 : sx < 16 := by
    have h1 : 2 ^ pb ≤ 2 ^ 4 := Nat.pow_le_pow_right (by decide) hpb
    have h2 := Nat.mod_lt n (Nat.pow_pos (n := pb) (a := 2) (by decide))
    omega
  rw [← hsx] at hls
  have hst13 : (st : Int) < 12 := by omega
  have hsx17 : (sx : Int) < 16 := by omega
  obtain ⟨om, cm, _, hm1, hm2⟩ := H1.probs.isMatch.2
  obtain ⟨gm, hm3, hm4⟩ := hm2 st hst12
  obtain ⟨gr, hr1, hr2⟩ := H1.probs.rep.2
  have p0 := hm1.1
  have p1 := hm3.1
  have p2 := hr1.1
  have HM4 := Lib.hid hm4
  have HST := Lib.hid hst
  have HPB := Lib.hid hpb1
  have HN := Lib.hid hn1
  have HSX := Lib.hid hsx
  have HR2 := Lib.hid hr2
  clear hm2 hr2 hm4 hst hpb1 hn1 hsx
  go_wp2_with fail
  go_quiet (fail)
  clear hls
  obtain ⟨nq1, hnq1⟩ : ∃ y, y = nq := ⟨_, rfl⟩
  subst hnq1
  go_wp2_with fail
  go_quiet (fail)
  go_wp2_with fail
  obtain ⟨nq2, hnq2⟩ : ∃ y, y = nq1 + nq := ⟨_, rfl⟩
  rw [← hnq2]
  clear hnq2
  have S0 : CStep w1 (w1.drewN nq2) A ov ov tv tv c.n c := ⟨H1.drewN _, NewOr.refl _ _, NewOr.refl _ _, (Kept.refl _ _).drewN _⟩
  have E1 : At (w1.drewN nq2) bx 0 (.int .i64 5) := D0
  obtain ⟨wa, hwa⟩ : ∃ wa, wa = w1.drewN nq2 := ⟨_, rfl⟩
  rw [← hwa] at S0 ⊢
  clear hwa
  have hjm := HM4.out sx hsx16
  refine (renc_Bit S0.co.enc (j := 0 + 16 * st + sx) (by unfold CO.n; omega) (by rw [hjm]) rfl (by omega)).mono ?_
  rintro e w2 ⟨rfl, ov1, hE1⟩
  have T1 := CoderW.encStep S0.co hE1
  have S1 := S0.trans T1
  have hcb1 := EncW.count (j := 0 + 16 * st + sx) (b := 1) S0.co.enc
  have H2 := S1.co
  have q4 := H2.a4.1
  go_wp2_with fail
  refine (renc_Bit H2.enc (j := 192 + st) (by unfold CO.n; omega) (by rw [HR2.out st hst12]) rfl (by dsimp only; omega)).mono ?_
  rintro e w3 ⟨rfl, ov2, hE2⟩
  have T2 := CoderW.encStep H2 hE2
  have S2 := S1.trans T2
  have hcb2 := EncW.count (j := 192 + st) (b := 1) H2.enc
  have H3 := S2.co
  have E3 := (S2.kept.at_ _ _ _ (hwl 0) D0)
  have e3 := E3.1
  clear q4
  go_wp2_with fail
  refine (lzmac_again H3 (k := 3) (sx := sx) (by decide) hsx16 rfl rfl (by dsimp only at *; omega)).mono ?_
  rintro e w4 ⟨rfl, ov3, T3⟩
  have S3 := S2.trans T3
  obtain ⟨ca, hca⟩ : ∃ ca, ca = CO.again { c with enc := (c.enc.bit (0 + 16 * st + sx) 1).bit (192 + st) 1 } 3 sx := ⟨_, rfl⟩
  rw [← hca] at S3
  obtain ⟨a1, a2, a3, a4, _⟩ := CO.again_facts { c with enc := (c.enc.bit (0 + 16 * st + sx) 1).bit (192 + st) 1 } 3 sx
  have aok := CO.again_ok (c := { c with enc := (c.enc.bit (0 + 16 * st + sx) 1).bit (192 + st) 1 }) (n := c.enc.e.count + 2) ⟨H3.enc.ok, H3.enc.pok, by dsimp only at *; omega⟩ 3 sx
  rw [← hca] at a1 a2 a3 a4 aok
  have a2' : ca.n = c.n := a2
  have HCA := Lib.hid (And.intro hca (And.intro a1 (And.intro a2' (And.intro a3 (And.intro a4 aok)))))
  clear hca a1 a2 a2' a3 a4 aok T3
  have H4 := S3.co
  have q4 := H4.a4.1
  have q5 := H4.a5.1
  obtain ⟨lb, hlb, hlens⟩ := H4.probs.repLen
  have p10 := hlb.1
  obtain ⟨v, hv1, hv2⟩ : ∃ v : Nat, l - 2 = (v : Int) ∧ v = L - 2 := ⟨L - 2, by have := HLL.out; omega, rfl⟩
  have HV := Lib.hid hv2
  have hv3 : v < 272 := by omega
  clear hv2
  go_wp2_with fail
  go_still_tail 14, (by kernel_rfl)
  change wpList _ _ _ _ _ w4.drew
  have hv4 : IntKind.i64.wrap (v : Int) = (v : Int) := IntWalk.i64_in _ (by omega)
  rw [hv4]
  clear hv4
  go_wp2_with fail
  have hX : Apart w4.drew A.eb ov3 A.pa ca.n A.X := ⟨fun b hb => H4.apart.lt b (.inr (.inr hb)), fun b hb => H4.apart.eb b (.inr (.inr hb)), fun b hb => H4.apart.ov b (.inr (.inr hb)), fun b hb => H4.apart.pa b (.inr (.inr hb))⟩
  have hcnt := HCA.out.2.2.2.2.2.c
  refine (lens_tell H4.enc.drew (base := 1333) (hlens.kept ((Kept.refl (fun _ _ => False) _).drew) (by simp)) hX (by rw [HCA.out.2.2.1]; unfold CO.n; omega) (sx := sx) (v := v) hsx16 hv3 rfl rfl (by omega)).mono ?_
  rintro e w5 ⟨rfl, ov4, hE4⟩
  have T4 := CoderW.encStep H4 hE4.ofDrew
  rw [HCA.out.2.2.1] at T4
  have S4 := S3.trans T4
  clear q4 q5 p10 hv1
  go_wp2_with fail
  refine (lzmac_next S4.co (y := 8) (o := 11) (by decide) (by decide) rfl rfl).mono ?_
  rintro e w6 ⟨rfl, T5⟩
  have T5' : CStep w5 w6 A ov4 ov4 tv tv c.n { { ca with enc := ca.enc.len 1333 sx v } with state := if ca.state < 7 then 8 else 11 } := by
    have hn5 : ({ ca with enc := ca.enc.len 1333 sx v } : CO).n = c.n := HCA.out.2.2.1
    rw [← hn5]; exact T5
  have S5 := S4.trans T5'
  have hcc : ({ { ca with enc := ca.enc.len 1333 sx v } with state := if ca.state < 7 then 8 else 11 } : CO) = c.codeAgain 3 L := by
    have hctx : c.ctx = sx := by unfold CO.ctx; rw [HSX.out, HN.out, HPB.out]
    have hcs : ca.state = c.state := HCA.out.2.2.2.2.1
    unfold CO.codeAgain
    dsimp only
    rw [hctx, hcs, HV.out, HCA.out.1, HST.out]
  rw [hcc] at S5
  have hend0 : (c.codeAgain 3 L).ended = false := by rw [← hcc]; show ca.ended = false; rw [HCA.out.2.2.2.1]; exact hf
  have hlenM : (c.codeAgain 3 L).told.length + L < 1099511627776 := by rw [← hcc]; show ca.told.length + L < _; rw [HCA.out.2.1]; show c.told.length + L < _; omega
  clear hcc T5 T5' T4 hcnt hX
  have hl := HLL.out
  subst hl
  have HE0 := Lib.hid hend0
  clear hend0
  have HC := S5.co
  have t12 := HC.a12.1
  have hend : ((c.codeAgain 3 L)).ended = false := by exact HE0.out
  rw [hend] at t12
  have L0 := Lib.hid hend
  clear hend
  go_wp2_with fail
  go_loopw [236] (fun i wr => ∃ (j : Nat) (ov' tv' : Value), j ≤ L ∧ i = .int .i64 j ∧ CStep w1 wr A ov ov' tv tv' c.n (((c.codeAgain 3 L)).copyN j)) (fun i _ => L - (intOf i).toNat)
  case atStart => exact ⟨0, _, _, Nat.zero_le _, rfl, S5⟩
  case round =>
    obtain ⟨j, ov', tv', hj, rfl, hS⟩ := hrel
    obtain ⟨k1, k2, k3, k4, k5⟩ := CO.copyN_facts ((c.codeAgain 3 L)) j
    have KF := Lib.hid (And.intro k1 (And.intro k2 (And.intro k3 (And.intro k4 k5))))
    obtain ⟨cj, hcj⟩ : ∃ cj, cj = ((c.codeAgain 3 L)).copyN j := ⟨_, rfl⟩
    rw [← hcj] at hS k1 k2 k3 k4 k5
    have HCJ := Lib.hid hcj
    clear hcj
    have hlen2 : cj.told.length < 1099511627776 := by rw [k1]; omega
    have H := hS.co
    have u7 := H.a7.1
    have K3 := Lib.hid k3
    clear k1 k2 k3 k4 k5
    by_cases hlt : j < L
    · have hlen3 : cj.told.length + 1 < 1099511627776 := by rw [HCJ.out, KF.out.1]; omega
      have hdd : decide ((j : Int) < ((L : Nat) : Int)) = true := decide_eq_true (by omega)
      skip
      go_wp2_with fail
      refine (lzmac_back H (d := cj.r0) rfl H.may.r0 hlen2).mono ?_
      rintro e w9 ⟨rfl, hw9⟩
      rw [hw9]
      clear hw9
      have hx256 := CO.at_lt H.may cj.r0
      obtain ⟨x, hx⟩ : ∃ x, x = cj.at_ cj.r0 := ⟨_, rfl⟩
      obtain ⟨y, hy⟩ : ∃ y, y = cj.is cj.r0 := ⟨_, rfl⟩
      rw [← hx] at hx256 ⊢
      rw [← hy]
      have HX := Lib.hid hx
      clear hx hy
      obtain ⟨nj, hnj⟩ : ∃ nj, nj = cj.told.length := ⟨_, rfl⟩
      have hown := H.own
      rw [← hnj] at hown hlen3
      have HNJ := Lib.hid hnj
      clear hnj
      have u11 := H.a11.1
      have hl3 := H.a11.lt
      go_wp2_with (at_builtin; refine wpList_append_new rfl (.tmp 252) (.tmp 254) 35 rfl 5 i0 (.int .u8 0) 1 Try.underlying35 hi hz0 hz1 hz2 rfl tv' _ _ (by simp [Act.eval]) (hown.alloc _) (some ⟨wr.heap.size, 0, none⟩) 1 1 [.int .u8 (x : Nat)] (by simp [Act.eval]) rfl (by simp) (by intro ad h j u hj; match j, hj with | 0, hj => simp at hj h; subst hj; subst h; simp [Addr.add]) (by intro u hu; simp at hu; subst hu; rfl) (by unfold maxLen; omega) (by omega) ?_; intro v' w4 h2 h3 h4 _; obtain ⟨g, cap2, rfl, hg⟩ := own_form h2 (by omega); have hk0 : Kept (fun b _ => tv'.ownBlock = some b) wr w4 := Kept.grown (by (repeat (first | exact Kept.refl _ _ | refine Kept.drewN ?_ _ | refine Kept.drew ?_ | refine Kept.setCell ?_ (by simp) _ | refine Kept.alloc ?_ _))) h3 (fun k hk => .inl (fun _ => hk)); have b11 := hk0.at_ _ _ _ H.tcb H.a11; have d11 := b11.1; have g11 := b11.2)
      go_roundw
      case rel =>
        have h4' : NewOr wr tv' (.slice (some ⟨g, 0, none⟩) (nj + 1) cap2) := h4.old (by simp)
        have S3 := CoderW.push H hx256 hk0 h4' (by rw [← HNJ.out]; exact h2)
        rw [K3.out] at S3
        have S4 := hS.trans S3
        refine ⟨j + 1, ov', .slice (some ⟨g, 0, none⟩) (nj + 1) cap2, by omega, by go_num, ?_⟩
        show CStep w1 _ A ov ov' tv _ c.n { CO.copyN ((c.codeAgain 3 L)) j with told := (CO.copyN ((c.codeAgain 3 L)) j).told ++ [(CO.copyN ((c.codeAgain 3 L)) j).at_ (CO.copyN ((c.codeAgain 3 L)) j).r0] }
        rw [← HCJ.out, ← HX.out]
        exact S4
      case measure => first | (simp [intOf]; omega) | simp [intOf]
    · have hdd : decide ((j : Int) < ((L : Nat) : Int)) = false := decide_eq_false (by omega)
      obtain rfl : j = L := by omega
      go_wp2_with fail
      go_ret
      have S4 := (CStep.ofKept h KB).trans hS
      rw [HCJ.out] at S4
      refine ⟨rfl, ov', tv', ?_⟩
      skip
      exact S4

end Go.Proofs.Ytahhcaooiahleaa
