/- The coder of LZMA: a packet that doesn't fit; a literal. -/
import Derived.Test.YtahhcaooiahleaaLit
namespace Go.Proofs.Ytahhcaooiahleaa
open Go Go.RowKit

theorem EncW.kept {S : Nat → Nat → Prop} {w w' : World} {eb : Nat} {ov : Value} {pa : Nat → Nat × Nat} {n : Nat} {s : CS} (h : EncW w eb ov pa n s) (k : Kept S w w') (h1 : ∀ o, ¬ S eb o) (h2 : ∀ b, ov.ownBlock = some b → ∀ o, ¬ S b o) (h3 : ∀ j, j < n → ¬ S (pa j).1 (pa j).2) : EncW w' eb ov pa n s :=
  ⟨h.renc.kept k h1 h2, h.pm.kept k h3, h.sep, h.ok, h.pok⟩

/-- A byte more is told. -/
theorem CoderW.push {w w1 : World} {A : CA} {ov tv tv' : Value} {c : CO} {x : Nat} (h : CoderW w A ov tv c) (hx : x < 256) (hk : Kept (fun b _ => tv.ownBlock = some b) w w1) (hn : NewOr w tv tv')
    (ho : w1.ownsRow 0 5 1 tv' (c.told.length + 1) (bts c.told ++ [.int .u8 (x : Nat)])) :
    CStep w (w1.setCell ⟨A.cb, 11, none⟩ tv') A ov ov tv tv' c.n { c with told := c.told ++ [x] } := by
  have hY : ∀ b, tv.ownBlock = some b → A.Y tv b := fun b hb => .inr (.inl hb)
  have n1 : ∀ _ : Nat, ¬ tv.ownBlock = some A.eb := fun _ e => h.apart.eb _ (hY _ e) rfl
  have n2 : ∀ b, ov.ownBlock = some b → ∀ o : Nat, ¬ tv.ownBlock = some b := fun b hb _ e => h.apart.ov _ (hY _ e) hb
  have n3 : ∀ j, j < c.n → ¬ tv.ownBlock = some (A.pa j).1 := fun j hj e => h.apart.pa _ (hY _ e) j hj rfl
  have e1 := h.enc.kept hk n1 n2 n3
  have y : A.Y tv A.cb := .inl rfl
  have m1 := h.apart.eb _ y
  have m2 := h.apart.ov _ y
  have m3 := h.apart.pa _ y
  have hlb := h.a0.lt
  have hcb' : tv'.ownBlock ≠ some A.cb := fun e => (hn _ e).elim h.tcb (fun e' => by omega)
  have hat : ∀ o v, At w A.cb o v → At w1 A.cb o v := fun o v ha => hk.at_ _ _ _ h.tcb ha
  have hel := h.enc.renc.a0.lt
  refine ⟨⟨⟨e1.renc.setOther m1 m2 _, e1.pm.setOther m3 _, e1.sep, e1.ok, e1.pok⟩, (h.probs.kept hk (fun b hb o e => (h.tX b hb).1 e)).kept (Kept.of_setCell _ ⟨A.cb, 11, none⟩ rfl _) (fun b hb o e => (h.tX b hb).2 e.1),
    (hat _ _ h.a0).set_other (by simp) _, (hat _ _ h.a1).set_other (by simp) _, (hat _ _ h.a2).set_other (by simp) _, (hat _ _ h.a3).set_other (by simp) _, (hat _ _ h.a4).set_other (by simp) _, (hat _ _ h.a5).set_other (by simp) _, (hat _ _ h.a6).set_other (by simp) _, (hat _ _ h.a7).set_other (by simp) _, (hat _ _ h.a8).set_other (by simp) _, (hat _ _ h.a9).set_other (by simp) _, (hat _ _ h.a10).set_other (by simp) _, (hat _ _ h.a11).set _, (hat _ _ h.a12).set_other (by simp) _,
    ?_, ⟨h.may.lc, h.may.lp, h.may.pb, h.may.d1, h.may.d2, h.may.st, h.may.r0, h.may.r1, h.may.r2, h.may.r3, fun z hz => ?_⟩, ⟨?_, ?_, ?_, ?_⟩, hcb', fun b hb => ⟨fun e => ?_, (h.tX b hb).2⟩⟩, NewOr.refl _ _, hn, ?_⟩
  · have e : bts (c.told ++ [x]) = bts c.told ++ [.int .u8 (x : Nat)] := by simp [bts]
    dsimp only
    rw [e, List.length_append]
    exact ownsRow_setCell_other ho hcb' _
  · simp only [List.mem_append, List.mem_singleton] at hz
    rcases hz with hz | rfl
    · exact h.may.told z hz
    · exact hx
  · intro b hb
    rcases hb with rfl | hb | hb
    · simpa using Nat.lt_of_lt_of_le hlb hk.size
    · simpa using (ho.lt b hb).2
    · simpa using Nat.lt_of_lt_of_le (h.apart.lt b (.inr (.inr hb))) hk.size
  · intro b hb
    rcases hb with rfl | hb | hb
    · exact m1
    · rcases hn b hb with h' | h'
      · exact h.apart.eb b (hY b h')
      · omega
    · exact h.apart.eb b (.inr (.inr hb))
  · intro b hb e
    have hol := (h.enc.renc.own.lt b e).2
    rcases hb with rfl | hb | hb
    · exact m2 e
    · rcases hn b hb with h' | h'
      · exact h.apart.ov b (hY b h') e
      · omega
    · exact h.apart.ov b (.inr (.inr hb)) e
  · intro b hb j hj e
    have hpl := (h.enc.pm.at_ j hj).lt
    rcases hb with rfl | hb | hb
    · exact m3 j hj e
    · rcases hn b hb with h' | h'
      · exact h.apart.pa b (hY b h') j hj e
      · omega
    · exact h.apart.pa b (.inr (.inr hb)) j hj e
  · rcases hn b e with h' | h'
    · exact (h.tX b hb).1 h'
    · have := h.apart.lt b (.inr (.inr hb)); omega
  · exact (hk.mono (fun i o hi => .inr (.inl hi))).setCell (.inl (.inl rfl)) _

/-- All that a coder's calls write lies there. -/
theorem CoderW.wlt {w : World} {A : CA} {ov tv : Value} {c : CO} (h : CoderW w A ov tv c) {b o : Nat} (hs : CoderS A ov tv c.n b o) : b < w.heap.size := by
  rcases hs with rfl | hs | rfl | hs | ⟨j, hj, rfl⟩
  · exact h.a0.lt
  · exact (h.own.lt b hs).2
  · exact h.enc.renc.a0.lt
  · exact (h.enc.renc.own.lt b hs).2
  · exact (h.enc.pm.at_ j hj).lt

def CO.ctx (c : CO) : Nat := c.told.length % 2 ^ c.pb

def CO.codeLit (c : CO) (b : Nat) : CO :=
  { c with enc := (c.enc.bit (16 * c.state + c.ctx) 0).litGo (1847 + 768 * c.litAt) b (c.at_ c.r0) 8 1 (decide (7 ≤ c.state)), state := litState c.state, told := c.told ++ [b] }

set_option maxRecDepth 100000 in
set_option maxHeartbeats 1000000 in
theorem lzmac_Code_no {w : World} {A : CA} {ov tv : Value} {c : CO} (h : CoderW w A ov tv c) {k l : Int} {b d : Nat} (hd : (d : Int) < 4294967296) (hlen : c.told.length < 1099511627776) (hf : c.fits k l d = false) :
    Calls Try.prog 18 #[.pointer (some ⟨A.cb, 0, none⟩), pktv k b l d] w fun e w' =>
      e = .returned (.bool false) ∧ Kept (fun _ _ => False) w w' := by
  go_enter Try.func18, Try.ntmps18
  unfold pktv
  go_wp2_with fail
  have K0 : Kept (fun _ _ => False) w (w.alloc (.cells #[.int .i64 k, .int .u8 (b : Nat), .int .i64 l, .int .u32 (d : Nat)] 26)) := Kept.of_alloc _ _ _
  refine (lzmac_Fits (k := k) (l := l) (b := b) (d := d) (h.kept K0 (by simp)) hd hlen).mono ?_
  rintro e w1 ⟨rfl, K1⟩
  rw [hf]
  go_wp2_with fail
  go_ret
  exact ⟨rfl, K0.trans K1⟩

theorem CoderW.reach_pk {w : World} {A : CA} {ov tv : Value} {c : CO} (h : CoderW w A ov tv c) : A.X A.pk := h.probs.rep.1

set_option maxRecDepth 100000 in
set_option maxHeartbeats 2000000 in
theorem lzmac_Code_lit {w : World} {A : CA} {ov tv : Value} {c : CO} (h : CoderW w A ov tv c) {l : Int} {b d : Nat} (hb : b < 256) (hd : (d : Int) < 4294967296) (hlen : c.told.length + 1 < 1099511627776) (hn : c.enc.e.count + 16 < 1099511627776) (hf : c.ended = false) :
    Calls Try.prog 18 #[.pointer (some ⟨A.cb, 0, none⟩), pktv 0 b l d] w fun e w' =>
      e = .returned (.bool true) ∧ ∃ ov' tv', CStep w w' A ov ov' tv tv' c.n (c.codeLit b) := by
  have hfit : c.fits 0 l d = true := by simp [CO.fits, hf]
  obtain ⟨i0, hi, hz0, hz1, hz2⟩ := info_parts Try.info_u8
  go_enter Try.func18, Try.ntmps18
  unfold pktv
  go_wp2_with fail
  have hwl : ∀ o, ¬ CoderS A ov tv c.n w.heap.size o := fun o e => by have := h.wlt e; omega
  obtain ⟨w0, hw0⟩ : ∃ w0, w0 = w.alloc (.cells #[.int .i64 0, .int .u8 (b : Nat), .int .i64 l, .int .u32 (d : Nat)] 26) := ⟨_, rfl⟩
  have K0 : Kept (fun _ _ => False) w w0 := by rw [hw0]; exact Kept.of_alloc _ _ _
  obtain ⟨bx, hbx⟩ : ∃ bx, bx = w.heap.size := ⟨_, rfl⟩
  have B0 : At w0 bx 0 (.int .i64 0) := by rw [hw0, hbx]; exact At.alloc_new _ _ _ _ _ rfl
  have B1 : At w0 bx 1 (.int .u8 (b : Nat)) := by rw [hw0, hbx]; exact At.alloc_new _ _ _ _ _ rfl
  have B2 : At w0 bx 2 (.int .i64 l) := by rw [hw0, hbx]; exact At.alloc_new _ _ _ _ _ rfl
  rw [← hbx] at hwl ⊢
  rw [← hw0]
  clear hw0 hbx
  refine (lzmac_Fits (k := 0) (l := l) (b := b) (d := d) (h.kept K0 (by simp)) hd (by omega)).mono ?_
  rintro e w1 ⟨rfl, K1⟩
  rw [hfit]
  have KB := K0.trans K1
  have H1 := h.kept KB (by simp)
  have D0 := K1.at_ _ _ _ (by simp) B0
  have D1 := K1.at_ _ _ _ (by simp) B1
  have D2 := K1.at_ _ _ _ (by simp) B2
  clear B0 B1 B2 K0 K1
  have d0 := D0.1
  have d2 := D2.1
  obtain ⟨ao, cap, htv, _⟩ := own_shape h.own
  have c11 := H1.a11.1
  rw [htv] at c11
  have HTV := Lib.hid htv
  clear htv
  have c2 := H1.a2.1
  have c4 := H1.a4.1
  have c5 := H1.a5.1
  have c6 := H1.a6.1
  have hpb := h.may.pb
  obtain ⟨st, hst⟩ : ∃ st, st = c.state := ⟨_, rfl⟩
  obtain ⟨pb, hpb1⟩ : ∃ pb, pb = c.pb := ⟨_, rfl⟩
  obtain ⟨n, hn1⟩ : ∃ n, n = c.told.length := ⟨_, rfl⟩
  have hst12 := h.may.st
  rw [← hst] at c6 hst12
  rw [← hpb1] at c2 hpb
  rw [← hn1] at c11
  have hn2 : (n : Int) < 1099511627776 := by omega
  have hls := low_bits hn2 (k := pb) (by omega)
  obtain ⟨sx, hsx⟩ : ∃ sx, sx = n % 2 ^ pb := ⟨_, rfl⟩
  have hsx16 : sx < 16 := by
    have h1 : 2 ^ pb ≤ 2 ^ 4 := Nat.pow_le_pow_right (by decide) hpb
    have h2 := Nat.mod_lt n (Nat.pow_pos (n := pb) (a := 2) (by decide))
    omega
  rw [← hsx] at hls
  have hst13 : (st : Int) < 12 := by omega
  have hsx17 : (sx : Int) < 16 := by omega
  obtain ⟨om, cm, _, hm1, hm2⟩ := H1.probs.isMatch.2
  obtain ⟨gm, hm3, hm4⟩ := hm2 st hst12
  obtain ⟨gr, hr1, hr2⟩ := H1.probs.rep.2
  have p0 := hm1.1
  have p1 := hm3.1
  have p2 := hr1.1
  have HM4 := Lib.hid hm4
  have HST := Lib.hid hst
  have HPB := Lib.hid hpb1
  have HN := Lib.hid hn1
  have HSX := Lib.hid hsx
  clear hm2 hr2 hm4 hst hpb1 hn1 hsx
  go_wp2_with fail
  go_quiet (fail)
  clear hls
  obtain ⟨nq1, hnq1⟩ : ∃ y, y = nq := ⟨_, rfl⟩
  subst hnq1
  go_wp2_with fail
  go_quiet (fail)
  go_wp2_with fail
  obtain ⟨nq2, hnq2⟩ : ∃ y, y = nq1 + nq := ⟨_, rfl⟩
  rw [← hnq2]
  clear hnq2
  have S0 : CStep w1 (w1.drewN nq2) A ov ov tv tv c.n c := ⟨H1.drewN _, NewOr.refl _ _, NewOr.refl _ _, (Kept.refl _ _).drewN _⟩
  have E1 : At (w1.drewN nq2) bx 0 (.int .i64 0) := D0
  obtain ⟨wa, hwa⟩ : ∃ wa, wa = w1.drewN nq2 := ⟨_, rfl⟩
  rw [← hwa] at S0 ⊢
  clear hwa
  have hjm := HM4.out sx hsx16
  refine (renc_Bit S0.co.enc (j := 0 + 16 * st + sx) (by unfold CO.n; omega) (by rw [hjm]) rfl (by omega)).mono ?_
  rintro e w2 ⟨rfl, ov1, hE1⟩
  have S1 := S0.trans (CoderW.encStep S0.co hE1)
  have hcb1 := (RE.bit_ok h.enc.ok (h.enc.pok (0 + 16 * st + sx)) 0).2
  have E1' := S1.kept.at_ _ _ _ (hwl 1) D1
  have e1 := E1'.1
  clear S0 hE1
  go_wp2_with fail
  refine (lzmac_literal S1.co hb (by dsimp only; omega) (by dsimp only [CS.bit]; omega)).mono ?_
  rintro e w3 ⟨rfl, ov2, hE2⟩
  have S2 := S1.trans hE2
  have E2' := S2.kept.at_ _ _ _ (hwl 1) D1
  have e2 := E2'.1
  have HC := S2.co
  clear S1 hE2 E1' e1
  have c11 := HC.a11.1
  have f11 := HC.a11.2
  go_wp2_with fail
  have hl3 := HC.a11.lt
  have hb3 := E2'.lt
  have hown := HC.own
  dsimp only at hown
  rw [← HN.out] at hown
  go_region_law (refine step_append_new rfl (.tmp 111) (.tmp 114) 35 rfl 5 i0 (.int .u8 0) 1 Try.underlying35 hi hz0 hz1 hz2 rfl tv _ _ (by simp [Act.eval]) (hown.alloc _) (some ⟨w3.heap.size, 0, none⟩) 1 1 [.int .u8 (b : Nat)] (by simp [Act.eval]) rfl (by simp) (by intro ad h j u hj; match j, hj with | 0, hj => simp at hj h; subst hj; subst h; simp [Addr.add]) (by intro u hu; simp at hu; subst hu; rfl) (by unfold maxLen; omega) (by omega) ?_; intro v' w4 h2 h3 h4 _; obtain ⟨g, cap2, rfl, hg⟩ := own_form h2 (by omega); have hk0 : Kept (fun b _ => tv.ownBlock = some b) w3 w4 := Kept.grown (by (repeat (first | exact Kept.refl _ _ | refine Kept.drewN ?_ _ | refine Kept.drew ?_ | refine Kept.setCell ?_ (by simp) _ | refine Kept.alloc ?_ _))) h3 (fun k hk => .inl (fun _ => hk)); have b11 := hk0.at_ _ _ _ HC.tcb HC.a11; have d11 := b11.1; have g11 := b11.2)
  all_goals
    go_wp2_with fail
    go_ret
    have h4' : NewOr w3 tv (.slice (some ⟨g, 0, none⟩) (n + 1) cap2) := h4.old (by simp)
    have S3 := CoderW.push HC hb hk0 h4' (by dsimp only; rw [← HN.out]; exact h2)
    have S4 := (CStep.ofKept h KB).trans (S2.trans S3)
    refine ⟨rfl, ov2, .slice (some ⟨g, 0, none⟩) (n + 1) cap2, ?_⟩
    have hc1 : 16 * c.state + c.ctx = 0 + 16 * st + sx := by unfold CO.ctx; rw [HST.out, HSX.out, HN.out, HPB.out]; omega
    unfold CO.codeLit
    rw [hc1]
    exact S4

end Go.Proofs.Ytahhcaooiahleaa
