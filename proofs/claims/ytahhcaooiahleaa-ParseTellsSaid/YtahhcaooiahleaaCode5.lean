/- The coder of LZMA: the end mark; whatever packet. -/
import Derived.Test.YtahhcaooiahleaaCode4
namespace Go.Proofs.Ytahhcaooiahleaa
open Go Go.RowKit

def CO.codeEnd (c : CO) : CO :=
  { c with enc := ((((c.enc.bit (0 + 16 * c.state + c.ctx) 1).bit (192 + c.state) 0).len 819 c.ctx 0).dist 0 4294967295), state := if c.state < 7 then 7 else 10, r0 := 4294967295, r1 := c.r0, r2 := c.r1, r3 := c.r2, ended := true }

/-- A store into a block that is none of the coder's. -/
theorem CStep.box {w w3 : World} {A : CA} {ov ov2 tv tv2 : Value} {n : Nat} {c' : CO} (S : CStep w w3 A ov ov2 tv tv2 n c') {bx o : Nat} {v : Value} (hb : w.heap.size ≤ bx) (hn : ∀ b, (A.Y tv2 b ∨ b = A.eb ∨ ov2.ownBlock = some b ∨ ∃ j, j < c'.n ∧ (A.pa j).1 = b) → b ≠ bx) :
    CStep w (w3.setCell ⟨bx, o, none⟩ v) A ov ov2 tv tv2 n c' :=
  ⟨S.co.kept (Kept.of_setCell w3 ⟨bx, o, none⟩ rfl v) (fun b hb' o' e => hn b hb' e.1), S.newO, S.newT, S.kept.setCell (.inr hb) v⟩

set_option maxRecDepth 100000 in
set_option maxHeartbeats 4000000 in
theorem lzmac_Code_end {w : World} {A : CA} {ov tv : Value} {c : CO} (h : CoderW w A ov tv c) {b d : Nat} (hd : (d : Int) < 4294967296) (hlen : c.told.length + 300 < 1099511627776) (hn : c.enc.e.count + 200 < 1099511627776) {l : Int} (hfit : c.fits 7 l d = true) :
    Calls Try.prog 18 #[.pointer (some ⟨A.cb, 0, none⟩), pktv 7 b l d] w fun e w' =>
      e = .returned (.bool true) ∧ ∃ ov' tv', CStep w w' A ov ov' tv tv' c.n c.codeEnd := by
  have hf : c.ended = false := by
    cases hh : c.ended with
    | false => rfl
    | true => simp [CO.fits, hh] at hfit
  obtain ⟨i0, hi, hz0, hz1, hz2⟩ := info_parts Try.info_u8
  go_enter Try.func18, Try.ntmps18
  unfold pktv
  go_wp2_with fail
  have hwl : ∀ o, ¬ CoderS A ov tv c.n w.heap.size o := fun o e => by have := h.wlt e; omega
  obtain ⟨w0, hw0⟩ : ∃ w0, w0 = w.alloc (.cells #[.int .i64 7, .int .u8 (b : Nat), .int .i64 l, .int .u32 (d : Nat)] 26) := ⟨_, rfl⟩
  have K0 : Kept (fun _ _ => False) w w0 := by rw [hw0]; exact Kept.of_alloc _ _ _
  obtain ⟨bx, hbx⟩ : ∃ bx, bx = w.heap.size := ⟨_, rfl⟩
  have hbw : w.heap.size ≤ bx := Nat.le_of_eq hbx.symm
  have hwy : ∀ b, A.Y tv b → b ≠ bx := fun b hb e => by have := h.apart.lt b hb; omega
  have B0 : At w0 bx 0 (.int .i64 7) := by rw [hw0, hbx]; exact At.alloc_new _ _ _ _ _ rfl
  have B1 : At w0 bx 1 (.int .u8 (b : Nat)) := by rw [hw0, hbx]; exact At.alloc_new _ _ _ _ _ rfl
  have B2 : At w0 bx 2 (.int .i64 l) := by rw [hw0, hbx]; exact At.alloc_new _ _ _ _ _ rfl
  have B3 : At w0 bx 3 (.int .u32 (d : Nat)) := by rw [hw0, hbx]; exact At.alloc_new _ _ _ _ _ rfl
  rw [← hbx] at hwl ⊢
  rw [← hw0]
  clear hw0 hbx
  refine (lzmac_Fits (k := 7) (l := l) (b := b) (d := d) (h.kept K0 (by simp)) hd (by omega)).mono ?_
  rintro e w1 ⟨rfl, K1⟩
  rw [hfit]
  have KB := K0.trans K1
  have H1 := h.kept KB (by simp)
  have D0 := K1.at_ _ _ _ (by simp) B0
  have D1 := K1.at_ _ _ _ (by simp) B1
  have D2 := K1.at_ _ _ _ (by simp) B2
  have D3 := K1.at_ _ _ _ (by simp) B3
  clear B0 B1 B2 B3 K0 K1
  have d0 := D0.1
  have d2 := D2.1
  obtain ⟨ao, cap, htv, _⟩ := own_shape h.own
  have c11 := H1.a11.1
  rw [htv] at c11
  have HTV := Lib.hid htv
  clear htv
  have c2 := H1.a2.1
  have c4 := H1.a4.1
  have c5 := H1.a5.1
  have c6 := H1.a6.1
  have hpb := h.may.pb
  obtain ⟨st, hst⟩ : ∃ st, st = c.state := ⟨_, rfl⟩
  obtain ⟨pb, hpb1⟩ : ∃ pb, pb = c.pb := ⟨_, rfl⟩
  obtain ⟨n, hn1⟩ : ∃ n, n = c.told.length := ⟨_, rfl⟩
  have hst12 := h.may.st
  rw [← hst] at c6 hst12
  rw [← hpb1] at c2 hpb
  rw [← hn1] at c11
  have hn2 : (n : Int) < 1099511627776 := by omega
  have hls := low_bits hn2 (k := pb) (by omega)
  obtain ⟨sx, hsx⟩ : ∃ sx, sx = n % 2 ^ pb := ⟨_, rfl⟩
  have hsx16 : sx < 16 := by
    have h1 : 2 ^ pb ≤ 2 ^ 4 := Nat.pow_le_pow_right (by decide) hpb
    have h2 := Nat.mod_lt n (Nat.pow_pos (n := pb) (a := 2) (by decide))
    omega
  rw [← hsx] at hls
  have hst13 : (st : Int) < 12 := by omega
  have hsx17 : (sx : Int) < 16 := by omega
  obtain ⟨om, cm, _, hm1, hm2⟩ := H1.probs.isMatch.2
  obtain ⟨gm, hm3, hm4⟩ := hm2 st hst12
  obtain ⟨gr, hr1, hr2⟩ := H1.probs.rep.2
  have p0 := hm1.1
  have p1 := hm3.1
  have p2 := hr1.1
  have HM4 := Lib.hid hm4
  have HST := Lib.hid hst
  have HPB := Lib.hid hpb1
  have HN := Lib.hid hn1
  have HSX := Lib.hid hsx
  have HR2 := Lib.hid hr2
  clear hm2 hr2 hm4 hst hpb1 hn1 hsx
  go_wp2_with fail
  go_quiet (fail)
  clear hls
  obtain ⟨nq1, hnq1⟩ : ∃ y, y = nq := ⟨_, rfl⟩
  subst hnq1
  go_wp2_with fail
  go_quiet (fail)
  go_wp2_with fail
  obtain ⟨nq2, hnq2⟩ : ∃ y, y = nq1 + nq := ⟨_, rfl⟩
  rw [← hnq2]
  clear hnq2
  have S0 : CStep w1 (w1.drewN nq2) A ov ov tv tv c.n c := ⟨H1.drewN _, NewOr.refl _ _, NewOr.refl _ _, (Kept.refl _ _).drewN _⟩
  have E1 : At (w1.drewN nq2) bx 0 (.int .i64 7) := D0
  obtain ⟨wa, hwa⟩ : ∃ wa, wa = w1.drewN nq2 := ⟨_, rfl⟩
  rw [← hwa] at S0 ⊢
  clear hwa
  have hjm := HM4.out sx hsx16
  refine (renc_Bit S0.co.enc (j := 0 + 16 * st + sx) (by unfold CO.n; omega) (by rw [hjm]) rfl (by omega)).mono ?_
  rintro e w2 ⟨rfl, ov1, hE1⟩
  have T1 := CoderW.encStep S0.co hE1
  have S1 := S0.trans T1
  have hcb1 := EncW.count (j := 0 + 16 * st + sx) (b := 1) S0.co.enc
  have H2 := S1.co
  have q4 := H2.a4.1
  go_wp2_with fail
  refine (renc_Bit H2.enc (j := 192 + st) (by unfold CO.n; omega) (by rw [HR2.out st hst12]) rfl (by dsimp only; omega)).mono ?_
  rintro e w3 ⟨rfl, ov2, hE2⟩
  have T2 := CoderW.encStep H2 hE2
  have S2 := S1.trans T2
  have hcb2 := EncW.count (j := 192 + st) (b := 0) H2.enc
  have H3 := S2.co
  have hbl : bx < w1.heap.size := D3.lt
  have hbc : bx ≠ A.cb := fun e => hwl 0 (.inl e)
  have hcbx : A.cb ≠ bx := fun e => hbc e.symm
  have E30 := S2.kept.at_ _ _ _ (hwl 0) D0
  have e30 := E30.1
  have E33 := S2.kept.at_ _ _ _ (hwl 3) D3
  have e33 := E33.1
  have g33 := E33.2
  have r12 := H3.a12.1
  have f12 := H3.a12.2
  have S2w := (CStep.ofKept h KB).trans S2
  have T3 := S2w.box (bx := bx) (o := 3) (v := .int .u32 4294967295) hbw (fun b hb e => by
    subst e
    rcases hb with hb | hb | hb | ⟨j, hj, hb⟩
    · exact hwy _ hb rfl
    · exact hwl 0 (.inr (.inr (.inl hb)))
    · rcases S2.newO _ hb with h' | h'
      · exact hwl 0 (.inr (.inr (.inr (.inl h'))))
      · omega
    · exact hwl 0 (.inr (.inr (.inr (.inr ⟨j, hj, hb⟩)))))
  have T4 := T3.co.setEnded true
  have TZ := T3.trans T4
  clear q4 T3 T4
  go_wp2_with fail
  obtain ⟨wz, hwz⟩ : ∃ wz, wz = (w3.setCell ⟨bx, 3, none⟩ (.int .u32 4294967295)).setCell ⟨A.cb, 12, none⟩ (.bool true) := ⟨_, rfl⟩
  have Z3 : At wz bx 3 (.int .u32 4294967295) := by rw [hwz]; exact (E33.set _).set_other (by simp [hcbx]) _
  rw [← hwz] at TZ ⊢
  have hw1z : ∀ {b o : Nat} {v : Value}, ¬ CoderS A ov tv c.n b o → b ≠ bx → At w1 b o v → At wz b o v := fun {b o v} hn hb ha => by
    rw [hwz]
    exact ((S2.kept.at_ _ _ _ hn ha).set_other (by simp <;> (intro e; exact absurd e.symm hb)) _).set_other (by simp <;> (intro e; exact absurd (.inl e.symm) hn)) _
  clear hwz e33 g33 r12 f12 e30
  have H3 := TZ.co
  have hbx3 : ∀ o, ¬ CoderS A ov2 tv c.n bx o := fun o hs => by
    rcases hs with hs | hs | hs | hs | hs
    · exact hwl 0 (.inl hs)
    · exact hwl 0 (.inr (.inl hs))
    · exact hwl 0 (.inr (.inr (.inl hs)))
    · rcases S2.newO _ hs with h' | h'
      · exact hwl 0 (.inr (.inr (.inr (.inl h'))))
      · omega
    · exact hwl 0 (.inr (.inr (.inr (.inr hs))))
  have z33 := Z3.1
  have r7 := H3.a7.1
  have f7 := H3.a7.2
  have r8 := H3.a8.1
  have f8 := H3.a8.2
  have r9 := H3.a9.1
  have f9 := H3.a9.2
  have r10 := H3.a10.1
  have f10 := H3.a10.2
  have hcp := fun dc sc ty => reps_copy3 (w := wz.drew) H3.a7.drew H3.a8.drew H3.a9.drew H3.a10.drew rfl rfl rfl dc sc ty
  go_region
  clear hcp
  go_wp2_with fail
  go_region
  go_wp2_with fail
  have U1 := H3.setR1 (s := c.r0) h.may.r0
  have U2 := U1.co.setR2 (s := c.r1) h.may.r1
  have U3 := U2.co.setR3 (s := c.r2) h.may.r2
  have U0 := U3.co.setR0 (s := 4294967295) (by decide)
  have V := CStep.ofKept U0.co ((Kept.refl _ _).drew.drew)
  have S3 := (((U1.trans U2).trans U3).trans U0).trans V
  clear U1 U2 U3 U0 V z33 r7 f7 r8 f8 r9 f9 r10 f10
  obtain ⟨w4, hw4⟩ : ∃ w4, w4 = ((((wz.setCell ⟨A.cb, 8, none⟩ (.int .u32 (c.r0 : Nat))).setCell ⟨A.cb, 9, none⟩ (.int .u32 (c.r1 : Nat))).setCell ⟨A.cb, 10, none⟩ (.int .u32 (c.r2 : Nat))).setCell ⟨A.cb, 7, none⟩ (.int .u32 4294967295)).drew.drew := ⟨_, rfl⟩
  rw [show ((4294967295 : Nat) : Int) = 4294967295 from rfl] at S3
  rw [← hw4] at S3 ⊢
  clear hw4
  have H4 := S3.co
  have q4 := H4.a4.1
  have q5 := H4.a5.1
  obtain ⟨lb, hlb, hlens⟩ := H4.probs.len
  have p9 := hlb.1
  go_wp2_with fail
  go_still_tail 14, (by kernel_rfl)
  change wpList _ _ _ _ _ w4.drew
  go_wp2_with fail
  have hX : Apart w4.drew A.eb ov2 A.pa c.n A.X := ⟨fun b hb => H4.apart.lt b (.inr (.inr hb)), fun b hb => H4.apart.eb b (.inr (.inr hb)), fun b hb => H4.apart.ov b (.inr (.inr hb)), fun b hb => H4.apart.pa b (.inr (.inr hb))⟩
  refine (lens_tell H4.enc.drew (base := 819) (hlens.kept ((Kept.refl (fun _ _ => False) _).drew) (by simp)) hX (by show 819 + 514 ≤ c.n; unfold CO.n; omega) (sx := sx) (v := 0) hsx16 (by decide) rfl rfl (by dsimp only at *; omega)).mono ?_
  rintro e w5 ⟨rfl, ov4, hE4⟩
  have T4 := CoderW.encStep H4 hE4.ofDrew
  have S4 := S3.trans T4
  clear q4 q5 p9
  go_wp2_with fail
  refine (lzmac_next S4.co (y := 7) (o := 10) (by decide) (by decide) rfl rfl).mono ?_
  rintro e w6 ⟨rfl, T5⟩
  have S5 := S4.trans T5
  have g33 := (S5.kept.at_ _ _ _ (hbx3 3) Z3).1
  go_wp2_with fail
  have hlc := CSOk.lenCount (s := (c.enc.bit (0 + 16 * st + sx) 1).bit (192 + st) 0) (n := c.enc.e.count + 2) ⟨H3.enc.ok, H3.enc.pok, by first | omega | (dsimp only at *; omega)⟩ 819 sx 0
  refine (lzmac_distance S5.co (l := 0) (d := 4294967295) (by decide) (by decide) rfl rfl (by dsimp only; omega)).mono ?_
  rintro e w7 ⟨rfl, ov5, T6⟩
  have S6 := S5.trans T6
  have hcc : ({ c with enc := ((((c.enc.bit (0 + 16 * st + sx) 1).bit (192 + st) 0).len 819 sx 0).dist 0 4294967295), state := if c.state < 7 then 7 else 10, r0 := 4294967295, r1 := c.r0, r2 := c.r1, r3 := c.r2, ended := true } : CO) = c.codeEnd := by
    have hctx : c.ctx = sx := by unfold CO.ctx; rw [HSX.out, HN.out, HPB.out]
    unfold CO.codeEnd
    rw [hctx, HST.out]
  have S7 : CStep w w7 A ov ov5 tv tv c.n c.codeEnd := by rw [← hcc]; exact TZ.trans S6
  have q12 := S6.co.a12.1
  clear hcc T4 T5 T6 hlc hX g33
  go_wp2_with fail
  go_ret
  exact ⟨rfl, ov5, tv, S7⟩

end Go.Proofs.Ytahhcaooiahleaa
