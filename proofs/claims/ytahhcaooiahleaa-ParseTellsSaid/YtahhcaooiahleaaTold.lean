/- The coder of LZMA: bytes that no packet told; what was told. -/
import Derived.Test.YtahhcaooiahleaaCode1
import Derived.Test.YtahhcaooiahleaaBytes
namespace Go.Proofs.Ytahhcaooiahleaa
open Go Go.RowKit

/-- Bytes more are told. -/
theorem CoderW.pushAll {w w1 : World} {A : CA} {ov tv tv' : Value} {c : CO} {l : List Nat} (h : CoderW w A ov tv c) (hx : ∀ x ∈ l, x < 256) (hk : Kept (fun b _ => tv.ownBlock = some b) w w1) (hn : NewOr w tv tv')
    (ho : w1.ownsRow 0 5 1 tv' (c.told.length + l.length) (bts c.told ++ bts l)) :
    CStep w (w1.setCell ⟨A.cb, 11, none⟩ tv') A ov ov tv tv' c.n { c with told := c.told ++ l } := by
  have hY : ∀ b, tv.ownBlock = some b → A.Y tv b := fun b hb => .inr (.inl hb)
  have n1 : ∀ _ : Nat, ¬ tv.ownBlock = some A.eb := fun _ e => h.apart.eb _ (hY _ e) rfl
  have n2 : ∀ b, ov.ownBlock = some b → ∀ o : Nat, ¬ tv.ownBlock = some b := fun b hb _ e => h.apart.ov _ (hY _ e) hb
  have n3 : ∀ j, j < c.n → ¬ tv.ownBlock = some (A.pa j).1 := fun j hj e => h.apart.pa _ (hY _ e) j hj rfl
  have e1 := h.enc.kept hk n1 n2 n3
  have y : A.Y tv A.cb := .inl rfl
  have m1 := h.apart.eb _ y
  have m2 := h.apart.ov _ y
  have m3 := h.apart.pa _ y
  have hlb := h.a0.lt
  have hcb' : tv'.ownBlock ≠ some A.cb := fun e => (hn _ e).elim h.tcb (fun e' => by omega)
  have hat : ∀ o v, At w A.cb o v → At w1 A.cb o v := fun o v ha => hk.at_ _ _ _ h.tcb ha
  have hel := h.enc.renc.a0.lt
  refine ⟨⟨⟨e1.renc.setOther m1 m2 _, e1.pm.setOther m3 _, e1.sep, e1.ok, e1.pok⟩, (h.probs.kept hk (fun b hb o e => (h.tX b hb).1 e)).kept (Kept.of_setCell _ ⟨A.cb, 11, none⟩ rfl _) (fun b hb o e => (h.tX b hb).2 e.1),
    (hat _ _ h.a0).set_other (by simp) _, (hat _ _ h.a1).set_other (by simp) _, (hat _ _ h.a2).set_other (by simp) _, (hat _ _ h.a3).set_other (by simp) _, (hat _ _ h.a4).set_other (by simp) _, (hat _ _ h.a5).set_other (by simp) _, (hat _ _ h.a6).set_other (by simp) _, (hat _ _ h.a7).set_other (by simp) _, (hat _ _ h.a8).set_other (by simp) _, (hat _ _ h.a9).set_other (by simp) _, (hat _ _ h.a10).set_other (by simp) _, (hat _ _ h.a11).set _, (hat _ _ h.a12).set_other (by simp) _,
    ?_, ⟨h.may.lc, h.may.lp, h.may.pb, h.may.d1, h.may.d2, h.may.st, h.may.r0, h.may.r1, h.may.r2, h.may.r3, fun z hz => ?_⟩, ⟨?_, ?_, ?_, ?_⟩, hcb', fun b hb => ⟨fun e => ?_, (h.tX b hb).2⟩⟩, NewOr.refl _ _, hn, ?_⟩
  · have e : bts (c.told ++ l) = bts c.told ++ bts l := by simp [bts]
    dsimp only
    rw [e, List.length_append]
    exact ownsRow_setCell_other ho hcb' _
  · simp only [List.mem_append] at hz
    rcases hz with hz | hz
    · exact h.may.told z hz
    · exact hx z hz
  · intro b hb
    rcases hb with rfl | hb | hb
    · simpa using Nat.lt_of_lt_of_le hlb hk.size
    · simpa using (ho.lt b hb).2
    · simpa using Nat.lt_of_lt_of_le (h.apart.lt b (.inr (.inr hb))) hk.size
  · intro b hb
    rcases hb with rfl | hb | hb
    · exact m1
    · rcases hn b hb with h' | h'
      · exact h.apart.eb b (hY b h')
      · omega
    · exact h.apart.eb b (.inr (.inr hb))
  · intro b hb e
    have hol := (h.enc.renc.own.lt b e).2
    rcases hb with rfl | hb | hb
    · exact m2 e
    · rcases hn b hb with h' | h'
      · exact h.apart.ov b (hY b h') e
      · omega
    · exact h.apart.ov b (.inr (.inr hb)) e
  · intro b hb j hj e
    have hpl := (h.enc.pm.at_ j hj).lt
    rcases hb with rfl | hb | hb
    · exact m3 j hj e
    · rcases hn b hb with h' | h'
      · exact h.apart.pa b (hY b h') j hj e
      · omega
    · exact h.apart.pa b (.inr (.inr hb)) j hj e
  · rcases hn b e with h' | h'
    · exact (h.tX b hb).1 h'
    · have := h.apart.lt b (.inr (.inr hb)); omega
  · exact (hk.mono (fun i o hi => .inr (.inl hi))).setCell (.inl (.inl rfl)) _

/-- A slice of bytes that may be appended: where it is nil it has no room. -/
structure BSrc (w : World) (v : Value) (l : List Nat) : Prop where
  form : ∃ ao cap, v = .slice ao l.length cap ∧ (ao = none → cap = 0) ∧ ∀ i x, l[i]? = some x → ∃ g o, ao = some ⟨g, o, none⟩ ∧ w.cell? ⟨g, o + i, none⟩ = some (.int .u8 (x : Nat))

theorem BSrc.row {w : World} {v : Value} {l : List Nat} (h : BSrc w v l) : BRow w v l := by
  obtain ⟨ao, cap, h1, _, h3⟩ := h.form
  exact ⟨ao, cap, h1, h3⟩

theorem BSrc.own {w : World} {base : Nat} {v : Value} {l : List Nat} (h : w.ownsRow base 5 1 v l.length (bts l)) : BSrc w v l := by
  obtain ⟨ao, cap, h1, h3⟩ := (BRow.own h).form
  refine ⟨ao, cap, h1, fun e => ?_, h3⟩
  rcases h.2 with ⟨hv, _⟩ | ⟨g, cap', cur, hv, _⟩
  · rw [hv] at h1
    injection h1 with _ _ e3
    exact e3.symm
  · rw [hv, e] at h1
    injection h1 with e1
    cases e1

theorem BSrc.kept {S : Nat → Nat → Prop} {w w' : World} {v : Value} {l : List Nat} (h : BSrc w v l) (k : Kept S w w') (hs : ∀ b, v.ownBlock = some b → ∀ o, ¬ S b o) : BSrc w' v l := by
  obtain ⟨ao, cap, h1, h2, h3⟩ := h.form
  refine ⟨ao, cap, h1, h2, fun i x hx => ?_⟩
  obtain ⟨g, o, hg, ha⟩ := h3 i x hx
  refine ⟨g, o, hg, ?_⟩
  have hb : g < w.heap.size := World.block_lt_of_cell? w ⟨g, o + i, none⟩ ha
  have he := k.block g hb (hs g (by rw [h1, hg]; rfl))
  exact (World.cell?_of_block (w := w) he).trans ha

/-- What an append wants of the bytes that it appends. -/
theorem BSrc.news {w : World} {v : Value} {l : List Nat} {ao : Option Addr} {cap : Nat} (h : ∀ i x, l[i]? = some x → ∃ g o, ao = some ⟨g, o, none⟩ ∧ w.cell? ⟨g, o + i, none⟩ = some (.int .u8 (x : Nat))) :
    (∀ ad, ao = some ad → ∀ j u, (bts l)[j]? = some u → w.cell? (ad.add j) = some u) ∧ (∀ u ∈ bts l, u.oneCell' = true) ∧ (bts l).length = l.length ∧ (ao = none → l.length = 0) := by
  refine ⟨fun ad hao j u hu => ?_, fun u hu => ?_, by simp [bts], fun hao => ?_⟩
  · have hj : j < l.length := by
      have := (List.getElem?_eq_some_iff.1 hu).1
      simpa [bts] using this
    obtain ⟨g, o, hg, hc⟩ := h j _ (List.getElem?_eq_getElem hj)
    rw [hao] at hg
    injection hg with hg
    subst hg
    have e : u = .int .u8 ((l[j] : Nat) : Int) := by
      have h2 := bts_get hj
      rw [hu] at h2
      injection h2 with h2
      rw [h2]
      simp [List.getD, hj]
    rw [e, Addr.add_lit]
    exact hc
  · unfold bts at hu
    obtain ⟨x, _, rfl⟩ := List.mem_map.1 hu
    rfl
  · refine Nat.eq_zero_of_not_pos (fun hp => ?_)
    obtain ⟨g, o, hg, _⟩ := h 0 _ (List.getElem?_eq_getElem hp)
    rw [hao] at hg
    cases hg

set_option maxRecDepth 100000 in
set_option maxHeartbeats 400000 in
theorem slices_Clone {w : World} {v : Value} {l : List Nat} (h : BSrc w v l) (hl : (l.length : Int) < 1099511627776) :
    Calls Try.prog 53 #[v] w fun e w' => ∃ v', e = .returned v' ∧ w'.ownsRow w.heap.size 5 1 v' l.length (bts l) ∧ Kept (fun _ _ => False) w w' := by
  obtain ⟨i0, hi, hz0, hz1, hz2⟩ := info_parts Try.info_u8
  obtain ⟨ao, cap, rfl, hcap, hrow⟩ := h.form
  obtain ⟨n1, n2, n3, n4⟩ := BSrc.news (v := .slice ao l.length cap) (cap := cap) hrow
  obtain ⟨n, hn⟩ : ∃ n, n = l.length := ⟨_, rfl⟩
  rw [← hn] at hl n3 n4 ⊢
  have hl2 : n < 1099511627776 := by omega
  cases ao with
  | none =>
    obtain rfl := n4 rfl
    have e : bts l = [] := List.eq_nil_of_length_eq_zero n3
    rw [e]
    clear n1 n2 n3 n4 hrow h hl hn e
    have q : ∀ (w : World) (a : Option Addr) (n c n' c' : Nat), (binOp .eql 35 (.slice a n c) (.slice none n' c')).run Try.prog w = .ok (.bool a.isNone) w := fun w a n c n' c' => Lib.run_eql_slice_nil w _ _ a n c n' c' Try.underlying35
    go_enter Try.func53, Try.ntmps53
    go_wp2_with fail
    go_ret
    exact ⟨_, rfl, World.ownsRow_nil _ _ _ _, Kept.refl _ _⟩
  | some ad =>
    have q : ∀ (w : World) (a : Option Addr) (n c n' c' : Nat), (binOp .eql 35 (.slice a n c) (.slice none n' c')).run Try.prog w = .ok (.bool a.isNone) w := fun w a n c n' c' => Lib.run_eql_slice_nil w _ _ a n c n' c' Try.underlying35
    have N1 := Lib.hid n1
    have N2 := Lib.hid n2
    have N3 := Lib.hid n3
    clear n1 n2 n3 n4 hrow h hn hcap
    go_enter Try.func53, Try.ntmps53
    go_wp2_with (at_builtin; refine wpList_append_own _ rfl _ _ 35 rfl w.heap.size 5 i0 (.int .u8 0) 1 1 Try.underlying35 hi hz0 hz1 hz2 rfl (by decide) _ _ _ rfl (World.ownsRow_made w #[] 0 (Nat.le_refl _) (Nat.zero_le _) rfl) ad n cap (bts l) rfl ?qc1 ?qc2 ?qc3 ?qc4 ?qc5 ?qc6 ?_)
    case qc1 => rw [N3.out]; omega
    case qc2 =>
      intro j u hj
      exact Lib.cell?_alloc_some _ (N1.out ad rfl j u hj)
    case qc3 => exact N2.out
    case qc4 => unfold maxLen; omega
    case qc5 => omega
    case qc6 => simp
    intro v' w1 hown hgrow hnil
    go_wp2_with fail
    go_ret
    refine ⟨v', rfl, by simpa using hown, ?_⟩
    exact ((Kept.refl (fun _ _ => False) w).alloc _).grown hgrow (fun k hk => .inr (by simp [Value.ownBlock] at hk; omega))

set_option maxRecDepth 100000 in
set_option maxHeartbeats 400000 in
theorem lzmac_Told {w : World} {A : CA} {ov tv : Value} {c : CO} (h : CoderW w A ov tv c) (hlen : (c.told.length : Int) < 1099511627776) :
    Calls Try.prog 23 #[.pointer (some ⟨A.cb, 0, none⟩)] w fun e w' => ∃ v', e = .returned v' ∧ w'.ownsRow w.heap.size 5 1 v' c.told.length (bts c.told) ∧ Kept (fun _ _ => False) w w' := by
  have c11 := h.a11.1
  have hS := BSrc.own h.own
  go_enter Try.func23, Try.ntmps23
  go_wp2_with fail
  refine (slices_Clone hS hlen).mono ?_
  rintro e w1 ⟨v', rfl, hO, hK⟩
  go_wp2_with fail
  go_ret
  exact ⟨v', rfl, hO, hK⟩

set_option maxRecDepth 100000 in
set_option maxHeartbeats 400000 in
theorem lzmac_Reps {w : World} {A : CA} {ov tv : Value} {c : CO} (h : CoderW w A ov tv c) :
    Calls Try.prog 24 #[.pointer (some ⟨A.cb, 0, none⟩)] w fun e w' => e = .returned (.agg #[.int .u32 (c.r0 : Nat), .int .u32 (c.r1 : Nat), .int .u32 (c.r2 : Nat), .int .u32 (c.r3 : Nat)]) ∧ Kept (fun _ _ => False) w w' := by
  have c7 := h.a7.1
  have c8 := h.a8.1
  have c9 := h.a9.1
  have c10 := h.a10.1
  have hcb := h.a7.lt
  go_enter Try.func24, Try.ntmps24
  go_wp2_with fail
  refine bodyPost_ret (v := .agg #[.int .u32 (c.r0 : Nat), .int .u32 (c.r1 : Nat), .int .u32 (c.r2 : Nat), .int .u32 (c.r3 : Nat)]) (by simp [results, Try.results24, go_sem]) rfl ⟨rfl, ?_⟩
  (repeat (first | exact Kept.refl _ _ | refine Kept.drewN ?_ _ | refine Kept.drew ?_ | refine Kept.setCell ?_ (by simp) _ | refine Kept.alloc ?_ _))

set_option maxRecDepth 100000 in
set_option maxHeartbeats 400000 in
theorem lzmac_Put {w : World} {A : CA} {ov tv : Value} {c : CO} (h : CoderW w A ov tv c) {v : Value} {l : List Nat} (hv : BSrc w v l) (hx : ∀ x ∈ l, x < 256) (hlen : ((c.told.length + l.length : Nat) : Int) < 1099511627776) :
    Calls Try.prog 21 #[.pointer (some ⟨A.cb, 0, none⟩), v] w fun e w' => e = .returned (.tuple #[]) ∧ ∃ tv', CStep w w' A ov ov tv tv' c.n { c with told := c.told ++ l } := by
  obtain ⟨i0, hi, hz0, hz1, hz2⟩ := info_parts Try.info_u8
  obtain ⟨ao, cap, rfl, hcap, hrow⟩ := hv.form
  obtain ⟨n1, n2, n3, n4⟩ := BSrc.news (v := .slice ao l.length cap) (cap := cap) hrow
  have c11 := h.a11.1
  have hown := h.own
  obtain ⟨n, hn⟩ : ∃ n, n = l.length := ⟨_, rfl⟩
  obtain ⟨m, hm⟩ : ∃ m, m = c.told.length := ⟨_, rfl⟩
  rw [← hn] at n3 n4 hlen ⊢
  rw [← hm] at hown hlen
  have N1 := Lib.hid n1
  have N2 := Lib.hid n2
  have N4 := Lib.hid n4
  have N5 := Lib.hid hcap
  have HN := Lib.hid hn
  have HM := Lib.hid hm
  have N3 := Lib.hid n3
  have HX := Lib.hid hx
  have hl2 : m + n < 1099511627776 := by omega
  clear n1 n2 n3 n4 hcap hrow hv hn hm hx hlen
  go_enter Try.func21, Try.ntmps21
  go_wp2_with (at_builtin; refine wpList_append_new rfl (.tmp 8) (.tmp 9) 35 rfl 5 i0 (.int .u8 0) 1 Try.underlying35 hi hz0 hz1 hz2 rfl tv _ _ (by simp [Act.eval]) hown ao n cap (bts l) (by simp [Act.eval]) N3.out (fun e => ⟨N4.out e, N5.out e⟩) N1.out N2.out (by unfold maxLen; omega) (by omega) ?_; intro v' w4 h2 h3 h4 _; obtain ⟨ao2, cap2, rfl, _⟩ := own_shape h2; have hk0 : Kept (fun b _ => tv.ownBlock = some b) w w4 := Kept.grown (Kept.refl _ _) h3 (fun k hk => .inl (fun _ => hk)); have b11 := hk0.at_ _ _ _ h.tcb h.a11; have d11 := b11.1; have g11 := b11.2)
  go_end0
  refine ⟨rfl, _, CoderW.pushAll h HX.out hk0 h4 ?_⟩
  rw [← HM.out, ← HN.out]
  exact h2

end Go.Proofs.Ytahhcaooiahleaa
