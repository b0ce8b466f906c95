/- The range coder (renc): what its calls do. -/
import Derived.Test.YtahhcaooiahleaaApp
import Derived.Test.YtahhcaooiahleaaPure
import Derived.Test.YtahhcaooiahleaaProg
namespace Go.Proofs.Ytahhcaooiahleaa
open Go Go.RowKit

/-- The numbers as bytes' values. -/
def bts (l : List Nat) : List Value := l.map fun (x : Nat) => .int .u8 x
theorem bts_length (l : List Nat) : (bts l).length = l.length := by simp [bts]
theorem bts_append (l r : List Nat) : bts (l ++ r) = bts l ++ bts r := by simp [bts]

theorem Try.info_u8 : (Try.prog.info? 5).map (fun i => (i.zero, i.size, i.bytes)) = some (some (.int .u8 0), 1, 1) := by kernel_rfl

/-- A range coder at block eb, whose bytes the slice ov holds. -/
structure Renc (w : World) (eb : Nat) (ov : Value) (c : RE) : Prop where
  a0 : At w eb 0 (.int .u64 (c.low : Nat))
  a1 : At w eb 1 (.int .u32 (c.rng : Nat))
  a2 : At w eb 2 (.int .u8 (c.waits : Nat))
  a3 : At w eb 3 (.int .i64 (c.more : Nat))
  a4 : At w eb 4 ov
  own : w.ownsRow 0 5 1 ov c.out.length (bts c.out)
  ne : ov.ownBlock ≠ some eb

/-- What a range coder writes. -/
def Renc.own' (eb : Nat) (ov : Value) (b : Nat) (_ : Nat) : Prop := b = eb ∨ ov.ownBlock = some b

theorem u8_wrap (n : Nat) : IntKind.u8.wrap (n : Int) = ((n % 256 : Nat) : Int) := by
  rw [IntKind.wrap_u8]; omega

/-- One byte more behind the coder's bytes. -/
theorem Renc.push {w w1 : World} {eb : Nat} {ov ov' : Value} {low rng waits more : Nat} {out : List Nat} {x : Nat} (h : Renc w eb ov { low, rng, waits, more, out })
    (hk : Kept (fun b _ => ov.ownBlock = some b) w w1) (hn : NewOr w ov ov') (ho : w1.ownsRow 0 5 1 ov' (out.length + 1) (bts out ++ [.int .u8 (x : Nat)])) :
    Renc (w1.setCell ⟨eb, 4, none⟩ ov') eb ov' { low, rng, waits, more, out := out ++ [x] } := by
  obtain ⟨a0, a1, a2, a3, a4, hown, hne⟩ := h
  have hne' : ov'.ownBlock ≠ some eb := fun e => (hn eb e).elim (fun e' => hne e') (fun e' => by have := a0.lt; omega)
  refine ⟨(hk.at_ _ _ _ hne a0).set_other (by simp) _, (hk.at_ _ _ _ hne a1).set_other (by simp) _, (hk.at_ _ _ _ hne a2).set_other (by simp) _, (hk.at_ _ _ _ hne a3).set_other (by simp) _, (hk.at_ _ _ _ hne a4).set _, ?_, hne'⟩
  have e : bts (out ++ [x]) = bts out ++ [.int .u8 (x : Nat)] := by simp [bts]
  rw [e, List.length_append]
  exact ownsRow_setCell_other ho hne' _

theorem Renc.drewN {w : World} {eb : Nat} {ov : Value} {c : RE} (h : Renc w eb ov c) (n : Nat) : Renc (w.drewN n) eb ov c := ⟨h.a0, h.a1, h.a2, h.a3, h.a4, h.own, h.ne⟩
theorem Renc.drew {w : World} {eb : Nat} {ov : Value} {c : RE} (h : Renc w eb ov c) : Renc w.drew eb ov c := ⟨h.a0, h.a1, h.a2, h.a3, h.a4, h.own, h.ne⟩
theorem Renc.setRng {w : World} {eb : Nat} {ov : Value} {c : RE} (h : Renc w eb ov c) (r : Nat) : Renc (w.setCell ⟨eb, 1, none⟩ (.int .u32 (r : Nat))) eb ov { c with rng := r } :=
  ⟨h.a0.set_other (by simp) _, h.a1.set _, h.a2.set_other (by simp) _, h.a3.set_other (by simp) _, h.a4.set_other (by simp) _, ownsRow_setCell_other h.own h.ne _, h.ne⟩
theorem Renc.setLow {w : World} {eb : Nat} {ov : Value} {c : RE} (h : Renc w eb ov c) (r : Nat) : Renc (w.setCell ⟨eb, 0, none⟩ (.int .u64 (r : Nat))) eb ov { c with low := r } :=
  ⟨h.a0.set _, h.a1.set_other (by simp) _, h.a2.set_other (by simp) _, h.a3.set_other (by simp) _, h.a4.set_other (by simp) _, ownsRow_setCell_other h.own h.ne _, h.ne⟩
theorem Renc.setOther {w : World} {eb : Nat} {ov : Value} {c : RE} (h : Renc w eb ov c) {b o : Nat} (h1 : b ≠ eb) (h2 : ov.ownBlock ≠ some b) (v : Value) : Renc (w.setCell ⟨b, o, none⟩ v) eb ov c :=
  ⟨h.a0.set_other (by simp [h1]) _, h.a1.set_other (by simp [h1]) _, h.a2.set_other (by simp [h1]) _, h.a3.set_other (by simp [h1]) _, h.a4.set_other (by simp [h1]) _, ownsRow_setCell_other h.own h2 _, h.ne⟩
theorem Renc.kept {S : Nat → Nat → Prop} {w w' : World} {eb : Nat} {ov : Value} {c : RE} (h : Renc w eb ov c) (k : Kept S w w') (h1 : ∀ o, ¬ S eb o) (h2 : ∀ b, ov.ownBlock = some b → ∀ o, ¬ S b o) : Renc w' eb ov c :=
  ⟨k.at_ _ _ _ (h1 0) h.a0, k.at_ _ _ _ (h1 1) h.a1, k.at_ _ _ _ (h1 2) h.a2, k.at_ _ _ _ (h1 3) h.a3, k.at_ _ _ _ (h1 4) h.a4, k.owns h.own h2, h.ne⟩

theorem mask24 (n : Nat) (h : n < 18446744073709551616) : bits .and .u64 (n : Int) 16777215 = ((n % 16777216 : Nat) : Int) := by
  have := u64_and_nat n 16777215 h (by decide)
  rw [nat_mask24] at this
  exact this

theorem give_yes {low rng waits more : Nat} {out : List Nat} {x y z : Nat} (h : low < 4278190080 ∨ 4294967296 ≤ low) (hx : x = (waits + low / 4294967296) % 256) (hy : y = (255 + low / 4294967296) % 256) (hz : z = low / 16777216 % 256) :
    RE.give { low, rng, waits, more, out } = { low := low % 16777216 * 256, rng, waits := z, more := 0, out := out ++ [x] ++ List.replicate more y } := by
  subst hx hy hz; unfold RE.give; rw [if_pos h]

theorem give_no {low rng waits more : Nat} {out : List Nat} (h : ¬ (low < 4278190080 ∨ 4294967296 ≤ low)) :
    RE.give { low, rng, waits, more, out } = { low := low % 16777216 * 256, rng, waits, more := more + 1, out } := by
  unfold RE.give; rw [if_neg h]

/- The give of a byte, where it is not told to wait: $1 the first byte as the walk writes it, $2 the same as a number's, $3 the byte that is repeated (a numeral), $4 what waits then, as the walk writes it. -/
set_option maxRecDepth 100000 in
set_option maxHeartbeats 800000 in
theorem renc_give {w : World} {eb : Nat} {ov : Value} {c : RE} (h : Renc w eb ov c) (hlow : c.low < 8589934592) (hwt : c.waits < 256) (hn : c.out.length + c.more + 8 < 1099511627776) :
    Calls Try.prog 127 #[.pointer (some ⟨eb, 0, none⟩)] w fun e w' =>
      e = .returned (.tuple #[]) ∧ ∃ ov', Renc w' eb ov' c.give ∧ NewOr w ov ov' ∧ Kept (Renc.own' eb ov) w w' := by
  obtain ⟨i0, hi, hz0, hz1, hz2⟩ := info_parts Try.info_u8
  obtain ⟨low, rng, waits, more, out⟩ := c
  have h0 := h
  obtain ⟨a0, a1, a2, a3, a4, hown, hne⟩ := h
  dsimp only at *
  have c0 := a0.1
  have c1 := a1.1
  have c2 := a2.1
  have c3 := a3.1
  have c4 := a4.1
  have f0 := a0.2
  have f2 := a2.2
  have f3 := a3.2
  have f4 := a4.2
  have hlt := a0.lt
  obtain ⟨x, hxd⟩ : ∃ x : Nat, x = (waits + low / 4294967296) % 256 := ⟨_, rfl⟩
  have HXD := Lib.hid hxd
  obtain ⟨lm, hlm⟩ : ∃ lm : Nat, lm = low % 16777216 := ⟨_, rfl⟩
  have hmask := mask24 low (by omega)
  rw [← hlm] at hmask
  have hlm2 : lm < 16777216 := by omega
  have HLM := Lib.hid hlm
  clear hlm
  by_cases hc : (low : Int) < 4278190080
  · have hcy : (low : Int) / 4294967296 = 0 := by omega
    have HX : Hid (IntKind.u8.wrap (waits : Int) = (x : Int)) := Lib.hid (by rw [IntKind.wrap_u8]; omega)
    clear hxd
    go_enter Try.func127, Try.ntmps127
    go_upto_region 2 with fail
    go_cut [] (fun wx => ∃ ov', Renc wx eb ov' { low, rng, waits, more, out := out ++ [x] } ∧ NewOr w ov ov' ∧ Kept (Renc.own' eb ov) w wx)
    case first =>
      go_region_law (refine step_append_new rfl (.tmp 25) (.tmp 32) 35 rfl 5 i0 (.int .u8 0) 1 Try.underlying35 hi hz0 hz1 hz2 rfl ov _ _ (by simp [Act.eval]) (hown.alloc _) (some ⟨w.heap.size, 0, none⟩) 1 1 [.int .u8 (IntKind.u8.wrap (waits : Int))] (by simp [Act.eval]) rfl (by simp) (by intro ad h j u hj; match j, hj with | 0, hj => simp at hj h; subst hj; subst h; simp [Addr.add]) (by intro u hu; simp at hu; subst hu; rfl) (by unfold maxLen; omega) (by omega) ?_; intro v' w1 h2 h3 h4 _; obtain ⟨g, cap, rfl, hg⟩ := own_form h2 (by omega); have hk0 : Kept (fun b _ => ov.ownBlock = some b) w w1 := Kept.grown (by (repeat (first | exact Kept.refl _ _ | refine Kept.drewN ?_ _ | refine Kept.drew ?_ | refine Kept.setCell ?_ (by simp) _ | refine Kept.alloc ?_ _))) h3 (fun k hk => .inl (fun _ => hk)); have b4 := hk0.at_ _ _ _ hne a4; have d4 := b4.1; have g4 := b4.2)
      all_goals
        go_wp2_with fail
        go_meet
        have h4' : NewOr w ov (.slice (some ⟨g, 0, none⟩) (out.length + 1) cap) := h4.old (by simp)
        have hX := HX.out
        rw [hX] at h2
        exact ⟨_, Renc.push h0 hk0 h4' h2, h4', (hk0.mono (fun _ _ h => .inr h)).setCell (.inl (.inl rfl)) _⟩
    case rest =>
      obtain ⟨ov1, h1, hn1, hk1⟩ := hcut
      have p3 := h1.a3.1
      go_wp2_with fail
      go_loopw [40] (fun i wr => ∃ (k : Nat) (ov' : Value), k ≤ more ∧ i = .int .i64 k ∧ Renc wr eb ov' { low, rng, waits, more, out := out ++ [x] ++ List.replicate k 255 } ∧ NewOr w ov ov' ∧ Kept (Renc.own' eb ov) w wr) (fun i _ => more - (intOf i).toNat)
      case atStart => exact ⟨0, ov1, Nat.zero_le _, rfl, by simpa using h1, hn1, hk1⟩
      case round =>
        obtain ⟨k, ov2, hk, rfl, hR, hN, hK⟩ := hrel
        by_cases hlt2 : k < more
        · have q4 := hR.a4.1
          have r4 := hR.a4.2
          have hRo : wr.ownsRow 0 5 1 ov2 (out.length + 1 + k) (bts (out ++ [x] ++ List.replicate k 255)) := by have := hR.own; simpa [Nat.add_assoc, Nat.add_comm 1 k] using this
          have hRl := hR.a0.lt
          go_wp2_with (at_builtin; refine wpList_append_new rfl (.tmp 46) (.tmp 49) 35 rfl 5 i0 (.int .u8 0) 1 Try.underlying35 hi hz0 hz1 hz2 rfl ov2 _ _ (by simp [Act.eval]) (hRo.alloc _) (some ⟨wr.heap.size, 0, none⟩) 1 1 [.int .u8 255] (by simp [Act.eval]) rfl (by simp) (by intro ad h j u hj; match j, hj with | 0, hj => simp at hj h; subst hj; subst h; simp [Addr.add]) (by intro u hu; simp at hu; subst hu; rfl) (by unfold maxLen; omega) (by omega) ?_; intro v' w1 h2 h3 h4 _; obtain ⟨g, cap, rfl, hg⟩ := own_form h2 (by omega); have hk0 : Kept (fun b _ => ov2.ownBlock = some b) wr w1 := Kept.grown (by (repeat (first | exact Kept.refl _ _ | refine Kept.drewN ?_ _ | refine Kept.drew ?_ | refine Kept.setCell ?_ (by simp) _ | refine Kept.alloc ?_ _))) h3 (fun k hk => .inl (fun _ => hk)); have b4 := hk0.at_ _ _ _ hR.ne hR.a4; have d4 := b4.1; have g4 := b4.2)
          go_roundw
          case rel =>
            have hn' : NewOr wr ov2 (.slice (some ⟨g, 0, none⟩) (out.length + 1 + k + 1) cap) := h4.old (by simp)
            have hN' := hN.trans hn' hK
            have e4 : (out ++ [x] ++ List.replicate k 255).length + 1 = out.length + 1 + k + 1 := by simp; omega
            have hP := Renc.push (out := out ++ [x] ++ List.replicate k 255) (x := 255) hR hk0 hn' (by rw [e4]; exact h2)
            have e3 : out ++ [x] ++ List.replicate k 255 ++ [255] = out ++ [x] ++ List.replicate (k + 1) 255 := by simp [List.replicate_succ']
            rw [e3] at hP
            exact ⟨k + 1, _, by omega, by go_num, hP, hN', (hK.trans' hk0 (fun i o h => (hN i h).imp .inr id)).setCell (.inl (.inl rfl)) _⟩
          case measure => simp [intOf]; omega
        · obtain rfl : k = more := by omega
          have q0 := hR.a0.1
          have r0 := hR.a0.2
          have r2 := hR.a2.2
          have r3 := hR.a3.2
          have q2 := hR.a2.1
          have q3 := hR.a3.1
          go_wp2
          go_end0
          rw [give_yes (x := x) (y := 255) (z := low / 16777216 % 256) (by omega) HXD.out (by omega) rfl]
          have e0 : ((low % 16777216 * 256 : Nat) : Int) = (lm : Int) * 256 := by have := HLM.out; omega
          have e2 : ((low / 16777216 % 256 : Nat) : Int) = (low : Int) / 16777216 := by (try rw [IntKind.wrap_u8]); omega
          refine ⟨rfl, ov2, ⟨?_, (((hR.a1.set_other (by simp) _).set_other (by simp) _).set_other (by simp) _), ?_, ?_, (((hR.a4.set_other (by simp) _).set_other (by simp) _).set_other (by simp) _), ?_, hR.ne⟩, hN, ?_⟩
          · dsimp only; rw [e0]; exact ((hR.a0.set_other (by simp) _).set_other (by simp) _).set _
          · dsimp only; rw [e2]; exact ((hR.a2.set _).set_other (by simp) _).set_other (by simp) _
          · exact (((hR.a3.set_other (by simp) _).set _).set_other (by simp) _)
          · exact ownsRow_setCell_other (ownsRow_setCell_other (ownsRow_setCell_other hR.own hR.ne _) hR.ne _) hR.ne _
          · exact ((hK.setCell (.inl (.inl rfl)) _).setCell (.inl (.inl rfl)) _).setCell (.inl (.inl rfl)) _
  · by_cases hc2 : (4294967296 : Int) ≤ low
    · have hcy : (low : Int) / 4294967296 = 1 := by omega
      have HX : Hid (IntKind.u8.wrap ((waits : Int) + 1) = (x : Int)) := Lib.hid (by rw [IntKind.wrap_u8]; omega)
      clear hxd
      go_enter Try.func127, Try.ntmps127
      go_upto_region 2 with fail
      go_cut [] (fun wx => ∃ ov', Renc wx eb ov' { low, rng, waits, more, out := out ++ [x] } ∧ NewOr w ov ov' ∧ Kept (Renc.own' eb ov) w wx)
      case first =>
        go_region_law (refine step_append_new rfl (.tmp 25) (.tmp 32) 35 rfl 5 i0 (.int .u8 0) 1 Try.underlying35 hi hz0 hz1 hz2 rfl ov _ _ (by simp [Act.eval]) (hown.alloc _) (some ⟨w.heap.size, 0, none⟩) 1 1 [.int .u8 (IntKind.u8.wrap ((waits : Int) + 1))] (by simp [Act.eval]) rfl (by simp) (by intro ad h j u hj; match j, hj with | 0, hj => simp at hj h; subst hj; subst h; simp [Addr.add]) (by intro u hu; simp at hu; subst hu; rfl) (by unfold maxLen; omega) (by omega) ?_; intro v' w1 h2 h3 h4 _; obtain ⟨g, cap, rfl, hg⟩ := own_form h2 (by omega); have hk0 : Kept (fun b _ => ov.ownBlock = some b) w w1 := Kept.grown (by (repeat (first | exact Kept.refl _ _ | refine Kept.drewN ?_ _ | refine Kept.drew ?_ | refine Kept.setCell ?_ (by simp) _ | refine Kept.alloc ?_ _))) h3 (fun k hk => .inl (fun _ => hk)); have b4 := hk0.at_ _ _ _ hne a4; have d4 := b4.1; have g4 := b4.2)
        all_goals
          go_wp2_with fail
          go_meet
          have h4' : NewOr w ov (.slice (some ⟨g, 0, none⟩) (out.length + 1) cap) := h4.old (by simp)
          have hX := HX.out
          rw [hX] at h2
          exact ⟨_, Renc.push h0 hk0 h4' h2, h4', (hk0.mono (fun _ _ h => .inr h)).setCell (.inl (.inl rfl)) _⟩
      case rest =>
        obtain ⟨ov1, h1, hn1, hk1⟩ := hcut
        have p3 := h1.a3.1
        go_wp2_with fail
        go_loopw [40] (fun i wr => ∃ (k : Nat) (ov' : Value), k ≤ more ∧ i = .int .i64 k ∧ Renc wr eb ov' { low, rng, waits, more, out := out ++ [x] ++ List.replicate k 0 } ∧ NewOr w ov ov' ∧ Kept (Renc.own' eb ov) w wr) (fun i _ => more - (intOf i).toNat)
        case atStart => exact ⟨0, ov1, Nat.zero_le _, rfl, by simpa using h1, hn1, hk1⟩
        case round =>
          obtain ⟨k, ov2, hk, rfl, hR, hN, hK⟩ := hrel
          by_cases hlt2 : k < more
          · have q4 := hR.a4.1
            have r4 := hR.a4.2
            have hRo : wr.ownsRow 0 5 1 ov2 (out.length + 1 + k) (bts (out ++ [x] ++ List.replicate k 0)) := by have := hR.own; simpa [Nat.add_assoc, Nat.add_comm 1 k] using this
            have hRl := hR.a0.lt
            go_wp2_with (at_builtin; refine wpList_append_new rfl (.tmp 46) (.tmp 49) 35 rfl 5 i0 (.int .u8 0) 1 Try.underlying35 hi hz0 hz1 hz2 rfl ov2 _ _ (by simp [Act.eval]) (hRo.alloc _) (some ⟨wr.heap.size, 0, none⟩) 1 1 [.int .u8 0] (by simp [Act.eval]) rfl (by simp) (by intro ad h j u hj; match j, hj with | 0, hj => simp at hj h; subst hj; subst h; simp [Addr.add]) (by intro u hu; simp at hu; subst hu; rfl) (by unfold maxLen; omega) (by omega) ?_; intro v' w1 h2 h3 h4 _; obtain ⟨g, cap, rfl, hg⟩ := own_form h2 (by omega); have hk0 : Kept (fun b _ => ov2.ownBlock = some b) wr w1 := Kept.grown (by (repeat (first | exact Kept.refl _ _ | refine Kept.drewN ?_ _ | refine Kept.drew ?_ | refine Kept.setCell ?_ (by simp) _ | refine Kept.alloc ?_ _))) h3 (fun k hk => .inl (fun _ => hk)); have b4 := hk0.at_ _ _ _ hR.ne hR.a4; have d4 := b4.1; have g4 := b4.2)
            go_roundw
            case rel =>
              have hn' : NewOr wr ov2 (.slice (some ⟨g, 0, none⟩) (out.length + 1 + k + 1) cap) := h4.old (by simp)
              have hN' := hN.trans hn' hK
              have e4 : (out ++ [x] ++ List.replicate k 0).length + 1 = out.length + 1 + k + 1 := by simp; omega
              have hP := Renc.push (out := out ++ [x] ++ List.replicate k 0) (x := 0) hR hk0 hn' (by rw [e4]; exact h2)
              have e3 : out ++ [x] ++ List.replicate k 0 ++ [0] = out ++ [x] ++ List.replicate (k + 1) 0 := by simp [List.replicate_succ']
              rw [e3] at hP
              exact ⟨k + 1, _, by omega, by go_num, hP, hN', (hK.trans' hk0 (fun i o h => (hN i h).imp .inr id)).setCell (.inl (.inl rfl)) _⟩
            case measure => simp [intOf]; omega
          · obtain rfl : k = more := by omega
            have q0 := hR.a0.1
            have r0 := hR.a0.2
            have r2 := hR.a2.2
            have r3 := hR.a3.2
            have q2 := hR.a2.1
            have q3 := hR.a3.1
            go_wp2
            go_end0
            rw [give_yes (x := x) (y := 0) (z := low / 16777216 % 256) (by omega) HXD.out (by omega) rfl]
            have e0 : ((low % 16777216 * 256 : Nat) : Int) = (lm : Int) * 256 := by have := HLM.out; omega
            have e2 : ((low / 16777216 % 256 : Nat) : Int) = IntKind.u8.wrap ((low : Int) / 16777216) := by (try rw [IntKind.wrap_u8]); omega
            refine ⟨rfl, ov2, ⟨?_, (((hR.a1.set_other (by simp) _).set_other (by simp) _).set_other (by simp) _), ?_, ?_, (((hR.a4.set_other (by simp) _).set_other (by simp) _).set_other (by simp) _), ?_, hR.ne⟩, hN, ?_⟩
            · dsimp only; rw [e0]; exact ((hR.a0.set_other (by simp) _).set_other (by simp) _).set _
            · dsimp only; rw [e2]; exact ((hR.a2.set _).set_other (by simp) _).set_other (by simp) _
            · exact (((hR.a3.set_other (by simp) _).set _).set_other (by simp) _)
            · exact ownsRow_setCell_other (ownsRow_setCell_other (ownsRow_setCell_other hR.own hR.ne _) hR.ne _) hR.ne _
            · exact ((hK.setCell (.inl (.inl rfl)) _).setCell (.inl (.inl rfl)) _).setCell (.inl (.inl rfl)) _
    · clear hxd
      go_enter Try.func127, Try.ntmps127
      go_wp2
      go_end0
      rw [give_no (by omega)]
      have e0 : ((low % 16777216 * 256 : Nat) : Int) = (lm : Int) * 256 := by have := HLM.out; omega
      refine ⟨rfl, ov, ⟨?_, ((a1.set_other (by simp) _).set_other (by simp) _), ((a2.set_other (by simp) _).set_other (by simp) _), ((a3.set _).set_other (by simp) _), ((a4.set_other (by simp) _).set_other (by simp) _), ?_, hne⟩, NewOr.refl _ _, ?_⟩
      · dsimp only; rw [e0]; exact ((a0.set_other (by simp) _).set _)
      · exact ownsRow_setCell_other (ownsRow_setCell_other hown hne _) hne _
      · exact ((Kept.refl _ _).setCell (.inl (.inl rfl)) _).setCell (.inl (.inl rfl)) _

end Go.Proofs.Ytahhcaooiahleaa
