/- Which packets tell bytes: the longest copies. -/
import Derived.Test.YtahhcaooiahleaaFind1
namespace Go.Proofs.Ytahhcaooiahleaa
open Go Go.RowKit

theorem parse_length {w : World} {F : FA} {b : List Nat} {te dict : Nat} {r : R4} {kn : Nat} (h : FindW w F b te dict r kn) {i d : Nat} (hi : i ≤ te) (hd : (d : Int) < 1099511627776) {z : Int} (hz : z = (d : Int)) :
    Calls Try.prog 94 #[.pointer (some ⟨F.fb, 0, none⟩), .int .i64 (i : Nat), .int .i64 z] w fun e w' => e = .returned (.int .i64 (long b te dict i d : Nat)) ∧ ∃ n, w' = w.drewN n := by
  subst hz
  by_cases hn : i ≤ d ∨ dict ≤ d
  · have e : long b te dict i d = 0 := if_pos hn
    rw [e]
    refine (parse_length_no h hi hd hn).mono ?_
    rintro e w' ⟨rfl, rfl⟩
    exact ⟨rfl, 0, rfl⟩
  · have e : long b te dict i d = mlen b i d (min 273 (te - i)) 0 := if_neg hn
    rw [e]
    exact parse_length_yes h hi (by omega) (by omega)

/-- What a finder's calls write. -/
def FindS (F : FA) (b _ : Nat) : Prop := b = F.fb ∨ b = F.lb ∨ b = F.ab

theorem prev_step (b : List Nat) (p n : Nat) : prev b p (n + 1) = if pairAt b n = p then n + 1 else prev b p n := rfl

theorem pairAt_lt {b : List Nat} (h : ∀ x ∈ b, x < 256) (i : Nat) : pairAt b i < 65536 := by
  have := getD_lt h i
  have := getD_lt h (i + 1)
  unfold pairAt
  omega

/-- A place more is known. -/
theorem FindW.learn {w : World} {F : FA} {b : List Nat} {te dict : Nat} {r : R4} {kn : Nat} (h : FindW w F b te dict r kn) (hk : kn + 1 < b.length) (q : Nat) :
    FindW ((((w.drewN q).setCell ⟨F.ab, kn, none⟩ (.int .i64 (prev b (pairAt b kn) kn : Nat))).setCell ⟨F.lb, pairAt b kn, none⟩ (.int .i64 ((kn : Int) + 1))).setCell ⟨F.fb, 9, none⟩ (.int .i64 ((kn : Int) + 1))) F b te dict r (kn + 1) ∧
    Kept (FindS F) w ((((w.drewN q).setCell ⟨F.ab, kn, none⟩ (.int .i64 (prev b (pairAt b kn) kn : Nat))).setCell ⟨F.lb, pairAt b kn, none⟩ (.int .i64 ((kn : Int) + 1))).setCell ⟨F.fb, 9, none⟩ (.int .i64 ((kn : Int) + 1))) := by
  rw [show (kn : Int) + 1 = ((kn + 1 : Nat) : Int) from by omega]
  have hp := pairAt_lt h.small kn
  obtain ⟨w1, hw1⟩ : ∃ w1, w1 = ((w.drewN q).setCell ⟨F.ab, kn, none⟩ (.int .i64 (prev b (pairAt b kn) kn : Nat))).setCell ⟨F.lb, pairAt b kn, none⟩ (.int .i64 ((kn + 1 : Nat) : Int)) := ⟨_, rfl⟩
  rw [← hw1]
  have n1 := h.n1
  have n2 := h.n2
  have n3 := h.n3
  have fbs : ∀ o v, At w F.fb o v → At w1 F.fb o v := fun o v ha => by
    rw [hw1]
    exact ((At.drewN ha q).set_other (by simp <;> (intro e; exact absurd e.symm n2)) _).set_other (by simp <;> (intro e; exact absurd e.symm n1)) _
  have key : ∀ o v, o ≠ 9 → At w F.fb o v → At (w1.setCell ⟨F.fb, 9, none⟩ (.int .i64 ((kn + 1 : Nat) : Int))) F.fb o v := fun o v ho ha => (fbs o v ha).set_other (by simp <;> omega) _
  have K : Kept (FindS F) w (w1.setCell ⟨F.fb, 9, none⟩ (.int .i64 ((kn + 1 : Nat) : Int))) := by
    refine Kept.setCell ?_ (.inl (.inl rfl)) _
    rw [hw1]
    refine Kept.setCell (Kept.setCell ((Kept.refl _ _).drewN q) (.inl (.inr (.inr rfl))) _) (.inl (.inr (.inl rfl))) _
  obtain ⟨x0, hx0, _⟩ := h.ahead kn (by omega)
  refine ⟨⟨key _ _ (by decide) h.f0, key _ _ (by decide) h.f1, key _ _ (by decide) h.f2, key _ _ (by decide) h.f3, key _ _ (by decide) h.f4, key _ _ (by decide) h.f5, key _ _ (by decide) h.f6, key _ _ (by decide) h.f7, key _ _ (by decide) h.f8, (fbs _ _ h.f9).set _,
    h.bytes.kept K (fun g hg o hs => ?_), fun p hp' => ?_, fun j hj => ?_, n1, n2, n3, h.own, h.small, h.len, h.to_le, h.d1, h.d2, by omega, h.ra, h.rb, h.rc, h.rd⟩, K⟩
  · obtain ⟨g1, g2, g3⟩ := h.own g hg
    rcases hs with e | e | e
    · exact g1 e
    · exact g2 e
    · exact g3 e
  · refine At.set_other ?_ (by simp <;> (intro e; exact absurd e n1)) _
    rw [hw1, prev_step]
    have hl := (At.drewN (h.last p hp') q).set_other (p := ⟨F.ab, kn, none⟩) (by simp <;> (intro e; exact absurd e.symm n3)) (.int .i64 (prev b (pairAt b kn) kn : Nat))
    by_cases e : pairAt b kn = p
    · rw [if_pos e, e]
      rw [e] at hl
      exact hl.set _
    · rw [if_neg e]
      exact hl.set_other (by simp <;> omega) _
  · obtain ⟨x, hx, hxe⟩ := h.ahead j hj
    by_cases e : j = kn
    · subst e
      refine ⟨prev b (pairAt b j) j, At.set_other ?_ (by simp <;> (intro e; exact absurd e n2)) _, fun _ => rfl⟩
      rw [hw1]
      exact ((At.drewN hx q).set _).set_other (by simp <;> (intro e; exact absurd e n3)) _
    · refine ⟨x, At.set_other ?_ (by simp <;> (intro e; exact absurd e n2)) _, fun hjk => hxe (by omega)⟩
      rw [hw1]
      exact ((At.drewN hx q).set_other (by simp <;> omega) _).set_other (by simp <;> (intro e; exact absurd e n3)) _

set_option maxRecDepth 100000 in
set_option maxHeartbeats 1000000 in
theorem parse_learn {w : World} {F : FA} {b : List Nat} {te dict : Nat} {r : R4} {kn : Nat} (h : FindW w F b te dict r kn) {i : Nat} (hi : i < te) (hk : kn ≤ i) :
    Calls Try.prog 128 #[.pointer (some ⟨F.fb, 0, none⟩), .int .i64 (i : Nat)] w fun e w' => e = .returned (.tuple #[]) ∧ ∃ kn', kn' ≤ i ∧ (i + 1 < b.length → kn' = i) ∧ FindW w' F b te dict r kn' ∧ Kept (FindS F) w w' := by
  have hlen := h.len
  have hto := h.to_le
  obtain ⟨N, hN⟩ : ∃ N, N = b.length := ⟨_, rfl⟩
  rw [← hN] at hlen hto ⊢
  have HN := Lib.hid hN
  clear hN
  go_enter Try.func128, Try.ntmps128
  go_wp2_with fail
  go_loopg [4] (i - kn) (fun g p wr => ∃ k, k ≤ i ∧ g = i - k ∧ FindW wr F b te dict r k ∧ Kept (FindS F) w wr)
  case atStart => exact ⟨kn, hk, rfl, h, Kept.refl _ _⟩
  case round =>
    obtain ⟨k, hki, hg, hF, hK⟩ := hrel
    have HG := Lib.hid hg
    clear hg
    have c9 := hF.f9.1
    have g9 := hF.f9.2
    obtain ⟨ao, cap, hv, _⟩ := hF.bytes.form
    have c0 := hF.f0.1
    rw [hv, ← HN.out] at c0
    have HV := Lib.hid hv
    clear hv
    have c7 := hF.f7.1
    have c8 := hF.f8.1
    rw [← HN.out] at c8
    have ew : IntKind.i64.wrap ((k : Int) + 1) = (k : Int) + 1 := IntWalk.i64_in _ (by omega)
    by_cases hlt : k < i
    · have t1 : decide ((k : Int) < (i : Int)) = true := decide_eq_true (by omega)
      have t2 : decide (k < i) = true := decide_eq_true hlt
      by_cases hlt2 : k + 1 < N
      · have t3 : decide ((k : Int) + 1 < (N : Int)) = true := decide_eq_true (by omega)
        obtain ⟨x0, hx0, _⟩ := hF.ahead k (by rw [← HN.out]; omega)
        have hp6 := pairAt_lt hF.small k
        obtain ⟨p, hp⟩ : ∃ p, p = pairAt b k := ⟨_, rfl⟩
        have hl0 := hF.last p (by rw [hp]; exact hp6)
        have hp7 : (p : Int) < 65536 := by rw [hp]; omega
        have HP := Lib.hid hp
        have HL := Lib.hid hl0
        have HX := Lib.hid hx0
        clear hp hp6
        have a1 := hx0.1
        have a2 := hx0.2
        have b1 := hl0.1
        have b2 := hl0.2
        have kN : (k : Int) < (N : Int) := by omega
        have n1 := hF.n1
        have n2 := hF.n2
        have n3 := hF.n3
        have n1' := n1.symm
        have n2' := n2.symm
        have n3' := n3.symm
        clear hl0 hx0
        go_wp2_with fail
        go_quiet (fail)
        go_wp2_with fail
        refine (parse_pair (hF.kept (kept_drewN _ _) (by simp)) (i := k) (by rw [← HN.out]; omega)).mono ?_
        rintro e w1 ⟨rfl, n', rfl⟩
        rw [← HP.out]
        go_wp2_with fail
        go_region
        go_wp2_with fail
        go_roundg (i - (k + 1))
        case rel =>
          obtain ⟨L1, L2⟩ := hF.learn (by rw [← HN.out]; omega) (nq + n' + 1)
          rw [← HP.out] at L1 L2
          exact ⟨k + 1, by omega, rfl, L1, hK.trans L2⟩
        case measure => have := HG.out; omega
      · have t3 : decide ((k : Int) + 1 < (N : Int)) = false := decide_eq_false (by omega)
        go_wp2_with fail
        go_quiet (fail)
        go_wp2_with fail
        go_end0
        exact ⟨rfl, k, hki, fun hh => by omega, hF.kept (kept_drewN _ _) (by simp), hK.drewN _⟩
    · have t1 : decide ((k : Int) < (i : Int)) = false := decide_eq_false (by omega)
      have t2 : decide (k < i) = false := decide_eq_false hlt
      go_wp2_with fail
      go_quiet (fail)
      go_wp2_with fail
      go_end0
      exact ⟨rfl, k, hki, fun hh => by omega, hF.kept (kept_drewN _ _) (by simp), hK.drewN _⟩

end Go.Proofs.Ytahhcaooiahleaa
