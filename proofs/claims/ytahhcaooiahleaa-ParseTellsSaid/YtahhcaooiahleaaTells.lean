/- garblerlaw10.ParseTells: the walk of the law. -/
import Derived.Test.YtahhcaooiahleaaAwake10
import Derived.Test.YtahhcaooiahleaaTells0
import Derived.Test.YtahhcaooiahleaaFind8
namespace Go.Proofs.Ytahhcaooiahleaa
open Go Go.RowKit

theorem CO.foldl_ok : ∀ (ps : List Pkt) (c : CO) (n t : Nat), (∀ p ∈ ps, (p.d : Int) < 4294967296) → CSOk c.enc n → c.told.length ≤ t →
    CSOk (ps.foldl CO.step c).enc (n + 60 * ps.length) ∧ (ps.foldl CO.step c).told.length ≤ t + 273 * ps.length ∧ (ps.foldl CO.step c).n = c.n := by
  intro ps
  induction ps with
  | nil => intro c n t _ h ht; exact ⟨h, ht, rfl⟩
  | cons p ps ih =>
    intro c n t hp h ht
    have h1 := CO.step_ok h p (hp p (by simp))
    have h2 := CO.step_len c p
    obtain ⟨q1, q2, q3⟩ := ih (c.step p) (n + 60) (t + 273) (fun q hq => hp q (by simp [hq])) h1 (by omega)
    rw [List.foldl_cons, List.length_cons]
    exact ⟨q1.more (by omega), by omega, q3.trans (CO.step_n c p).1⟩

theorem BSrc.cut {w : World} {ao : Option Addr} {n cap : Nat} {l : List Nat} (h : BSrc w (.slice ao n cap) l) {k : Nat} (hk : k ≤ l.length) : BSrc w (.slice ao k cap) (l.take k) := by
  obtain ⟨ao', cap', h1, h2, h3⟩ := h.form
  injection h1 with e1 e2 e3
  subst e1 e2 e3
  have hlen : (l.take k).length = k := by rw [List.length_take]; omega
  exact ⟨ao, cap, by rw [hlen], h2, fun i x hx => h3 i x (by
    rw [List.getElem?_take] at hx
    split at hx
    · exact hx
    · cases hx)⟩

/-- What the law's coder and packets are. -/
structure TPre (l : List Nat) (i k : Nat) (ps : List Pkt) (r : R4) : Prop where
  find : find l k 4096 i ⟨0, 0, 0, 0⟩ = (ps, r)
  ik : i ≤ k
  kl : k ≤ l.length
  l4 : l.length ≤ 4000
  small : ∀ x ∈ l, x < 256

def tellC (l : List Nat) (i : Nat) : CO := { CO.new 3 0 2 4096 with told := l.take i }

theorem TPre.all {l : List Nat} {i k : Nat} {ps : List Pkt} {r : R4} (h : TPre l i k ps r) :
    Tells l 4096 k r (ps.foldl CO.step (tellC l i)) ∧ (∀ j p, ps[j]? = some p → ((ps.take j).foldl CO.step (tellC l i)).fits p.k p.l p.d = true) ∧ (∀ p ∈ ps, p.b < 256 ∧ (p.d : Int) < 4294967296) ∧ ps.length ≤ 4000 := by
  have hT : Tells l 4096 i ⟨0, 0, 0, 0⟩ (tellC l i) := ⟨rfl, rfl, rfl, rfl⟩
  have h1 := Tells.all (te := k) (dict := 4096) h.kl (k - i) i ⟨0, 0, 0, 0⟩ (tellC l i) (by omega) h.ik hT
  have h2 := find_small (te := k) (dict := 4096) h.small (by decide) (k - i) i ⟨0, 0, 0, 0⟩ (Nat.le_refl _)
  have h3 := find_count (b := l) (te := k) (dict := 4096) (k - i) i ⟨0, 0, 0, 0⟩ (Nat.le_refl _)
  rw [h.find] at h1 h2 h3
  have := h.kl
  have := h.l4
  exact ⟨h1.1, fun j p hp => h1.2 j (List.getElem?_eq_some_iff.1 hp).1 p hp, h2, by dsimp only at h3; omega⟩

set_option maxRecDepth 100000 in
set_option maxHeartbeats 1000000 in
theorem law10_Tells_long {w : World} {ao : Option Addr} {N cap : Nat} {a b : Int} (hN : (N : Int) ≤ 9223372036854775807) (h4 : 4000 < N) :
    Calls Try.prog 4 #[.slice ao N cap, .int .u16 a, .int .u16 b] w fun e w' => e = .returned (.bool true) ∧ Kept (fun _ _ => False) w w' := by
  have d1 : decide ((4000 : Int) < (N : Int)) = true := decide_eq_true (by omega)
  have d2 : decide (4000 < N) = true := decide_eq_true h4
  go_enter Try.func4, Try.ntmps4
  go_wp2_with fail
  refine law10_awake.mono ?_
  rintro e w1 ⟨rfl, K1⟩
  go_wp2_with fail
  go_ret
  exact ⟨rfl, K1⟩

set_option maxRecDepth 100000 in
set_option maxHeartbeats 4000000 in
theorem law10_Tells_in {w : World} {ao : Option Addr} {N cap : Nat} {l : List Nat} (hv : BSrc w (.slice ao N cap) l) (hN : N = l.length) (hcap : N ≤ cap) {fr tz i t k : Nat} (hf : fr < 65536) (ht : tz < 65536) (hi : i = min fr N) (htt : t = max tz i) (hk : k = min t N) {ps : List Pkt} {r : R4} (P : TPre l i k ps r) :
    Calls Try.prog 4 #[.slice ao N cap, .int .u16 (fr : Nat), .int .u16 (tz : Nat)] w fun e w' => e = .returned (.bool true) ∧ Kept (fun _ _ => False) w w' := by
  have hN4 := P.l4
  rw [← hN] at hN4
  have d1 : decide ((4000 : Int) < (N : Int)) = false := decide_eq_false (by omega)
  have d2 : decide (4000 < N) = false := decide_eq_false (by omega)
  have m1 : (if N < fr then (N : Int) else (fr : Int)) = (i : Int) := by split <;> omega
  have m2 : (if tz < i then (i : Int) else (tz : Int)) = (t : Int) := by split <;> omega
  have m3 : (if N < t then (N : Int) else (t : Int)) = (k : Int) := by split <;> omega
  have b1 : (fr : Int) < 65536 := by omega
  have b2 : (tz : Int) < 65536 := by omega
  have b3 : (i : Int) ≤ (N : Int) := by omega
  have b4 : (k : Int) ≤ (N : Int) := by omega
  have b5 : (N : Int) ≤ 4000 := by omega
  have b6 : (t : Int) ≤ 65536 := by omega
  have b7 : i ≤ cap := by omega
  have b8 : k ≤ cap := by omega
  have HN := Lib.hid hN
  clear hi htt hk hN hf ht
  obtain ⟨hT, hfit, hsm, hps⟩ := P.all
  have HF := Lib.hid hfit
  have HSM := Lib.hid hsm
  have HT := Lib.hid hT
  have HPF := Lib.hid P.find
  clear hfit hsm hT
  have ik := P.ik
  have kl := P.kl
  go_enter Try.func4, Try.ntmps4
  go_wp2_with fail
  refine law10_awake.mono ?_
  rintro e w1 ⟨rfl, K1⟩
  go_wp2_with fail
  refine (parse_Find (hv.kept K1 (by simp)) (by rw [← HN.out]; omega) P.small (fr := i) (te := k) (dict := 4096) (r := ⟨0, 0, 0, 0⟩) ik kl (by decide) (by decide) (by decide) (by decide) (by decide) (by decide)).mono ?_
  rintro e w2 ⟨pv, rfl, hP, _, K2⟩
  rw [HPF.out] at hP ⊢
  unfold R4.val
  obtain ⟨ap, cp, rfl, hrow⟩ := hP.form
  obtain ⟨n, hn⟩ : ∃ n, n = ps.length := ⟨_, rfl⟩
  rw [← hn] at hps ⊢
  have HNP := Lib.hid hn
  have HRW := Lib.hid hrow
  clear hn hrow
  clear m1 m2 m3
  go_wp2_with fail
  obtain ⟨w3, hw3⟩ : ∃ w3, w3 = w2.alloc (.cells #[.int .u32 (r.a : Nat), .int .u32 (r.b : Nat), .int .u32 (r.c : Nat), .int .u32 (r.d : Nat)] 38) := ⟨_, rfl⟩
  have K3 : Kept (fun _ _ => False) w2 w3 := by rw [hw3]; exact Kept.of_alloc _ _ _
  obtain ⟨br, hbr⟩ : ∃ br, br = w2.heap.size := ⟨_, rfl⟩
  have A0 : At w3 br 0 (.int .u32 (r.a : Nat)) := by rw [hw3, hbr]; exact At.alloc_new _ _ _ _ _ rfl
  have A1 : At w3 br 1 (.int .u32 (r.b : Nat)) := by rw [hw3, hbr]; exact At.alloc_new _ _ _ _ _ rfl
  have A2 : At w3 br 2 (.int .u32 (r.c : Nat)) := by rw [hw3, hbr]; exact At.alloc_new _ _ _ _ _ rfl
  have A3 : At w3 br 3 (.int .u32 (r.d : Nat)) := by rw [hw3, hbr]; exact At.alloc_new _ _ _ _ _ rfl
  rw [← hw3, ← hbr]
  clear hw3 hbr
  have hNew := lzmac_New_yes (w := w3) (lc := 3) (lp := 0) (pb := 2) (dict := 4096) (by decide)
  rw [setv_awake] at hNew
  refine hNew.mono ?_
  rintro e w4 ⟨A, rfl, hCo, K4, hFr⟩
  clear hNew
  have hF2 : ∀ b o, CoderS A (.slice none 0 0) (.slice none 0 0) (CO.new 3 0 2 4096).n b o → w3.heap.size ≤ b := by
    intro b o hb
    refine hFr b ?_
    rcases hb with hb | hb | hb | hb | hb
    · exact .inl (.inl hb)
    · simp [Value.ownBlock] at hb
    · exact .inr (.inl hb)
    · simp [Value.ownBlock] at hb
    · exact .inr (.inr hb)
  have HF2 := Lib.hid hF2
  clear hFr hF2
  go_wp2_with fail
  have K14 : Kept (fun _ _ => False) w w4 := (K1.trans K2).trans (K3.trans K4)
  have hlt : (l.take i).length = i := by rw [List.length_take]; omega
  refine (lzmac_Put hCo ((hv.kept K14 (by simp)).cut (by omega)) (fun x hx => P.small x (List.mem_of_mem_take hx)) (by rw [hlt]; show ((0 + i : Nat) : Int) < _; omega)).mono ?_
  rintro e w5 ⟨rfl, tv1, hS1⟩
  have hc0 : ({ CO.new 3 0 2 4096 with told := (CO.new 3 0 2 4096).told ++ l.take i } : CO) = tellC l i := rfl
  rw [hc0] at hS1
  have K34 : Kept (fun _ _ => False) w3 w5 := hS1.fresh K4 HF2.out
  clear hc0 hlt
  have hok := fun (q : List Pkt) (hq : ∀ p ∈ q, (p.d : Int) < 4294967296) => CO.foldl_ok q (tellC l i) 5 4000 hq (new_ok (lc := 3) (lp := 0) (pb := 2) (dict := 4096)) (by show (l.take i).length ≤ 4000; rw [List.length_take]; omega)
  have HOK := Lib.hid hok
  clear hok
  go_wp2_with fail
  go_loopw [13] (fun j wr => ∃ (m : Nat) (ov tv : Value), m ≤ n ∧ j = .int .i64 (m : Nat) ∧ CStep w4 wr A (.slice none 0 0) ov (.slice none 0 0) tv (CO.new 3 0 2 4096).n ((ps.take m).foldl CO.step (tellC l i)) ∧ Kept (fun _ _ => False) w3 wr) (fun j _ => n - (intOf j).toNat)
  case atStart => exact ⟨0, _, _, Nat.zero_le _, rfl, hS1, K34⟩
  case round =>
    obtain ⟨m, ov, tv, hm, rfl, hS, hK⟩ := hrel
    have hmI : (m : Int) < 1099511627776 := by omega
    by_cases hlt : m < n
    · have d3 : decide ((m : Int) < (n : Int)) = true := decide_eq_true (by omega)
      have d4 : decide (m < n) = true := decide_eq_true hlt
      have hmn : (m : Int) < (n : Int) := by omega
      obtain ⟨p, hp⟩ : ∃ p, ps[m]? = some p := ⟨_, List.getElem?_eq_getElem (by rw [← HNP.out]; exact hlt)⟩
      obtain ⟨g, o, rfl, hg, q0, q1, q2, q3⟩ := HRW.out m p hp
      have KR := K3.trans hK
      have r0 := KR.cellF q0
      have r1 := KR.cellF q1
      have r2 := KR.cellF q2
      have r3 := KR.cellF q3
      obtain ⟨s1, s2, s3⟩ := HOK.out (ps.take m) (fun x hx => (HSM.out x (List.mem_of_mem_take hx)).2)
      have hlm : (ps.take m).length = m := by rw [List.length_take, ← HNP.out]; omega
      rw [hlm] at s1 s2
      have hfp := HF.out m p hp
      have hpb := HSM.out p (List.mem_of_getElem? hp)
      have hcode := lzmac_Code hS.co (p := p) hpb.1 hpb.2 (by omega) (by have := s1.c; omega)
      rw [hfp] at hcode
      unfold Pkt.val pktv at hcode
      have HCD := Lib.hid hcode
      have HP := Lib.hid hp
      have HS3 := Lib.hid s3
      clear q0 q1 q2 q3 hp s1 s2 s3 hlm hfp hcode hpb
      go_wp2_with fail
      refine HCD.out.mono ?_
      rintro e w6 ⟨rfl, ov2, tv2, hS2⟩
      rw [HS3.out] at hS2
      have hS3 := hS.trans hS2
      go_wp2_with fail
      go_roundw
      case rel =>
        have e1 : (ps.take (m + 1)).foldl CO.step (tellC l i) = CO.step ((ps.take m).foldl CO.step (tellC l i)) p := by rw [List.take_add_one, HP.out]; simp
        refine ⟨m + 1, ov2, tv2, by omega, by go_num, by rw [e1]; exact hS3, hS3.fresh K4 HF2.out⟩
      case measure => simp [intOf]; omega
    · have d3 : decide ((m : Int) < (n : Int)) = false := decide_eq_false (by omega)
      have d4 : decide (m < n) = false := decide_eq_false hlt
      obtain rfl : m = n := by omega
      have et : ps.take m = ps := by rw [HNP.out]; exact List.take_length
      rw [et] at hS
      have hTT := HT.out
      obtain ⟨cf, hcf⟩ : ∃ cf, cf = ps.foldl CO.step (tellC l i) := ⟨_, rfl⟩
      rw [← hcf] at hS hTT
      have HC := hS.co
      have hkl : (l.take k).length = k := by rw [List.length_take]; omega
      have htold : cf.told.length = k := by rw [hTT.told, hkl]
      have hR := hTT.reps
      have KW : Kept (fun _ _ => False) w wr := (K1.trans K2).trans (K3.trans hK)
      have a0 := hK.cellF A0.1
      have a1 := hK.cellF A1.1
      have a2 := hK.cellF A2.1
      have a3 := hK.cellF A3.1
      have hBk : BRow wr (.slice ao k cap) (l.take k) := ((hv.kept KW (by simp)).cut (by omega)).row
      have heq := eqRep
      have HTO := Lib.hid htold
      have HRR := Lib.hid hR
      have HTTs := Lib.hid hTT
      clear et hcf htold hR hTT
      have Z0 := hK.at_ _ _ _ (by simp) A0
      have Z1 := hK.at_ _ _ _ (by simp) A1
      have Z2 := hK.at_ _ _ _ (by simp) A2
      have Z3 := hK.at_ _ _ _ (by simp) A3
      have hkb : ((l.take k).length : Int) < 1099511627776 := by rw [hkl]; omega
      have hkt : (cf.told.length : Int) < 1099511627776 := by rw [HTO.out]; omega
      have e0 : cf.r0 = r.a := congrArg R4.a HRR.out
      have e1 : cf.r1 = r.b := congrArg R4.b HRR.out
      have e2 : cf.r2 = r.c := congrArg R4.c HRR.out
      have e3 : cf.r3 = r.d := congrArg R4.d HRR.out
      have hRp := fun (wq : World) (kq : Kept (fun _ _ => False) wr wq) => lzmac_Reps (HC.kept kq (by simp))
      rw [e0, e1, e2, e3] at hRp
      have hTo := fun (wq : World) (kq : Kept (fun _ _ => False) wr wq) => lzmac_Told (HC.kept kq (by simp)) hkt
      have hBy := fun (wq : World) (kq : Kept (fun _ _ => False) wr wq) (tw : Value) (hw : BRow wq tw cf.told) => ref01_Bytes hw (hBk.kept kq (by simp)) hkt hkb
      rw [decide_eq_true HTTs.out.told] at hBy
      have HRp := Lib.hid hRp
      have HTo := Lib.hid hTo
      have HBy := Lib.hid hBy
      have HZ0 := Lib.hid Z0
      have HZ1 := Lib.hid Z1
      have HZ2 := Lib.hid Z2
      have HZ3 := Lib.hid Z3
      clear hRp hTo hBy e0 e1 e2 e3 Z0 Z1 Z2 Z3 hkb hkt hkl
      go_wp2_with fail
      go_region_held3 (fun w' => w'.cell? ⟨br, 0, none⟩ = some (.int .u32 (r.a : Nat)) ∧ w'.cell? ⟨br, 1, none⟩ = some (.int .u32 (r.b : Nat)) ∧ w'.cell? ⟨br, 2, none⟩ = some (.int .u32 (r.c : Nat)) ∧ w'.cell? ⟨br, 3, none⟩ = some (.int .u32 (r.d : Nat)))
        ((refine keepF4 (w := wr) ?_ HZ0.out HZ1.out HZ2.out HZ3.out; repeat (first | exact Kept.refl _ _ | refine Kept.drew ?_ | refine Kept.drewN ?_ _ | refine Kept.trans ?_ hKp | refine Kept.trans ?_ hKb | refine Kept.trans ?_ hKt)))
        (first
          | (go_at_call 23; refine (HTo.out _ (by (repeat (first | exact Kept.refl _ _ | refine Kept.drewN ?_ _ | refine Kept.drew ?_ | refine Kept.setCell ?_ (by simp) _ | refine Kept.alloc ?_ _)))).mono ?_; rintro e wt ⟨tw, rfl, hOt, hKt⟩; have hrt := BRow.own hOt)
          | (go_at_call 22; refine (HBy.out _ (by (repeat (first | exact Kept.refl _ _ | refine Kept.drew ?_ | refine Kept.drewN ?_ _ | refine Kept.trans ?_ hKt))) _ hrt).mono ?_; rintro e wb ⟨rfl, hKb⟩)
          | (go_at_call 24; refine (HRp.out _ (by (repeat (first | exact Kept.refl _ _ | refine Kept.drew ?_ | refine Kept.drewN ?_ _ | refine Kept.trans ?_ hKb | refine Kept.trans ?_ hKt)))).mono ?_; rintro e wp ⟨rfl, hKp⟩))
      all_goals
        go_wp2_with fail
        go_ret
        refine ⟨rfl, ?_⟩
        refine Kept.trans KW ?_
        repeat (first | exact Kept.refl _ _ | refine Kept.drew ?_ | refine Kept.drewN ?_ _ | refine Kept.trans ?_ hKp | refine Kept.trans ?_ hKb | refine Kept.trans ?_ hKt)

end Go.Proofs.Ytahhcaooiahleaa
