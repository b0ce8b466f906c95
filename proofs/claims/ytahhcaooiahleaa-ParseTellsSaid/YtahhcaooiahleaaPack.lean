/- The coder of LZMA: a stream of packets. -/
import Derived.Test.YtahhcaooiahleaaFin
import Derived.Handy
namespace Go.Proofs.Ytahhcaooiahleaa
open Go Go.RowKit

/-- A packet. -/
structure Pkt where
  k : Int
  b : Nat
  l : Int
  d : Nat

def Pkt.val (p : Pkt) : Value := pktv p.k p.b p.l p.d

/-- Packets in a row. -/
structure PktRow (w : World) (v : Value) (ps : List Pkt) : Prop where
  form : ∃ ao cap, v = .slice ao ps.length cap ∧ ∀ i p, ps[i]? = some p → ∃ g o, ao = some ⟨g, o, none⟩ ∧ g < w.heap.size ∧ w.cell? ⟨g, o + i * 4, none⟩ = some (.int .i64 p.k) ∧ w.cell? ⟨g, o + i * 4 + 1, none⟩ = some (.int .u8 (p.b : Nat)) ∧ w.cell? ⟨g, o + i * 4 + 2, none⟩ = some (.int .i64 p.l) ∧ w.cell? ⟨g, o + i * 4 + 3, none⟩ = some (.int .u32 (p.d : Nat))

theorem CStep.fresh {w0 w w' : World} {A : CA} {ov ov' tv tv' : Value} {n : Nat} {c' : CO} (h : CStep w w' A ov ov' tv tv' n c') (k : Kept (fun _ _ => False) w0 w) (hf : ∀ b o, CoderS A ov tv n b o → w0.heap.size ≤ b) : Kept (fun _ _ => False) w0 w' :=
  k.trans' h.kept (fun i o hi => .inr (hf i o hi))

set_option maxRecDepth 100000 in
set_option maxHeartbeats 1000000 in
theorem lzmac_Pack_with {w : World} {lc lp pb dict : Nat} (h : mayB lc lp pb dict = true) {v : Value} {ps : List Pkt} (hv : PktRow w v ps) (hps : ps.length < 1099511627776)
    (step : CO → Pkt → CO) (Inv : Nat → CO → Prop) (h0 : Inv 0 (CO.new lc lp pb dict)) (hs : ∀ i p c, ps[i]? = some p → Inv i c → Inv (i + 1) (step c p)) (hN : ∀ i c, Inv i c → c.n = (CO.new lc lp pb dict).n) (hc : ∀ c, Inv ps.length c → c.enc.e.count + 8 < 1099511627776)
    (hcode : ∀ i p c, ps[i]? = some p → Inv i c → ∀ (w : World) (A : CA) (ov tv : Value), CoderW w A ov tv c → Calls Try.prog 18 #[.pointer (some ⟨A.cb, 0, none⟩), p.val] w fun e w' => (∃ y, e = .returned (.bool y)) ∧ ∃ ov' tv', CStep w w' A ov ov' tv tv' c.n (step c p)) :
    Calls Try.prog 39 #[setv lc lp pb dict, v] w fun e w' => ∃ a t, e = .returned (.tuple #[a, t, .int .i64 0]) ∧
      w'.ownsRow 0 5 1 a (ps.foldl step (CO.new lc lp pb dict)).enc.e.finish.length (bts (ps.foldl step (CO.new lc lp pb dict)).enc.e.finish) ∧
      w'.ownsRow 0 5 1 t (ps.foldl step (CO.new lc lp pb dict)).told.length (bts (ps.foldl step (CO.new lc lp pb dict)).told) ∧
      (∀ b, a.ownBlock = some b → t.ownBlock ≠ some b ∧ w.heap.size ≤ b) ∧ (∀ b, t.ownBlock = some b → w.heap.size ≤ b) ∧ Kept (fun _ _ => False) w w' := by
  obtain ⟨ao, cap, rfl, hrow⟩ := hv.form
  obtain ⟨N, hNN⟩ : ∃ N, N = ps.length := ⟨_, rfl⟩
  rw [← hNN] at hps hc ⊢
  have HNN := Lib.hid hNN
  clear hNN
  unfold setv
  go_enter Try.func39, Try.ntmps39
  go_wp2_with fail
  have K0 : Kept (fun _ _ => False) w (w.alloc (.cells #[.int .i64 lc, .int .i64 lp, .int .i64 pb, .int .i64 dict] 23)) := Kept.of_alloc _ _ _
  refine (lzmac_New_yes h).mono ?_
  rintro e w1 ⟨A, rfl, hC, hK, hF⟩
  have K1 := K0.trans hK
  have hF2 : ∀ b o, CoderS A (.slice none 0 0) (.slice none 0 0) (CO.new lc lp pb dict).n b o → w.heap.size ≤ b := by
    intro b o hb
    refine Nat.le_trans K0.size (hF b ?_)
    rcases hb with hb | hb | hb | hb | hb
    · exact .inl (.inl hb)
    · simp [Value.ownBlock] at hb
    · exact .inr (.inl hb)
    · simp [Value.ownBlock] at hb
    · exact .inr (.inr hb)
  clear hF hK K0
  go_wp2_with fail
  go_loopw [21] (fun i wr => ∃ (k : Nat) (ov tv : Value), k ≤ N ∧ i = .int .i64 k ∧ CStep w1 wr A (.slice none 0 0) ov (.slice none 0 0) tv (CO.new lc lp pb dict).n ((ps.take k).foldl step (CO.new lc lp pb dict)) ∧ Inv k ((ps.take k).foldl step (CO.new lc lp pb dict)) ∧ Kept (fun _ _ => False) w wr) (fun i _ => N - (intOf i).toNat)
  case atStart => exact ⟨0, _, _, Nat.zero_le _, rfl, CStep.refl hC, h0, K1⟩
  case round =>
    obtain ⟨k, ov, tv, hk, rfl, hS, hI, hKr⟩ := hrel
    by_cases hlt : k < N
    · have hd : decide ((k : Int) < (N : Int)) = true := decide_eq_true (by omega)
      obtain ⟨p, hp⟩ : ∃ p, ps[k]? = some p := ⟨_, List.getElem?_eq_getElem (by rw [← HNN.out]; exact hlt)⟩
      obtain ⟨g, o, rfl, hg, q0, q1, q2, q3⟩ := hrow k p hp
      have r0 := hKr.cellF q0
      have r1 := hKr.cellF q1
      have r2 := hKr.cellF q2
      have r3 := hKr.cellF q3
      have HP := Lib.hid hp
      have hgr : g < wr.heap.size := Nat.lt_of_lt_of_le hg hKr.size
      have hkn : (k : Int) < 1099511627776 := by omega
      clear q0 q1 q2 q3 hp
      go_wp2_with fail
      obtain ⟨wb, hwb⟩ : ∃ wb, wb = wr.alloc (.cells #[.int .i64 p.k, .int .u8 (p.b : Nat), .int .i64 p.l, .int .u32 (p.d : Nat)] 26) := ⟨_, rfl⟩
      have K2 : Kept (fun _ _ => False) wr wb := by rw [hwb]; exact Kept.of_alloc _ _ _
      rw [← hwb]
      clear hwb r0 r1 r2 r3
      have hcn := hN k _ hI
      refine (hcode k p _ HP.out hI wb A ov tv (hS.co.kept K2 (by simp))).mono ?_
      rintro e w2 ⟨⟨y, rfl⟩, ov2, tv2, hS2⟩
      go_wp2_with fail
      go_roundw
      case rel =>
        have e1 : (ps.take (k + 1)).foldl step (CO.new lc lp pb dict) = step ((ps.take k).foldl step (CO.new lc lp pb dict)) p := by rw [List.take_add_one, HP.out]; simp
        have S3 : CStep wr wb A ov ov tv tv (CO.new lc lp pb dict).n ((ps.take k).foldl step (CO.new lc lp pb dict)) := by rw [← hcn]; exact CStep.ofKept hS.co K2
        rw [hcn] at hS2
        have S4 := hS.trans (S3.trans hS2)
        refine ⟨k + 1, ov2, tv2, by omega, by go_num, by rw [e1]; exact S4, by rw [e1]; exact hs k p _ HP.out hI, S4.fresh K1 hF2⟩
      case measure => simp [intOf]; omega
    · have hd : decide ((k : Int) < (N : Int)) = false := decide_eq_false (by omega)
      obtain rfl : k = N := by omega
      have hcn := hN k _ hI
      have hce := hc _ hI
      have et : ps.take k = ps := by rw [HNN.out]; exact List.take_length
      rw [et] at hS hI hcn hce
      obtain ⟨cf, hcf⟩ : ∃ cf, cf = ps.foldl step (CO.new lc lp pb dict) := ⟨_, rfl⟩
      rw [← hcf] at hS hI hcn hce
      have HCF := Lib.hid hcf
      clear hcf et
      have HC := hS.co
      have HD : CoderW wr.drew A ov tv cf := HC.drewN 1
      have c11 := HC.a11.1
      go_wp2_with fail
      go_region_with (go_at_call 40; refine (lzmac_Finish HD hce).mono ?_; rintro e w3 ⟨v, rfl, hFn, hO, hNv, hdis⟩; have q11 := hFn.co.a11.1)
      all_goals
        go_wp2_with fail
        go_returns
        have hFn2 := hFn.fresh (hKr.drew) (fun b o hb => by
          rcases hb with rfl | hb | rfl | hb | hb
          · exact hF2 _ 0 (.inl rfl)
          · rcases hS.newT b hb with h' | h'
            · simp [Value.ownBlock] at h'
            · exact Nat.le_trans K1.size h'
          · exact hF2 _ 0 (.inr (.inr (.inl rfl)))
          · rcases hS.newO b hb with h' | h'
            · simp [Value.ownBlock] at h'
            · exact Nat.le_trans K1.size h'
          · rw [hcn] at hb; exact hF2 _ 0 (.inr (.inr (.inr (.inr hb)))))
        rw [← HCF.out]
        have htl : ∀ b, tv.ownBlock = some b → w.heap.size ≤ b := fun b hb => by
          rcases hS.newT b hb with h' | h'
          · simp [Value.ownBlock] at h'
          · exact Nat.le_trans K1.size h'
        refine ⟨v, tv, rfl, hO, hFn.co.own, fun b hb => ⟨fun e => (hdis b hb).1 (.inr (.inl e)), ?_⟩, htl, hFn2⟩
        rcases hNv b hb with h' | h'
        · rcases hS.newO b h' with h' | h'
          · simp [Value.ownBlock] at h'
          · exact Nat.le_trans K1.size h'
        · exact Nat.le_trans hKr.size h'

end Go.Proofs.Ytahhcaooiahleaa
