/- The coder of LZMA: whatever packet, as one step. -/
import Derived.Test.YtahhcaooiahleaaCode5
namespace Go.Proofs.Ytahhcaooiahleaa
open Go Go.RowKit

/-- A packet that fits is coded. -/
def CO.code (c : CO) (p : Pkt) : CO :=
  if p.k = 0 then c.codeLit p.b
  else if p.k = 1 then (c.codeMatch p.l.toNat p.d).copyN p.l.toNat
  else if p.k = 6 then c.codeSingle.copyN 1
  else if p.k = 7 then c.codeEnd
  else (c.codeAgain (p.k - 2).toNat p.l.toNat).copyN p.l.toNat

def CO.step (c : CO) (p : Pkt) : CO := if c.fits p.k p.l p.d then c.code p else c

/-! ## The numbers' bounds -/

theorem CSOk.treeGo {base v : Nat} (k : Nat) : ∀ {m : Nat} {s : CS} {n : Nat}, CSOk s n → CSOk (CS.treeGo base v k m s) (n + k) := by
  induction k with
  | zero => intro m s n h; exact h
  | succ k ih => intro m s n h; have := ih (m := 2 * m + v / 2 ^ k % 2) (h.bit (base + m) (v / 2 ^ k % 2)); rw [show n + (k + 1) = n + 1 + k from by omega]; exact this

theorem CSOk.tree {s : CS} {n : Nat} (h : CSOk s n) (base nb v : Nat) : CSOk (s.tree base nb v) (n + nb) := CSOk.treeGo nb h

theorem CSOk.revGo {base v : Nat} (k : Nat) : ∀ {i m : Nat} {s : CS} {n : Nat}, CSOk s n → CSOk (CS.revGo base v k i m s) (n + k) := by
  induction k with
  | zero => intro i m s n h; exact h
  | succ k ih => intro i m s n h; have := ih (i := i + 1) (m := 2 * m + v / 2 ^ i % 2) (h.bit (base + m) (v / 2 ^ i % 2)); rw [show n + (k + 1) = n + 1 + k from by omega]; exact this

theorem CSOk.reverse {s : CS} {n : Nat} (h : CSOk s n) (base nb v : Nat) : CSOk (s.reverse base nb v) (n + nb) := CSOk.revGo nb h

theorem RE.straightGo_ok {v : Nat} (k : Nat) : ∀ {c : RE}, c.Ok → (RE.straightGo v k c).Ok := by
  induction k with
  | zero => intro c h; exact h
  | succ k ih => intro c h; exact ih (RE.half_ok h _).1

theorem CSOk.straight {s : CS} {n : Nat} (h : CSOk s n) (nb v : Nat) : CSOk (s.straight nb v) (n + nb) := ⟨RE.straightGo_ok nb h.e, h.p, RE.straight_count nb h.e h.c⟩

theorem CSOk.more {s : CS} {n m : Nat} (h : CSOk s n) (k : n ≤ m) : CSOk s m := ⟨h.e, h.p, Nat.le_trans h.c k⟩

theorem CSOk.len {s : CS} {n : Nat} (h : CSOk s n) (base sx v : Nat) : CSOk (s.len base sx v) (n + 10) := by
  unfold CS.len
  split
  · exact ((h.bit _ _).tree _ 3 _).more (by omega)
  · split
    · exact (((h.bit _ _).bit _ _).tree _ 3 _).more (by omega)
    · exact (((h.bit _ _).bit _ _).tree _ 8 _).more (by omega)

theorem CSOk.dist {s : CS} {n : Nat} (h : CSOk s n) (l : Nat) {d : Nat} (hd : (d : Int) < 4294967296) : CSOk (s.dist l d) (n + 42) := by
  have hb : dBits d ≤ 30 := by
    unfold dBits
    split
    · decide
    · obtain ⟨nb, q, P, h1, _, _, h2, _⟩ := dist_facts (d := d) (by omega) hd
      omega
  unfold CS.dist
  split
  · exact (h.tree _ 6 _).more (by omega)
  · split
    · exact ((h.tree _ 6 _).reverse _ _ _).more (by omega)
    · exact (((h.tree _ 6 _).straight _ _).reverse _ 4 _).more (by omega)

theorem CO.code_ok {c : CO} {n : Nat} (h : CSOk c.enc n) (p : Pkt) (hd : (p.d : Int) < 4294967296) : CSOk (c.code p).enc (n + 60) := by
  unfold CO.code
  split
  · exact (CO.codeLit_ok h _).more (by omega)
  · split
    · rw [(CO.copyN_facts _ _).2.1]
      exact ((((h.bit _ _).bit _ _).len _ _ _).dist _ hd).more (by omega)
    · split
      · rw [(CO.copyN_facts _ _).2.1]
        exact ((((h.bit _ _).bit _ _).bit _ _).bit _ _).more (by omega)
      · split
        · exact ((((h.bit _ _).bit _ _).len _ _ _).dist _ (d := 4294967295) (by decide)).more (by omega)
        · rw [(CO.copyN_facts _ _).2.1]
          have h2 := CO.again_ok (c := { c with enc := (c.enc.bit (0 + 16 * c.state + c.ctx) 1).bit (192 + c.state) 1 }) ((h.bit _ _).bit _ _) (p.k - 2).toNat c.ctx
          exact (h2.len _ _ _).more (by omega)

theorem CO.step_ok {c : CO} {n : Nat} (h : CSOk c.enc n) (p : Pkt) (hd : (p.d : Int) < 4294967296) : CSOk (c.step p).enc (n + 60) := by
  unfold CO.step
  split
  · exact CO.code_ok h p hd
  · exact h.more (by omega)

theorem CO.code_n (c : CO) (p : Pkt) : (c.code p).n = c.n ∧ (c.code p).dict = c.dict := by
  have hc : ∀ (c : CO) (k : Nat), (c.copyN k).dict = c.dict := fun c k => by
    induction k with
    | zero => rfl
    | succ k ih => exact ih
  unfold CO.code
  split
  · exact ⟨rfl, rfl⟩
  · split
    · exact ⟨(CO.copyN_facts _ _).2.2.1, hc _ _⟩
    · split
      · exact ⟨(CO.copyN_facts _ _).2.2.1, hc _ _⟩
      · split
        · exact ⟨rfl, rfl⟩
        · refine ⟨(CO.copyN_facts _ _).2.2.1.trans ?_, (hc _ _).trans ?_⟩
          · exact (CO.again_facts { c with enc := (c.enc.bit (0 + 16 * c.state + c.ctx) 1).bit (192 + c.state) 1 } (p.k - 2).toNat c.ctx).2.1
          · exact (CO.again_facts { c with enc := (c.enc.bit (0 + 16 * c.state + c.ctx) 1).bit (192 + c.state) 1 } (p.k - 2).toNat c.ctx).2.2.2.2.2.2.2

theorem CO.step_n (c : CO) (p : Pkt) : (c.step p).n = c.n ∧ (c.step p).dict = c.dict := by
  unfold CO.step
  split
  · exact CO.code_n c p
  · exact ⟨rfl, rfl⟩

/-- What a packet that fits tells, and so many bytes are there then. -/
theorem CO.code_len (c : CO) (p : Pkt) : (c.code p).told.length = c.told.length + (if p.k = 0 then 1 else if p.k = 1 then p.l.toNat else if p.k = 6 then 1 else if p.k = 7 then 0 else p.l.toNat) := by
  unfold CO.code
  split
  · show (c.told ++ [p.b]).length = _; simp
  · split
    · exact (CO.copyN_facts _ _).1
    · split
      · exact (CO.copyN_facts _ _).1
      · split
        · rfl
        · rw [(CO.copyN_facts _ _).1]
          have := (CO.again_facts { c with enc := (c.enc.bit (0 + 16 * c.state + c.ctx) 1).bit (192 + c.state) 1 } (p.k - 2).toNat c.ctx).1
          show (CO.again { c with enc := (c.enc.bit (0 + 16 * c.state + c.ctx) 1).bit (192 + c.state) 1 } (p.k - 2).toNat c.ctx).told.length + _ = _
          rw [this]

theorem CO.step_len (c : CO) (p : Pkt) : (c.step p).told.length ≤ c.told.length + 273 := by
  unfold CO.step
  split
  · rename_i hf
    rw [CO.code_len]
    unfold CO.fits at hf
    simp only [Bool.and_eq_true, Bool.or_eq_true, decide_eq_true_eq] at hf
    repeat' split
    all_goals omega
  · omega

set_option maxRecDepth 100000 in
theorem lzmac_Code {w : World} {A : CA} {ov tv : Value} {c : CO} (h : CoderW w A ov tv c) {p : Pkt} (hb : p.b < 256) (hd : (p.d : Int) < 4294967296) (hlen : c.told.length + 300 < 1099511627776) (hn : c.enc.e.count + 200 < 1099511627776) :
    Calls Try.prog 18 #[.pointer (some ⟨A.cb, 0, none⟩), p.val] w fun e w' =>
      e = .returned (.bool (c.fits p.k p.l p.d)) ∧ ∃ ov' tv', CStep w w' A ov ov' tv tv' c.n (c.step p) := by
  obtain ⟨k, b, l, d⟩ := p
  show Calls _ _ #[_, pktv k b l d] w fun e w' => e = .returned (.bool (c.fits k l d)) ∧ ∃ ov' tv', CStep w w' A ov ov' tv tv' c.n (c.step ⟨k, b, l, d⟩)
  dsimp only at hb hd
  by_cases hf : c.fits k l d = true
  · rw [hf]
    have he : c.step ⟨k, b, l, d⟩ = c.code ⟨k, b, l, d⟩ := by unfold CO.step; rw [if_pos hf]
    rw [he]
    have hf2 := hf
    unfold CO.fits at hf2
    simp only [Bool.and_eq_true, Bool.or_eq_true, decide_eq_true_eq, Bool.not_eq_true'] at hf2
    obtain ⟨hend, hk⟩ := hf2
    have hkk : k = 0 ∨ k = 1 ∨ k = 6 ∨ k = 7 ∨ k = 2 ∨ k = 3 ∨ k = 4 ∨ k = 5 := by omega
    rcases hkk with rfl | rfl | rfl | rfl | hkk
    · exact lzmac_Code_lit h hb hd (by omega) (by omega) hend
    · obtain ⟨L, rfl⟩ := Int.eq_ofNat_of_zero_le (a := l) (by omega)
      exact lzmac_Code_match (L := L) h hd hlen hn (by omega) (by omega) rfl hf
    · exact lzmac_Code_single h hd (by omega) (by omega) hf
    · exact lzmac_Code_end h hd hlen hn hf
    · have hl2 : 2 ≤ l ∧ l ≤ 273 := by omega
      obtain ⟨L, rfl⟩ := Int.eq_ofNat_of_zero_le (a := l) (by omega)
      rcases hkk with rfl | rfl | rfl | rfl
      · exact lzmac_Code_again0 (L := L) h hd hlen (by omega) (by omega) (by omega) rfl hf
      · exact lzmac_Code_again1 (L := L) h hd hlen (by omega) (by omega) (by omega) rfl hf
      · exact lzmac_Code_again2 (L := L) h hd hlen (by omega) (by omega) (by omega) rfl hf
      · exact lzmac_Code_again3 (L := L) h hd hlen (by omega) (by omega) (by omega) rfl hf
  · have hf' : c.fits k l d = false := by simpa using hf
    have he : c.step ⟨k, b, l, d⟩ = c := by unfold CO.step; rw [if_neg hf]
    rw [hf', he]
    refine (lzmac_Code_no h (k := k) (l := l) (b := b) (d := d) hd (by omega) hf').mono ?_
    rintro e w' ⟨rfl, K⟩
    exact ⟨rfl, ov, tv, CStep.ofKept h K⟩

end Go.Proofs.Ytahhcaooiahleaa
