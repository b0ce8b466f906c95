/- The coder of LZMA as an object: what holds of it in memory, and how that goes on. -/
import Derived.Test.YtahhcaooiahleaaMay
namespace Go.Proofs.Ytahhcaooiahleaa
open Go Go.RowKit

/-- Blocks of Y are none of a coder's own. -/
structure Apart (w : World) (eb : Nat) (ov : Value) (pa : Nat → Nat × Nat) (n : Nat) (Y : Nat → Prop) : Prop where
  lt : ∀ b, Y b → b < w.heap.size
  eb : ∀ b, Y b → b ≠ eb
  ov : ∀ b, Y b → ov.ownBlock ≠ some b
  pa : ∀ b, Y b → ∀ j, j < n → (pa j).1 ≠ b

theorem Apart.step {w w' : World} {eb : Nat} {ov ov' : Value} {pa : Nat → Nat × Nat} {n : Nat} {Y : Nat → Prop} {s' : CS} (h : Apart w eb ov pa n Y) (k : EncStep w w' eb ov ov' pa n s') : Apart w' eb ov' pa n Y :=
  ⟨fun b hb => Nat.lt_of_lt_of_le (h.lt b hb) k.kept.size, h.eb, fun b hb e => (k.new b e).elim (h.ov b hb) (fun h' => by have := h.lt b hb; omega), h.pa⟩

theorem Apart.not {w : World} {eb : Nat} {ov : Value} {pa : Nat → Nat × Nat} {n : Nat} {Y : Nat → Prop} (h : Apart w eb ov pa n Y) {b : Nat} (hb : Y b) (o : Nat) : ¬ EncS eb ov pa n b o := by
  rintro ((e | e) | ⟨j, hj, e⟩)
  · exact h.eb b hb e
  · exact h.ov b hb e
  · exact h.pa b hb j hj (by rw [e])

/-- What a coder is. -/
structure CO where
  enc : CS
  lc : Nat
  lp : Nat
  pb : Nat
  dict : Nat
  state : Nat
  r0 : Nat
  r1 : Nat
  r2 : Nat
  r3 : Nat
  told : List Nat
  ended : Bool

/-- Where a coder lies: its block, its range coder's, its probabilities'. -/
structure CA where
  cb : Nat
  eb : Nat
  pk : Nat
  X : Nat → Prop
  pa : Nat → Nat × Nat

def CO.m (c : CO) : Nat := 768 * 2 ^ (c.lc + c.lp)
def CO.n (c : CO) : Nat := 1847 + 768 * 2 ^ (c.lc + c.lp)

/-- The blocks that are the coder's, beside its range coder's and the probabilities'. -/
def CA.Y (A : CA) (tv : Value) (b : Nat) : Prop := b = A.cb ∨ tv.ownBlock = some b ∨ A.X b

structure CoMay (c : CO) : Prop where
  lc : c.lc ≤ 8
  lp : c.lp ≤ 4
  pb : c.pb ≤ 4
  d1 : (4096 : Int) ≤ c.dict
  d2 : (c.dict : Int) ≤ 4294967295
  st : c.state < 12
  r0 : (c.r0 : Int) < 4294967296
  r1 : (c.r1 : Int) < 4294967296
  r2 : (c.r2 : Int) < 4294967296
  r3 : (c.r3 : Int) < 4294967296
  told : ∀ x ∈ c.told, x < 256

structure CoderW (w : World) (A : CA) (ov tv : Value) (c : CO) : Prop where
  enc : EncW w A.eb ov A.pa c.n c.enc
  probs : CProbs w A.X A.pk A.pa c.m
  a0 : At w A.cb 0 (.int .i64 (c.lc : Nat))
  a1 : At w A.cb 1 (.int .i64 (c.lp : Nat))
  a2 : At w A.cb 2 (.int .i64 (c.pb : Nat))
  a3 : At w A.cb 3 (.int .i64 (c.dict : Nat))
  a4 : At w A.cb 4 (.pointer (some ⟨A.eb, 0, none⟩))
  a5 : At w A.cb 5 (.pointer (some ⟨A.pk, 0, none⟩))
  a6 : At w A.cb 6 (.int .i64 (c.state : Nat))
  a7 : At w A.cb 7 (.int .u32 (c.r0 : Nat))
  a8 : At w A.cb 8 (.int .u32 (c.r1 : Nat))
  a9 : At w A.cb 9 (.int .u32 (c.r2 : Nat))
  a10 : At w A.cb 10 (.int .u32 (c.r3 : Nat))
  a11 : At w A.cb 11 tv
  a12 : At w A.cb 12 (.bool c.ended)
  own : w.ownsRow 0 5 1 tv c.told.length (bts c.told)
  may : CoMay c
  apart : Apart w A.eb ov A.pa c.n (A.Y tv)
  tcb : tv.ownBlock ≠ some A.cb
  tX : ∀ b, A.X b → tv.ownBlock ≠ some b ∧ b ≠ A.cb

/-- What a coder's calls write. -/
def CoderS (A : CA) (ov tv : Value) (n : Nat) (b _ : Nat) : Prop := b = A.cb ∨ tv.ownBlock = some b ∨ b = A.eb ∨ ov.ownBlock = some b ∨ ∃ j, j < n ∧ (A.pa j).1 = b

theorem EncS.coder {A : CA} {ov tv : Value} {n b o : Nat} (h : EncS A.eb ov A.pa n b o) : CoderS A ov tv n b o := by
  rcases h with (h | h) | ⟨j, hj, h⟩
  · exact .inr (.inr (.inl h))
  · exact .inr (.inr (.inr (.inl h)))
  · exact .inr (.inr (.inr (.inr ⟨j, hj, by rw [h]⟩)))

/-- A step of the coder. -/
structure CStep (w w' : World) (A : CA) (ov ov' tv tv' : Value) (n : Nat) (c' : CO) : Prop where
  co : CoderW w' A ov' tv' c'
  newO : NewOr w ov ov'
  newT : NewOr w tv tv'
  kept : Kept (CoderS A ov tv n) w w'

theorem CStep.refl {w : World} {A : CA} {ov tv : Value} {c : CO} (h : CoderW w A ov tv c) : CStep w w A ov ov tv tv c.n c := ⟨h, NewOr.refl _ _, NewOr.refl _ _, Kept.refl _ _⟩

theorem CStep.trans {w w1 w2 : World} {A : CA} {ov ov1 ov2 tv tv1 tv2 : Value} {n : Nat} {c c' : CO} (h : CStep w w1 A ov ov1 tv tv1 n c) (k : CStep w1 w2 A ov1 ov2 tv1 tv2 n c') : CStep w w2 A ov ov2 tv tv2 n c' := by
  refine ⟨k.co, h.newO.trans k.newO h.kept, h.newT.trans k.newT h.kept, h.kept.trans' k.kept (fun i o hi => ?_)⟩
  rcases hi with hi | hi | hi | hi | hi
  · exact .inl (.inl hi)
  · exact (h.newT i hi).imp (fun e => .inr (.inl e)) id
  · exact .inl (.inr (.inr (.inl hi)))
  · exact (h.newO i hi).imp (fun e => .inr (.inr (.inr (.inl e)))) id
  · exact .inl (.inr (.inr (.inr (.inr hi))))

/-- The coder behind a step of its range coder. -/
theorem CoderW.encStep {w w' : World} {A : CA} {ov ov' tv : Value} {c : CO} {s' : CS} (h : CoderW w A ov tv c) (k : EncStep w w' A.eb ov ov' A.pa c.n s') : CStep w w' A ov ov' tv tv c.n { c with enc := s' } := by
  have hc : ∀ o, ¬ EncS A.eb ov A.pa c.n A.cb o := fun o => h.apart.not (.inl rfl) o
  refine ⟨⟨k.enc, h.probs.kept k.kept (fun b hb o => h.apart.not (.inr (.inr hb)) o), k.kept.at_ _ _ _ (hc _) h.a0, k.kept.at_ _ _ _ (hc _) h.a1, k.kept.at_ _ _ _ (hc _) h.a2, k.kept.at_ _ _ _ (hc _) h.a3, k.kept.at_ _ _ _ (hc _) h.a4,
    k.kept.at_ _ _ _ (hc _) h.a5, k.kept.at_ _ _ _ (hc _) h.a6, k.kept.at_ _ _ _ (hc _) h.a7, k.kept.at_ _ _ _ (hc _) h.a8, k.kept.at_ _ _ _ (hc _) h.a9, k.kept.at_ _ _ _ (hc _) h.a10, k.kept.at_ _ _ _ (hc _) h.a11, k.kept.at_ _ _ _ (hc _) h.a12,
    k.kept.owns h.own (fun b hb o => h.apart.not (.inr (.inl hb)) o), ⟨h.may.lc, h.may.lp, h.may.pb, h.may.d1, h.may.d2, h.may.st, h.may.r0, h.may.r1, h.may.r2, h.may.r3, h.may.told⟩, h.apart.step k, h.tcb, h.tX⟩, k.new, NewOr.refl _ _, k.kept.mono (fun _ _ hi => EncS.coder hi)⟩

/-- A store into the coder's own block leaves all that lies elsewhere. -/
theorem CoderW.away {w : World} {A : CA} {ov tv : Value} {c : CO} (h : CoderW w A ov tv c) (o : Nat) (v : Value) :
    EncW (w.setCell ⟨A.cb, o, none⟩ v) A.eb ov A.pa c.n c.enc ∧ CProbs (w.setCell ⟨A.cb, o, none⟩ v) A.X A.pk A.pa c.m ∧ (w.setCell ⟨A.cb, o, none⟩ v).ownsRow 0 5 1 tv c.told.length (bts c.told) ∧ Apart (w.setCell ⟨A.cb, o, none⟩ v) A.eb ov A.pa c.n (A.Y tv) := by
  have k := Kept.of_setCell w ⟨A.cb, o, none⟩ rfl v
  have y : A.Y tv A.cb := .inl rfl
  have n1 := h.apart.eb _ y
  have n2 := h.apart.ov _ y
  have n3 := h.apart.pa _ y
  refine ⟨⟨h.enc.renc.setOther n1 n2 v, h.enc.pm.setOther n3 v, h.enc.sep, h.enc.ok, h.enc.pok⟩, h.probs.kept k (fun b hb o e => (h.tX b hb).2 e.1), ownsRow_setCell_other h.own h.tcb v, ⟨fun b hb => by simpa using h.apart.lt b hb, h.apart.eb, h.apart.ov, h.apart.pa⟩⟩

theorem CoderW.setState {w : World} {A : CA} {ov tv : Value} {c : CO} (h : CoderW w A ov tv c) {s : Nat} (hs : s < 12) : CStep w (w.setCell ⟨A.cb, 6, none⟩ (.int .i64 (s : Nat))) A ov ov tv tv c.n { c with state := s } := by
  obtain ⟨e1, e2, e3, e4⟩ := h.away 6 (.int .i64 (s : Nat))
  exact ⟨⟨e1, e2, h.a0.set_other (by simp) _, h.a1.set_other (by simp) _, h.a2.set_other (by simp) _, h.a3.set_other (by simp) _, h.a4.set_other (by simp) _, h.a5.set_other (by simp) _, h.a6.set _, h.a7.set_other (by simp) _, h.a8.set_other (by simp) _, h.a9.set_other (by simp) _, h.a10.set_other (by simp) _, h.a11.set_other (by simp) _, h.a12.set_other (by simp) _,
    e3, ⟨h.may.lc, h.may.lp, h.may.pb, h.may.d1, h.may.d2, hs, h.may.r0, h.may.r1, h.may.r2, h.may.r3, h.may.told⟩, e4, h.tcb, h.tX⟩, NewOr.refl _ _, NewOr.refl _ _, (Kept.refl _ _).setCell (.inl (.inl rfl)) _⟩

theorem CoderW.setEnded {w : World} {A : CA} {ov tv : Value} {c : CO} (h : CoderW w A ov tv c) (s : Bool) : CStep w (w.setCell ⟨A.cb, 12, none⟩ (.bool s)) A ov ov tv tv c.n { c with ended := s } := by
  obtain ⟨e1, e2, e3, e4⟩ := h.away 12 (.bool s)
  exact ⟨⟨e1, e2, h.a0.set_other (by simp) _, h.a1.set_other (by simp) _, h.a2.set_other (by simp) _, h.a3.set_other (by simp) _, h.a4.set_other (by simp) _, h.a5.set_other (by simp) _, h.a6.set_other (by simp) _, h.a7.set_other (by simp) _, h.a8.set_other (by simp) _, h.a9.set_other (by simp) _, h.a10.set_other (by simp) _, h.a11.set_other (by simp) _, h.a12.set _,
    e3, ⟨h.may.lc, h.may.lp, h.may.pb, h.may.d1, h.may.d2, h.may.st, h.may.r0, h.may.r1, h.may.r2, h.may.r3, h.may.told⟩, e4, h.tcb, h.tX⟩, NewOr.refl _ _, NewOr.refl _ _, (Kept.refl _ _).setCell (.inl (.inl rfl)) _⟩

theorem CoderW.drewN {w : World} {A : CA} {ov tv : Value} {c : CO} (h : CoderW w A ov tv c) (k : Nat) : CoderW (w.drewN k) A ov tv c := by
  have K : Kept (fun _ _ => False) w (w.drewN k) := (Kept.refl _ _).drewN k
  exact ⟨⟨h.enc.renc.drewN k, h.enc.pm.drewN k, h.enc.sep, h.enc.ok, h.enc.pok⟩, h.probs.kept K (by simp), h.a0, h.a1, h.a2, h.a3, h.a4, h.a5, h.a6, h.a7, h.a8, h.a9, h.a10, h.a11, h.a12, h.own, h.may, ⟨h.apart.lt, h.apart.eb, h.apart.ov, h.apart.pa⟩, h.tcb, h.tX⟩

/-- The coder where nothing of it was written. -/
theorem CoderW.kept {S : Nat → Nat → Prop} {w w' : World} {A : CA} {ov tv : Value} {c : CO} (h : CoderW w A ov tv c) (k : Kept S w w') (hs : ∀ b, (A.Y tv b ∨ b = A.eb ∨ ov.ownBlock = some b ∨ ∃ j, j < c.n ∧ (A.pa j).1 = b) → ∀ o, ¬ S b o) : CoderW w' A ov tv c := by
  have hc := hs A.cb (.inl (.inl rfl))
  exact ⟨⟨h.enc.renc.kept k (hs _ (.inr (.inl rfl))) (fun b hb => hs b (.inr (.inr (.inl hb)))), h.enc.pm.kept k (fun j hj => hs _ (.inr (.inr (.inr ⟨j, hj, rfl⟩))) _), h.enc.sep, h.enc.ok, h.enc.pok⟩, h.probs.kept k (fun b hb => hs b (.inl (.inr (.inr hb)))),
    k.at_ _ _ _ (hc _) h.a0, k.at_ _ _ _ (hc _) h.a1, k.at_ _ _ _ (hc _) h.a2, k.at_ _ _ _ (hc _) h.a3, k.at_ _ _ _ (hc _) h.a4, k.at_ _ _ _ (hc _) h.a5, k.at_ _ _ _ (hc _) h.a6, k.at_ _ _ _ (hc _) h.a7, k.at_ _ _ _ (hc _) h.a8, k.at_ _ _ _ (hc _) h.a9, k.at_ _ _ _ (hc _) h.a10, k.at_ _ _ _ (hc _) h.a11, k.at_ _ _ _ (hc _) h.a12,
    k.owns h.own (fun b hb => hs b (.inl (.inr (.inl hb)))), h.may, ⟨fun b hb => Nat.lt_of_lt_of_le (h.apart.lt b hb) k.size, h.apart.eb, h.apart.ov, h.apart.pa⟩, h.tcb, h.tX⟩

set_option maxRecDepth 100000 in
set_option maxHeartbeats 400000 in
theorem renc_New {w : World} :
    Calls Try.prog 42 #[] w fun e w' => e = .returned (.pointer (some ⟨w.heap.size, 0, none⟩)) ∧ Renc w' w.heap.size (.slice none 0 0) RE.new ∧ w'.heap.size = w.heap.size + 1 ∧ Kept (fun _ _ => False) w w' := by
  go_enter Try.func42, Try.ntmps42
  go_wp2_with fail
  go_ret
  refine ⟨rfl, ⟨?_, ?_, ?_, ?_, ?_, World.ownsRow_nil _ _ _ _, by simp [Value.ownBlock]⟩, by simp, (Kept.refl _ _).alloc _⟩ <;> exact At.alloc_new _ _ _ _ _ rfl

end Go.Proofs.Ytahhcaooiahleaa
