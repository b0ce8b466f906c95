/- Lemmas on worlds: cells that hold values, what stays as it was. No program in sight. -/
import Derived.WalkKit
import Derived.WalkSpells
import Derived.WalkLawsBesides
import Derived.Lib.Hide
import Derived.Deep.QuietTactic
import Derived.BigQuiet
import Derived.Deep.RegionHeld3
import Derived.Deep.RegionWith
import Derived.Deep.RegionLaw
import Derived.Deep.RegionLawGrows
import Derived.Deep.DeepMust
import Derived.Deep.DeepFit
import Derived.Deep.LoopGhost
import Derived.Deep.DeepCutAuto
namespace Go.Proofs.Ytahhcaooiahleaa
open Go Go.RowKit

/-- Cell o of block b holds v, and may be written. -/
def At (w : World) (b o : Nat) (v : Value) : Prop := w.cell? ⟨b, o, none⟩ = some v ∧ w.frozen? ⟨b, o, none⟩ = false

theorem At.lt {w : World} {b o : Nat} {v : Value} (h : At w b o v) : b < w.heap.size := World.block_lt_of_cell? w ⟨b, o, none⟩ h.1
theorem At.drew {w : World} {b o : Nat} {v : Value} (h : At w b o v) : At w.drew b o v := h
theorem At.drewN {w : World} {b o : Nat} {v : Value} (h : At w b o v) (n : Nat) : At (w.drewN n) b o v := h
theorem At.alloc {w : World} {b o : Nat} {v : Value} (h : At w b o v) (x : Obj) : At (w.alloc x) b o v :=
  ⟨(World.cell?_alloc_past x b o h.lt).trans h.1, (World.frozen?_alloc_past x b o h.lt).trans h.2⟩
theorem At.alloc_new (w : World) (cs : Array Value) (T : TypeId) (o : Nat) (v : Value) (h : cs[o]? = some v) : At (w.alloc (.cells cs T)) w.heap.size o v :=
  ⟨by rw [World.cell?_alloc_new]; exact h, World.frozen?_alloc_new w cs T o⟩
theorem At.set {w : World} {b o : Nat} {v : Value} (h : At w b o v) (u : Value) : At (w.setCell ⟨b, o, none⟩ u) b o u :=
  ⟨World.cell?_setCell_same w ⟨b, o, none⟩ u h.1, by rw [World.frozen?_setCell]; exact h.2⟩
theorem At.set_other {w : World} {b o : Nat} {v : Value} (h : At w b o v) {p : Addr} (hne : p ≠ ⟨b, o, none⟩) (u : Value) : At (w.setCell p u) b o v :=
  ⟨(World.cell?_setCell_other w p ⟨b, o, none⟩ u hne).trans h.1, by rw [World.frozen?_setCell]; exact h.2⟩

/-- Outside the cells of S, w' is as w was; new blocks may have come; no stream has turned. -/
structure Kept (S : Nat → Nat → Prop) (w w' : World) : Prop where
  os : w'.os = w.os
  tape : w'.tape = w.tape
  output : w'.output = w.output
  size : w.heap.size ≤ w'.heap.size
  block : ∀ k, k < w.heap.size → (∀ o, ¬ S k o) → w'.heap[k]? = w.heap[k]?
  at_ : ∀ b o v, ¬ S b o → At w b o v → At w' b o v
  free : ∀ b o, b < w.heap.size → w'.frozen? ⟨b, o, none⟩ = w.frozen? ⟨b, o, none⟩ ∨ ∃ o', S b o'

theorem Kept.refl (S : Nat → Nat → Prop) (w : World) : Kept S w w := ⟨rfl, rfl, rfl, Nat.le_refl _, fun _ _ _ => rfl, fun _ _ _ _ h => h, fun _ _ _ => .inl rfl⟩

/-- The second step may also write what is new since the first world. -/
theorem Kept.trans' {S S' : Nat → Nat → Prop} {a b c : World} (h : Kept S a b) (k : Kept S' b c) (hs : ∀ i o, S' i o → S i o ∨ a.heap.size ≤ i) : Kept S a c := by
  refine ⟨k.os.trans h.os, k.tape.trans h.tape, k.output.trans h.output, Nat.le_trans h.size k.size, fun i hi hn => ?_, fun x o v hn hA => ?_, fun x o hx => ?_⟩
  · exact (k.block i (Nat.lt_of_lt_of_le hi h.size) (fun o h' => (hs i o h').elim (hn o) (fun h'' => by omega))).trans (h.block i hi hn)
  · have hlt := hA.lt
    exact k.at_ x o v (fun h' => (hs x o h').elim hn (fun h'' => by omega)) (h.at_ x o v hn hA)
  · rcases k.free x o (Nat.lt_of_lt_of_le hx h.size) with e | ⟨o', h'⟩
    · rcases h.free x o hx with e' | e'
      · exact .inl (e.trans e')
      · exact .inr e'
    · rcases hs x o' h' with h'' | h''
      · exact .inr ⟨o', h''⟩
      · omega

theorem Kept.trans {S : Nat → Nat → Prop} {a b c : World} (h : Kept S a b) (k : Kept S b c) : Kept S a c := h.trans' k (fun _ _ h => .inl h)

theorem Kept.mono {S S' : Nat → Nat → Prop} {a b : World} (h : Kept S a b) (hs : ∀ i o, S i o → S' i o) : Kept S' a b :=
  (Kept.refl S' a).trans' h (fun i o h => .inl (hs i o h))

theorem Kept.of_grown {a w : World} {row : Option Nat} (h : a.grownBy w row) : Kept (fun b _ => row = some b) a w := by
  refine ⟨h.os, h.tape, h.output, h.size, fun k hk hn => h.block k hk (fun e => hn 0 e.symm), fun b o v hn hA => ?_, fun b o hb => ?_⟩
  · have e := h.block b hA.lt (fun e => hn e.symm)
    exact ⟨(World.cell?_of_block (w := a) e).trans hA.1, (World.frozen?_of_block (w := a) e).trans hA.2⟩
  · by_cases hr : some b = row
    · exact .inr ⟨0, hr.symm⟩
    · exact .inl (World.frozen?_of_block (w := a) (h.block b hb hr))

theorem Kept.of_alloc (S : Nat → Nat → Prop) (w : World) (x : Obj) : Kept S w (w.alloc x) :=
  ⟨rfl, rfl, rfl, by simp, fun k hk _ => Below.heap_alloc _ _ _ hk, fun _ _ _ _ h => h.alloc x, fun b o hb => .inl (World.frozen?_alloc_past x b o hb)⟩

theorem Kept.of_setCell (w : World) (p : Addr) (hp : p.spot = none) (u : Value) : Kept (fun b o => b = p.block ∧ o = p.off) w (w.setCell p u) := by
  obtain ⟨pb, po, ps⟩ := p
  subst hp
  refine ⟨rfl, rfl, rfl, by simp, fun k hk hn => Below.heap_setCell _ _ _ _ (fun e => hn po ⟨e, rfl⟩), fun b o v hn h => h.set_other (fun e => hn ?_) u, fun b o _ => .inl (World.frozen?_setCell _ _ _ _)⟩
  simp at e; exact ⟨e.1.symm, e.2.symm⟩

theorem Kept.drew {S : Nat → Nat → Prop} {a w : World} (h : Kept S a w) : Kept S a w.drew := ⟨h.os, h.tape, h.output, h.size, h.block, h.at_, h.free⟩
theorem Kept.drewN {S : Nat → Nat → Prop} {a w : World} (h : Kept S a w) (n : Nat) : Kept S a (w.drewN n) := ⟨h.os, h.tape, h.output, h.size, h.block, h.at_, h.free⟩
theorem Kept.alloc {S : Nat → Nat → Prop} {a w : World} (h : Kept S a w) (o : Obj) : Kept S a (w.alloc o) := h.trans (Kept.of_alloc S w o)
theorem Kept.setCell {S : Nat → Nat → Prop} {a w : World} {b o : Nat} (h : Kept S a w) (hp : S b o ∨ a.heap.size ≤ b) (u : Value) : Kept S a (w.setCell ⟨b, o, none⟩ u) :=
  h.trans' (Kept.of_setCell w ⟨b, o, none⟩ rfl u) (fun i j hi => by obtain ⟨rfl, rfl⟩ := hi; exact hp)
theorem Kept.grown {S : Nat → Nat → Prop} {a w w' : World} {row : Option Nat} (h : Kept S a w) (hg : w.grownBy w' row) (hr : ∀ k, row = some k → (∀ o, S k o) ∨ a.heap.size ≤ k) : Kept S a w' :=
  h.trans' (Kept.of_grown hg) (fun i o hi => (hr i hi).imp (fun h => h o) id)

theorem Kept.below {S : Nat → Nat → Prop} {a w : World} (h : Kept S a w) (B : Nat) (hB : B ≤ a.heap.size) (hS : ∀ k o, S k o → B ≤ k) : Below B a w :=
  ⟨h.os, h.tape, h.output, h.size, fun k hk => h.block k (by omega) (fun o hs => by have := hS k o hs; omega)⟩

theorem Kept.owns {S : Nat → Nat → Prop} {a w : World} (h : Kept S a w) {base : Nat} {e : TypeId} {size : Nat} {v : Value} {n : Nat} {xs : List Value} (ho : a.ownsRow base e size v n xs)
    (hs : ∀ b, v.ownBlock = some b → ∀ o, ¬ S b o) : w.ownsRow base e size v n xs := by
  obtain ⟨h1, h2⟩ := ho
  refine ⟨h1, ?_⟩
  rcases h2 with h2 | ⟨g, cap, cur, rfl, hb, hg, rest⟩
  · exact .inl h2
  · exact .inr ⟨g, cap, cur, rfl, hb, by rw [h.block g (lt_of_block hg) (hs g rfl)]; exact hg, rest⟩

/-- From place off on, block b holds the numbers l, of kind k. -/
def Row (w : World) (b off : Nat) (k : IntKind) (l : List Nat) : Prop := ∀ i, i < l.length → w.cell? ⟨b, off + i, none⟩ = some (.int k (l.getD i 0 : Nat))

end Go.Proofs.Ytahhcaooiahleaa
