/- append to a slice that the callee owns, of elements of whatever size. No program in sight. -/
import Derived.Test.YtahhcaooiahleaaApp
namespace Go.Proofs.Ytahhcaooiahleaa
open Go Go.RowKit

theorem own_form4 {w : World} {base : Nat} {e : TypeId} {sz : Nat} {v : Value} {n : Nat} {xs : List Value} (h : w.ownsRow base e sz v n xs) (hn : 0 < n) : ∃ g cap, v = .slice (some ⟨g, 0, none⟩) n cap ∧ g < w.heap.size := by
  rcases h.2 with ⟨_, h0⟩ | ⟨g, cap, cur, hv, _, hg, _⟩
  · omega
  · exact ⟨g, cap, hv, lt_of_block hg⟩

theorem own_at4 {w : World} {base : Nat} {e : TypeId} {sz g n cap : Nat} {xs : List Value} (h : w.ownsRow base e sz (.slice (some ⟨g, 0, none⟩) n cap) n xs) {i : Nat} {v : Value} (hv : xs[i]? = some v) : At w g i v := by
  have hi : i < n * sz := by
    have := (List.getElem?_eq_some_iff.1 hv).1
    have := h.1
    omega
  exact ⟨(h.cellAt i hi).trans hv, h.frozenAt i⟩

section
variable {P : Program} {w : World}

theorem run_append_new4 (t ty e : TypeId) (i : TypeInfo) (z : Value) (sz bytes : Nat) (ht : P.underlying t = some (.slice e)) (hi : P.info? e = some i) (hz : i.zero = some z)
    (hsize : i.size = sz) (hby : i.bytes = bytes) (hzs : z.cells.size = sz) (hs0 : 0 < sz)
    (v : Value) (n : Nat) (xs : List Value) (hown : w.ownsRow 0 e sz v n xs)
    (ad : Addr) (m c : Nat) (news : List Value) (hl' : news.length = m * sz) (hn' : ∀ j u, news[j]? = some u → w.cell? (ad.add j) = some u) (h1 : ∀ u ∈ news, u.oneCell' = true)
    (h63 : n + m ≤ maxLen) (hbytes : (n + m) * bytes ≤ 140737488355328) :
    ∃ v' w', (Builtin.append_ #[t, t] ty #[v, .slice (some ad) m c]).run P w = .ok v' w' ∧ w'.ownsRow 0 e sz v' (n + m) (xs ++ news) ∧ w.grownBy w' v.ownBlock ∧ NewOr w v v' := by
  rcases hown.2 with ⟨rfl, rfl⟩ | ⟨g, cap, cur, rfl, hb, hg, hnc, hcm, hcs, htake⟩
  · obtain rfl : xs = [] := List.eq_nil_of_length_eq_zero (by simpa using hown.1)
    obtain ⟨v', w', hr, ho, hgr, hiff⟩ := run_append_own (P := P) w w.heap.size t ty e i z sz bytes ht hi hz hsize hby hzs hs0 (.slice none 0 0) 0 [] (World.ownsRow_nil w _ e sz) ad m c news hl' hn' h1 h63 hbytes (Nat.le_refl _)
    exact ⟨v', w', hr, owns_base ho (Nat.zero_le _), hgr, fun b hbb => .inr (ho.lt b hbb).1⟩
  · by_cases hroom : n + m ≤ cap
    · obtain ⟨w', hr, ho, hgr⟩ := run_append_fits (P := P) w 0 t ty e i sz ht hi hsize g n cap xs hown ad m c news hl' hn' h1 hroom
      exact ⟨_, w', hr, ho, hgr, fun b hbb => .inl hbb⟩
    · have holds : ∀ j u, xs[j]? = some u → w.cell? ((⟨g, 0, none⟩ : Addr).add j) = some u := hown.cells (g := g) rfl
      obtain ⟨v', w', hr, ho, hgr⟩ := run_append_arg_grows (P := P) w t ty e i z sz bytes ht hi hz hsize hby hzs hs0 ⟨g, 0, none⟩ n cap xs hown.1 holds ad m c news hl' hn' (by omega) h63 hbytes
      exact ⟨v', w', hr, owns_base ho (Nat.zero_le _), ⟨hgr.os, hgr.tape, hgr.output, hgr.size, fun k hk _ => hgr.block k hk (by simp)⟩, fun b hbb => .inr (ho.lt b hbb).1⟩

theorem wpList_append_new4 {ops : Array Oper} {rest : List Oper} {o : Oper} {a : Act} {Q : Exit → Act → World → Prop} (hgd : o.guard = none) (s x : Operand) (t : TypeId)
    (ho : o.op = .call { callee := .builtin .append, args := #[s, x], argTypes := #[t, t] })
    (e : TypeId) (i : TypeInfo) (z : Value) (sz bytes : Nat) (ht : P.underlying t = some (.slice e)) (hi : P.info? e = some i) (hz : i.zero = some z)
    (hsize : i.size = sz) (hby : i.bytes = bytes) (hzs : z.cells.size = sz) (hs0 : 0 < sz)
    (v : Value) (n : Nat) (xs : List Value) (hs : a.eval s = v) (hown : w.ownsRow 0 e sz v n xs)
    (ad : Addr) (m c : Nat) (news : List Value) (hx : a.eval x = .slice (some ad) m c) (hl' : news.length = m * sz) (hn' : ∀ j u, news[j]? = some u → w.cell? (ad.add j) = some u) (h1 : ∀ u ∈ news, u.oneCell' = true)
    (h63 : n + m ≤ maxLen) (hbytes : (n + m) * bytes ≤ 140737488355328)
    (h : ∀ v' w', w'.ownsRow 0 e sz v' (n + m) (xs ++ news) → w.grownBy w' v.ownBlock → NewOr w v v' → wpList P ops Q rest (a.put o.dst v') w') : wpList P ops Q (o :: rest) a w := by
  refine wpList_plain hgd fun K hK' => ?_
  obtain ⟨v', w', hrun, h2, h3, h4⟩ := run_append_new4 (P := P) (w := w) t o.type e i z sz bytes ht hi hz hsize hby hzs hs0 v n xs hown ad m c news hl' hn' h1 h63 hbytes
  unfold Oper.wp
  simp [execOp, ho, resolve, invoke, builtin, hs, hx, hrun, Result.andThen]
  exact hK' _ _ (h v' w' h2 h3 h4)
end

end Go.Proofs.Ytahhcaooiahleaa
