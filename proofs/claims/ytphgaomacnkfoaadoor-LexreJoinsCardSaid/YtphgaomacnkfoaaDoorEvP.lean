/- A verified evaluator of conditions, part 16: an append that makes a new row. Conditions: none; over any program. -/
import Derived.Test.YtphgaomacnkfoaaDoorEvO
namespace Go.Ev
open Go

section
variable {P : Program} {X : Tab} {N : Nat} {m0 m : Mem} {S : List Nat} {w0 w : World} {L : Own}

/-- append of what lies anywhere onto what lies anywhere, where there is no room: a new row. -/
theorem RunReq.appendNew (hX : TabsOk P X) {t te : Nat} {ti tei : TI} {ty : TypeId} (ht : look X.T t = some (some ti)) (hd : ti.d = .slice te) (hte : look X.T te = some (some tei)) (h1s : Nat.beq tei.size 1 = true) (h1b : Nat.beq tei.bytes 1 = true) (hzs : Nat.beq tei.zero.length tei.size = true)
    {b : Addr} {k cap : Nat} {olds : List Value} {A : Option Addr} {n c : Nat} {news : List Value} {K : Value → World → Prop}
    (hL : Loc m0 S w0 m L w) (hlo : olds.length = k) (holds : ∀ j v, olds[j]? = some v → w.cell? (b.add j) = some v)
    (hl : news.length = n) (hc : ∀ j u, news[j]? = some u → ∃ a, A = some a ∧ w.cell? (a.add j) = some u)
    (hg : cap < k + n) (hn0 : 0 < n) (hb : k + n ≤ 1099511627776)
    (h : ∀ A n' c' L1' w', n' = k + n → OwnS te 1 (.slice A n' c') (olds ++ news) L1' → Loc m0 S w0 m (L1' ++ L) w' → K (.slice A n' c') w') :
    RunReq P (Builtin.append_ #[t, t] ty (toArr [.slice (some b) k cap, .slice A n c])) w K := by
  have h1s := Nat.eq_of_beq_eq_true h1s
  have h1b := Nat.eq_of_beq_eq_true h1b
  have hzs := Nat.eq_of_beq_eq_true hzs
  have hT := hX.t _ _ ht
  have hTe := hX.t _ _ hte
  obtain ⟨i, d, z, hi, _, hz, htei⟩ := tiOf_info hTe
  have e1 : i.size = 1 := by rw [← h1s, htei]
  have e2 : i.bytes = 1 := by rw [← h1b, htei]
  have e3 : z.cells.size = 1 := by rw [← h1s, ← hzs, htei]; simp
  obtain ⟨a, rfl, _⟩ := hc 0 _ (List.getElem?_eq_getElem (show 0 < news.length by omega))
  have hc' : ∀ j u, news[j]? = some u → w.cell? (a.add j) = some u := fun j u hu => by
    obtain ⟨a', h2, h3⟩ := hc j u hu
    injection h2 with h2; subst h2; exact h3
  have hrun := run_append_grow (P := P) (w := w) t ty te i z (td_slice hT hd) hi hz b k cap olds (by rw [e1, Nat.mul_one]; exact hlo) holds a n c news (by rw [e1, Nat.mul_one]; exact hl) hc' hg (by omega)
    (by rw [e2, Nat.mul_one]; exact Nat.le_trans (nextslicecap_le hg) (by omega))
  have hge := grownCap_ge w (k + n) cap te
  have hle := grownCap_le_maxLen w (k + n) cap te (by simp only [maxLen]; omega)
  refine ⟨_, _, hrun, ?_⟩
  generalize grownCap w (k + n) cap te = gc at *
  have hcells : (olds.toArray ++ news.toArray ++ Builtin.zeroCells z.cells (gc - (k + n))) = toArr (olds ++ news ++ (Builtin.zeroCells z.cells (gc - (k + n))).toList) := by
    apply Array.ext'; simp [toArr]
  have hzl : (Builtin.zeroCells z.cells (gc - (k + n))).toList.length = gc - (k + n) := by
    rw [Array.length_toList, size_zeroCells, e3, Nat.mul_one]
  rw [hcells]
  refine h (some ⟨w.heap.size, 0, none⟩) (k + n) gc [(w.heap.size, .cells (toArr (olds ++ news ++ (Builtin.zeroCells z.cells (gc - (k + n))).toList)) te (0, 0))] _ rfl ?_ (hL.drew.alloc _)
  refine ⟨k + n, by simp [hlo, hl], .inr ⟨w.heap.size, gc, _, rfl, rfl, hge, hle, ?_, ?_⟩⟩
  · rw [List.length_append, List.length_append, hzl, hlo, hl]; omega
  · rw [Nat.mul_one, List.take_append_of_le_length (by simp [hlo, hl]), List.take_of_length_le (by simp [hlo, hl])]
end
end Go.Ev
