/- A given formula. Conditions: none. -/
import Derived.Test.YtnpgllgmcdhmcaaFoAtoms

namespace Go.Proofs.Ytnpgllgmcdhmcaa.fo
open Go Go.Ev Go.Proofs

def Nums (f : List (List Int)) : Prop := ∀ p ∈ f, ∀ n ∈ p, -9223372036854775808 ≤ n ∧ n ≤ 9223372036854775807
theorem given_fm {m : Mem} {v : Value} (h : Given X m 23 v) : ∃ f, FmV m v f ∧ Held f ∧ Nums f := by
  obtain ⟨f, hf, -⟩ := h.slice (α := List Int) (R := fun cs p => prV m cs p ∧ p.length ≤ 1000000000000000 ∧ ∀ n ∈ p, -9223372036854775808 ≤ n ∧ n ≤ 9223372036854775807) rfl rfl rfl fun n cs _ hr => by
    obtain ⟨v, l, rfl, hl, hb⟩ := rdf_slice' (α := Int) (R := fun cs z => cs = [.int .i64 z] ∧ -9223372036854775808 ≤ z ∧ z ≤ 9223372036854775807) rfl rfl rfl (fun n' cs _ hr => by
      obtain ⟨z, e, h1, h2⟩ := rdf_int (k := .i64) rfl rfl hr
      exact ⟨z, e, h1, h2⟩) hr
    refine ⟨l, ⟨v, rfl, Sl.le hl (Mem.Le.refl _) fun cs z _ hz => hz.1⟩, ?_, fun z hz => ?_⟩
    · rw [reach_val] at hb
      have hb' : l.length * 8 ≤ 140737488351232 := hb
      omega
    · obtain ⟨cs, h⟩ := Sl.all hl z hz
      exact h.2
  refine ⟨f, Sl.le hf (Mem.Le.refl _) fun cs p _ hp => hp.1, fun p hp => ?_, fun p hp => ?_⟩
  · obtain ⟨cs, h⟩ := Sl.all hf p hp
    exact h.2.1
  · obtain ⟨cs, h⟩ := Sl.all hf p hp
    exact h.2.2

end Go.Proofs.Ytnpgllgmcdhmcaa.fo
