/- Arithmetic of numbers that are not below nought. Conditions: none; over any program. -/
import Derived.Test.YtcofkjameibeoaaEvM
namespace Go.Ev
open Go

theorem tdiv_nat (a k : Nat) : (a : Int).tdiv (k : Int) = ((a / k : Nat) : Int) := by
  rw [Int.tdiv_eq_ediv_of_nonneg (by omega)]; rfl
theorem tmod_nat (a k : Nat) : (a : Int).tmod (k : Int) = ((a % k : Nat) : Int) := by
  rw [Int.tmod_eq_emod_of_nonneg (by omega)]; rfl
theorem DivReq.i64 {a k : Nat} {b : Int} {K : Int → Prop} (hb : b = (k : Int)) (hk : 0 < k) (ha : a ≤ 9223372036854775807) (h : K ((a / k : Nat) : Int)) : DivReq .i64 a b K := by
  subst hb
  have := Nat.div_le_self a k
  exact DivReq.mk (by omega) (by rw [tdiv_nat]; generalize a / k = q at this; exact wrap_keep .i64 (by show -9223372036854775808 ≤ _; omega) (by show _ ≤ (9223372036854775807 : Int); omega)) h
theorem DivReq.u64 {a k : Nat} {b : Int} {K : Int → Prop} (hb : b = (k : Int)) (hk : 0 < k) (ha : a ≤ 18446744073709551615) (h : K ((a / k : Nat) : Int)) : DivReq .u64 a b K := by
  subst hb
  have := Nat.div_le_self a k
  exact DivReq.mk (by omega) (by rw [tdiv_nat]; generalize a / k = q at this; exact wrap_keep .u64 (by show 0 ≤ _; omega) (by show _ ≤ (18446744073709551615 : Int); omega)) h
theorem RemReq.nat {a k : Nat} {b : Int} {K : Int → Prop} (hb : b = (k : Int)) (hk : 0 < k) (h : K ((a % k : Nat) : Int)) : RemReq a b K := by
  subst hb
  exact RemReq.mk (by omega) (tmod_nat a k) h

section
variable {P : Program} {X : Tab} {m0 m : Mem} {S : List Nat} {w0 w : World} {L : Own}
/-- The run-time's mark on a row of bytes: of no cell. -/
theorem Loc.mark (h : Loc m0 S w0 m L w) {i b off : Nat} {cs : List Value} {t : TypeId} (hi : look L i = some (b, .cells (toArr cs) t (0, 0))) :
    Loc m0 S w0 m (L.set i (b, .cells (toArr cs) t (off, off + 1))) (w.freeze ⟨b, off, none⟩ 1) := by
  rw [look_eq] at hi
  have hmem : (b, Obj.cells (toArr cs) t (0, 0)) ∈ L := List.mem_of_getElem? hi
  have hb := h.own _ hmem
  have hnew : (w.freeze ⟨b, off, none⟩ 1).heap[b]? = some (.cells (toArr cs) t (off, off + 1)) := by
    simp only [World.freeze, if_neg (by decide : ¬ (1 : Nat) = 0), Array.getElem?_modify, if_true]
    simp only at hb
    rw [hb]
    rfl
  have hoth : ∀ k, k ≠ b → (w.freeze ⟨b, off, none⟩ 1).heap[k]? = w.heap[k]? := fun k hk => by
    simp only [World.freeze, if_neg (by decide : ¬ (1 : Nat) = 0), Array.getElem?_modify]
    rw [if_neg (fun e => hk e.symm)]
  have hkeys : keys (L.set i (b, .cells (toArr cs) t (off, off + 1))) = keys L := by
    clear hmem hb hnew hoth h
    induction L generalizing i with
    | nil => simp
    | cons x l ih =>
      cases i with
      | zero => simp at hi; subst hi; simp [keys]
      | succ i => simp only [List.set_cons_succ, keys]; rw [ih (by simpa using hi)]
  have hbk : b ∈ keys L := mem_keys.2 ⟨_, hmem⟩
  refine ⟨h.os, h.tape, h.output, by unfold World.freeze; rw [if_neg (by decide)]; simpa using h.size, fun k hk hs => ?_, fun c o hc => ?_, fun c o hc => hkeys ▸ h.apart c o hc, fun x hx => ?_, hkeys ▸ h.nodup, fun c hc => h.new c (hkeys ▸ hc), h.le, h.mnew⟩
  · have : k ≠ b := fun e => by
      subst e
      rcases h.new k hbk with h1 | h1
      · omega
      · exact hs h1
    rw [hoth k this]; exact h.fr k hk hs
  · have : c ≠ b := fun e => by subst e; exact h.apart c o hc hbk
    rw [hoth c this]; exact h.sub c o hc
  · obtain ⟨j, hj⟩ := List.getElem?_of_mem hx
    rw [List.getElem?_set] at hj
    split at hj
    · split at hj
      · injection hj with hj; subst hj; exact hnew
      · cases hj
    · rename_i hij
      have hxm := List.mem_of_getElem? hj
      have hne : x.1 ≠ b := fun e => by
        have h1 : (keys L)[i]? = some b := by rw [keys_map, List.getElem?_map, hi]; rfl
        have h2 : (keys L)[j]? = some b := by rw [keys_map, List.getElem?_map, hj]; simp [e]
        have hl1 := (List.getElem?_eq_some_iff.1 h1).1
        exact hij ((List.getElem?_inj hl1 h.nodup).1 (h1.trans h2.symm))
      rw [hoth _ hne]; exact h.own _ hxm

/-- Bytes of a constant string: the row is marked. -/
theorem RunReq.bytesConst (hX : TabsOk P X) {t e : Nat} {ti te : TI} (ht : look X.T t = some (some ti)) (hd : ti.d = .slice e) (hte : look X.T e = some (some te)) (hk : te.d = .int .u8) (i : Nat) {b n c : Nat} {cs : List Value} {K : Value → World → Prop}
    (hL : Loc m0 S w0 m L w) (hi : look L i = some (b, .cells (toArr cs) e (0, 0))) (h : ∀ w', Loc m0 S w0 m (L.set i (b, .cells (toArr cs) e (cs.length, cs.length + 1))) w' → K (.slice (some ⟨b, 0, none⟩) n c) w') :
    RunReq P (convert t t (.slice (some ⟨b, 0, none⟩) n c)) w K := by
  refine ⟨⟨_, _, ?_, h _ (hL.mark hi)⟩⟩
  have hi' := hi
  rw [look_eq] at hi'
  have hm := hL.own _ (List.mem_of_getElem? hi')
  have hsh : w.shape? b = some (e, cs.length) := by
    unfold World.shape?
    simp only at hm
    rw [hm]; simp [toArr]
  simp [convert, run_underlying (td_slice (hX.t _ _ ht) hd), run_underlying (td_int (hX.t _ _ hte) hk), markStringish, hsh]
/-- Numbers in a block of one's own, whatever its mark, are handed over. -/
theorem ints_hand {te b n : Nat} {fz : Nat × Nat} {k : IntKind} {l : List Int} {L2 : Own} (hn : n = l.length) (hmax : n ≤ maxLen) (hL : Loc m0 S w0 m ((b, .cells (toArr (ints k l)) te fz) :: L2) w) :
    ∃ m', Loc m0 S w0 m' L2 w ∧ Mem.Le m m' ∧ SlI m' k (.slice (some ⟨b, 0, none⟩) n n) l := by
  refine ⟨_, hL.freeze, hL.le_add, some ⟨b, 0, none⟩, n, n, rfl, hn, Nat.le_refl n, hmax, fun i x hx => ⟨_, [.int k x], rfl, rfl, fun j v hj => ?_, rfl⟩⟩
  have hj0 : j = 0 ∧ v = .int k x := by cases j <;> simp_all
  obtain ⟨rfl, rfl⟩ := hj0
  simp only [scale, addr_add, Nat.add_zero, Nat.zero_add]
  unfold mcell
  simp only [Mem.add_same, ocell]
  simp [toArr, ints, hx]
end
end Go.Ev
