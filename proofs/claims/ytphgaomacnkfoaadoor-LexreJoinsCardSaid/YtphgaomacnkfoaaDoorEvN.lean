/- Arithmetic of numbers that are not below nought. Conditions: none; over any program. -/
import Derived.Test.YtphgaomacnkfoaaDoorEvM
namespace Go.Ev
open Go

theorem tdiv_nat (a k : Nat) : (a : Int).tdiv (k : Int) = ((a / k : Nat) : Int) := by
  rw [Int.tdiv_eq_ediv_of_nonneg (by omega)]; rfl
theorem tmod_nat (a k : Nat) : (a : Int).tmod (k : Int) = ((a % k : Nat) : Int) := by
  rw [Int.tmod_eq_emod_of_nonneg (by omega)]; rfl
theorem DivReq.i64 {a k : Nat} {b : Int} {K : Int → Prop} (hb : b = (k : Int)) (hk : 0 < k) (ha : a ≤ 9223372036854775807) (h : K ((a / k : Nat) : Int)) : DivReq .i64 a b K := by
  subst hb
  have := Nat.div_le_self a k
  exact DivReq.mk (by omega) (by rw [tdiv_nat]; generalize a / k = q at this; exact wrap_keep .i64 (by show -9223372036854775808 ≤ _; omega) (by show _ ≤ (9223372036854775807 : Int); omega)) h
theorem DivReq.u64 {a k : Nat} {b : Int} {K : Int → Prop} (hb : b = (k : Int)) (hk : 0 < k) (ha : a ≤ 18446744073709551615) (h : K ((a / k : Nat) : Int)) : DivReq .u64 a b K := by
  subst hb
  have := Nat.div_le_self a k
  exact DivReq.mk (by omega) (by rw [tdiv_nat]; generalize a / k = q at this; exact wrap_keep .u64 (by show 0 ≤ _; omega) (by show _ ≤ (18446744073709551615 : Int); omega)) h
theorem RemReq.nat {a k : Nat} {b : Int} {K : Int → Prop} (hb : b = (k : Int)) (hk : 0 < k) (h : K ((a % k : Nat) : Int)) : RemReq a b K := by
  subst hb
  exact RemReq.mk (by omega) (tmod_nat a k) h

theorem splice_left (Y : List Value) : ∀ (vs X : List Value) (j : Nat), j + vs.length ≤ X.length → spliceL (X ++ Y) j vs = spliceL X j vs ++ Y := by
  intro vs
  induction vs with
  | nil => intro X j _; rfl
  | cons v vs ih =>
    intro X j h
    simp only [List.length_cons] at h
    simp only [spliceL]
    rw [List.set_append_left _ _ (by omega)]
    exact ih _ _ (by rw [List.length_set]; omega)
theorem splice_len : ∀ (vs X : List Value) (j : Nat), (spliceL X j vs).length = X.length := by
  intro vs
  induction vs with
  | nil => intro X j; rfl
  | cons v vs ih => intro X j; simp only [spliceL]; rw [ih, List.length_set]
/-- A row of a slice of one's own is stored to: the block's cells behind that. -/
theorem owns_row {te size g n cap : Nat} {cur : List Value} {rows : List (List Value)} {row : List Value} (i : Nat) (h1 : n ≤ cap) (h2 : cap ≤ maxLen) (h3 : cur.length = cap * size) (h4 : cur.take (n * size) = rows.flatten)
    (hs : ∀ r ∈ rows, r.length = size) (hi : i < rows.length) (hr : row.length = size) (hn : n = rows.length) :
    OwnS te size (.slice (some ⟨g, 0, none⟩) n cap) (rows.set i row).flatten [(g, .cells (toArr (spliceL cur (i * size) row)) te (0, 0))] := by
  have hle : n * size ≤ cap * size := Nat.mul_le_mul_right _ h1
  have hflen := flat_len rows hs
  have hsp : spliceL cur (i * size) row = (rows.set i row).flatten ++ cur.drop (n * size) := by
    conv => lhs; rw [← List.take_append_drop (n * size) cur]
    rw [h4, splice_left]
    · rw [splice_rows rows i row hs hi hr]
    · rw [hflen, hr]
      have : (i + 1) * size ≤ rows.length * size := Nat.mul_le_mul_right _ hi
      rw [Nat.add_mul, Nat.one_mul] at this
      exact this
  have hl : (rows.set i row).flatten.length = n * size := by
    rw [flat_len (size := size) (rows.set i row) (fun r hr' => by rcases List.mem_or_eq_of_mem_set hr' with h | rfl
                                                                  · exact hs r h
                                                                  · exact hr), List.length_set, hn]
  refine ⟨n, hl, .inr ⟨g, cap, _, rfl, rfl, h1, h2, by rw [splice_len]; exact h3, ?_⟩⟩
  rw [hsp, List.take_append_of_le_length (by omega), ← hl, List.take_length]

section
variable {P : Program} {X : Tab} {m0 m : Mem} {S : List Nat} {w0 w : World} {L : Own}
/-- The run-time's mark on a row of bytes: of no cell. -/
theorem Loc.mark (h : Loc m0 S w0 m L w) {i b off : Nat} {cs : List Value} {t : TypeId} (hi : look L i = some (b, .cells (toArr cs) t (0, 0))) :
    Loc m0 S w0 m (L.set i (b, .cells (toArr cs) t (off, off + 1))) (w.freeze ⟨b, off, none⟩ 1) := by
  rw [look_eq] at hi
  have hmem : (b, Obj.cells (toArr cs) t (0, 0)) ∈ L := List.mem_of_getElem? hi
  have hb := h.own _ hmem
  have hnew : (w.freeze ⟨b, off, none⟩ 1).heap[b]? = some (.cells (toArr cs) t (off, off + 1)) := by
    simp only [World.freeze, if_neg (by decide : ¬ (1 : Nat) = 0), Array.getElem?_modify, if_true]
    simp only at hb
    rw [hb]
    rfl
  have hoth : ∀ k, k ≠ b → (w.freeze ⟨b, off, none⟩ 1).heap[k]? = w.heap[k]? := fun k hk => by
    simp only [World.freeze, if_neg (by decide : ¬ (1 : Nat) = 0), Array.getElem?_modify]
    rw [if_neg (fun e => hk e.symm)]
  have hkeys : keys (L.set i (b, .cells (toArr cs) t (off, off + 1))) = keys L := by
    clear hmem hb hnew hoth h
    induction L generalizing i with
    | nil => simp
    | cons x l ih =>
      cases i with
      | zero => simp at hi; subst hi; simp [keys]
      | succ i => simp only [List.set_cons_succ, keys]; rw [ih (by simpa using hi)]
  have hbk : b ∈ keys L := mem_keys.2 ⟨_, hmem⟩
  refine ⟨h.os, h.tape, h.output, by unfold World.freeze; rw [if_neg (by decide)]; simpa using h.size, fun k hk hs => ?_, fun c o hc => ?_, fun c o hc => hkeys ▸ h.apart c o hc, fun x hx => ?_, hkeys ▸ h.nodup, fun c hc => h.new c (hkeys ▸ hc), h.le, h.mnew⟩
  · have : k ≠ b := fun e => by
      subst e
      rcases h.new k hbk with h1 | h1
      · omega
      · exact hs h1
    rw [hoth k this]; exact h.fr k hk hs
  · have : c ≠ b := fun e => by subst e; exact h.apart c o hc hbk
    rw [hoth c this]; exact h.sub c o hc
  · obtain ⟨j, hj⟩ := List.getElem?_of_mem hx
    rw [List.getElem?_set] at hj
    split at hj
    · split at hj
      · injection hj with hj; subst hj; exact hnew
      · cases hj
    · rename_i hij
      have hxm := List.mem_of_getElem? hj
      have hne : x.1 ≠ b := fun e => by
        have h1 : (keys L)[i]? = some b := by rw [keys_map, List.getElem?_map, hi]; rfl
        have h2 : (keys L)[j]? = some b := by rw [keys_map, List.getElem?_map, hj]; simp [e]
        have hl1 := (List.getElem?_eq_some_iff.1 h1).1
        exact hij ((List.getElem?_inj hl1 h.nodup).1 (h1.trans h2.symm))
      rw [hoth _ hne]; exact h.own _ hxm

/-- Bytes of a constant string: the row is marked. -/
theorem RunReq.bytesConst (hX : TabsOk P X) {t e : Nat} {ti te : TI} (ht : look X.T t = some (some ti)) (hd : ti.d = .slice e) (hte : look X.T e = some (some te)) (hk : te.d = .int .u8) (i : Nat) {b n c : Nat} {cs : List Value} {K : Value → World → Prop}
    (hL : Loc m0 S w0 m L w) (hi : look L i = some (b, .cells (toArr cs) e (0, 0))) (h : ∀ w', Loc m0 S w0 m (L.set i (b, .cells (toArr cs) e (cs.length, cs.length + 1))) w' → K (.slice (some ⟨b, 0, none⟩) n c) w') :
    RunReq P (convert t t (.slice (some ⟨b, 0, none⟩) n c)) w K := by
  refine ⟨⟨_, _, ?_, h _ (hL.mark hi)⟩⟩
  have hi' := hi
  rw [look_eq] at hi'
  have hm := hL.own _ (List.mem_of_getElem? hi')
  have hsh : w.shape? b = some (e, cs.length) := by
    unfold World.shape?
    simp only at hm
    rw [hm]; simp [toArr]
  simp [convert, run_underlying (td_slice (hX.t _ _ ht) hd), run_underlying (td_int (hX.t _ _ hte) hk), markStringish, hsh]
/-- Numbers in a block of one's own, whatever its mark, are handed over. -/
theorem ints_hand {te b n : Nat} {fz : Nat × Nat} {k : IntKind} {l : List Int} {L2 : Own} (hn : n = l.length) (hmax : n ≤ maxLen) (hL : Loc m0 S w0 m ((b, .cells (toArr (ints k l)) te fz) :: L2) w) :
    ∃ m', Loc m0 S w0 m' L2 w ∧ Mem.Le m m' ∧ SlI m' k (.slice (some ⟨b, 0, none⟩) n n) l := by
  refine ⟨_, hL.freeze, hL.le_add, some ⟨b, 0, none⟩, n, n, rfl, hn, Nat.le_refl n, hmax, fun i x hx => ⟨_, [.int k x], rfl, rfl, fun j v hj => ?_, rfl⟩⟩
  have hj0 : j = 0 ∧ v = .int k x := by cases j <;> simp_all
  obtain ⟨rfl, rfl⟩ := hj0
  simp only [scale, addr_add, Nat.add_zero, Nat.zero_add]
  unfold mcell
  simp only [Mem.add_same, ocell]
  simp [toArr, ints, hx]
/-- A call of a function that tells a value and writes nothing that stands: it may read one's own blocks. -/
theorem CallReq.lend {f : Nat} {args : List Value} {v : Value} {K : Value → World → Prop} {mm : Mem} (h : FnV P f args mm v) (hmm : ∀ b o, mm b = some o → w.heap[b]? = some o) (hL : Loc m0 S w0 m L w)
    (k : ∀ w', Loc m0 S w0 m L w' → K v w') : CallReq P f (toArr args) w K := by
  constructor
  have hp : Pre mm [] w := ⟨hmm, fun b o _ hm => by simp [keys] at hm, fun x hx => by simp at hx, by simp [keys]⟩
  refine (h w hp).mono fun e w' ⟨u, m', L', he, hl, h1, h2⟩ => ?_
  subst he h2
  have hlt : ∀ {b : Nat} {o : Obj}, w.heap[b]? = some o → b < w.heap.size := fun h => (Array.getElem?_eq_some_iff.1 h).1
  have hsame : ∀ b, b < w.heap.size → w'.heap[b]? = w.heap[b]? := fun b hb => hl.fr b hb (by simp [keys])
  refine k w' ⟨hl.os.trans hL.os, hl.tape.trans hL.tape, hl.output.trans hL.output, Nat.le_trans hL.size hl.size, fun q hq hs => ?_, fun b o hb => ?_, hL.apart, fun x hx => ?_, hL.nodup, hL.new, hL.le, hL.mnew⟩
  · rw [hsame q (Nat.lt_of_lt_of_le hq hL.size)]; exact hL.fr q hq hs
  · have := hL.sub b o hb
    rw [hsame b (hlt this)]; exact this
  · have := hL.own x hx
    rw [hsame x.1 (hlt this)]; exact this
end
end Go.Ev
