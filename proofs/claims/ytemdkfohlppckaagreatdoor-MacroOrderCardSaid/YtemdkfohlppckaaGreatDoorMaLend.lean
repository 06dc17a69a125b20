/- What is new in memory, by itself; a call that reads one's own blocks and makes new memory; a slice of one's own that was cut off in front. Conditions: none; over any program. -/
import Derived.Test.YtemdkfohlppckaaGreatDoorEv

namespace Go.Ev
open Go

def Mem.none : Mem := fun _ => Option.none
def Mem.union (m n : Mem) : Mem := fun b => match m b with | some o => some o | .none => n b
theorem union_cases {m n : Mem} {b : Nat} {o : Obj} (h : m.union n b = some o) : m b = some o ∨ (m b = .none ∧ n b = some o) := by
  unfold Mem.union at h
  cases hm : m b with
  | some o' => rw [hm] at h; exact .inl h
  | none => rw [hm] at h; exact .inr ⟨rfl, h⟩
theorem le_unionL (m n : Mem) : Mem.Le m (m.union n) := fun b o h => by unfold Mem.union; rw [h]
theorem le_unionR {m n : Mem} (hd : ∀ b o, m b = some o → n b = .none) : Mem.Le n (m.union n) := fun b o h => by
  unfold Mem.union
  cases hm : m b with
  | some o' => rw [hd b o' hm] at h; cases h
  | none => exact h
/-- New memory, apart from what there was. -/
def NewIn (m m' mc : Mem) : Prop := Mem.Le mc m' ∧ ∀ b o, m b = some o → mc b = .none
theorem NewIn.none (m m' : Mem) : NewIn m m' Mem.none := ⟨fun b o h => absurd h (by simp [Mem.none]), fun _ _ _ => rfl⟩
theorem NewIn.le {m m1 m' m2 mc : Mem} (h : NewIn m m' mc) (h1 : Mem.Le m1 m) (h2 : Mem.Le m' m2) : NewIn m1 m2 mc := ⟨h.1.trans h2, fun b o hb => h.2 b o (h1 b o hb)⟩
section
variable {P : Program} {X : Tab} {m0 m : Mem} {S : List Nat} {w0 w : World}
theorem Loc.alone {L1 L2 : Own} (hL : Loc m0 S w0 m (L1 ++ L2) w) : Loc Mem.none (keys L1) w Mem.none L1 w := by
  have hn := hL.nodup
  rw [keys_append, List.nodup_append] at hn
  exact Pre.loc ⟨fun b o h => absurd h (by simp [Mem.none]), fun b o h => absurd h (by simp [Mem.none]), fun x hx => hL.own x (List.mem_append_left _ hx), hn.1⟩
theorem Loc.handed {mc : Mem} {L1 L2 : Own} (hL : Loc m0 S w0 m (L1 ++ L2) w) (hc : Loc Mem.none (keys L1) w mc [] w) : Loc m0 S w0 (m.union mc) L2 w ∧ NewIn m (m.union mc) mc := by
  have hn := hL.nodup
  rw [keys_append, List.nodup_append] at hn
  have hk : ∀ b o, mc b = some o → b ∈ keys L1 := fun b o hb => by
    rcases hc.mnew b o hb with h | h | h
    · exact absurd h (by simp [Mem.none])
    · have := heap_lt (hc.sub b o hb); omega
    · exact h
  have hd : ∀ b o, m b = some o → mc b = .none := fun b o hb => by
    cases hm : mc b with
    | none => rfl
    | some o' => exact absurd (by rw [keys_append]; exact List.mem_append_left _ (hk b o' hm)) (hL.apart b o hb)
  refine ⟨⟨hL.os, hL.tape, hL.output, hL.size, hL.fr, fun b o hb => ?_, fun b o hb => ?_, fun x hx => hL.own x (List.mem_append_right _ hx), hn.2.1, fun b hb => hL.new b (by rw [keys_append]; exact List.mem_append_right _ hb), hL.le.trans (le_unionL m mc), fun b o hb => ?_⟩, le_unionR hd, hd⟩
  · rcases union_cases hb with h | ⟨-, h⟩
    · exact hL.sub b o h
    · exact hc.sub b o h
  · rcases union_cases hb with h | ⟨-, h⟩
    · intro hm; exact hL.apart b o h (by rw [keys_append]; exact List.mem_append_right _ hm)
    · intro hm; exact hn.2.2 b (hk b o h) b hm rfl
  · rcases union_cases hb with h | ⟨-, h⟩
    · exact hL.mnew b o h
    · exact .inr (hL.new b (by rw [keys_append]; exact List.mem_append_left _ (hk b o h)))
/-- A call of a function that makes new memory; it may read one's own blocks, and what it tells stands in the new memory alone. -/
theorem CallReq.lendNew {f : Nat} {args : List Value} {L : Own} {Post : Mem → Value → Prop} {K : Value → World → Prop} {mm : Mem} (h : Fn0 P f args mm fun m' v => ∃ mc, NewIn mm m' mc ∧ Post mc v) (hmm : ∀ b o, mm b = some o → w.heap[b]? = some o) (hle : Mem.Le m mm) (hL : Loc m0 S w0 m L w)
    (k : ∀ v mc w', Loc m0 S w0 (m.union mc) L w' → NewIn m (m.union mc) mc → Post mc v → K v w') : CallReq P f (toArr args) w K := by
  constructor
  have hp : Pre mm [] w := ⟨hmm, fun b o _ hm => by simp [keys] at hm, fun x hx => by simp at hx, by simp [keys]⟩
  refine (h w hp).mono fun e w' ⟨u, m', L', he, hl, h1, mc, h2, h3⟩ => ?_
  subst he
  have hlt : ∀ {b : Nat} {o : Obj}, w.heap[b]? = some o → b < w.heap.size := fun h => (Array.getElem?_eq_some_iff.1 h).1
  have hsame : ∀ b, b < w.heap.size → w'.heap[b]? = w.heap[b]? := fun b hb => hl.fr b hb (by simp [keys])
  have hnew : ∀ b o, mc b = some o → w.heap.size ≤ b := fun b o hb => by
    rcases hl.mnew b o (h2.1 b o hb) with h | h | h
    · rw [h2.2 b o h] at hb; cases hb
    · exact h
    · simp [keys] at h
  have hd : ∀ b o, m b = some o → mc b = .none := fun b o hb => h2.2 b o (hle b o hb)
  refine k u mc w' ⟨hl.os.trans hL.os, hl.tape.trans hL.tape, hl.output.trans hL.output, Nat.le_trans hL.size hl.size, fun q hq hs => ?_, fun b o hb => ?_, fun b o hb => ?_, fun x hx => ?_, hL.nodup, hL.new, hL.le.trans (le_unionL m mc), fun b o hb => ?_⟩ ⟨le_unionR hd, hd⟩ h3
  · rw [hsame q (Nat.lt_of_lt_of_le hq hL.size)]; exact hL.fr q hq hs
  · rcases union_cases hb with h | ⟨-, h⟩
    · have := hL.sub b o h
      rw [hsame b (hlt this)]; exact this
    · exact hl.sub b o (h2.1 b o h)
  · rcases union_cases hb with h | ⟨-, h⟩
    · exact hL.apart b o h
    · intro hm
      obtain ⟨o', ho⟩ := mem_keys.1 hm
      have := hlt (hL.own _ ho)
      have := hnew b o h
      simp at *
      omega
  · have := hL.own x hx
    rw [hsame x.1 (hlt this)]; exact this
  · rcases union_cases hb with h | ⟨-, h⟩
    · exact hL.mnew b o h
    · exact .inr (.inl (Nat.le_trans hL.size (hnew b o h)))
end
end Go.Ev
namespace Go.Ev
open Go

/-- A slice of one's own, of rows of one cell, from whatever place of its block on. -/
def OwnO (te : Nat) (v : Value) (xs : List Value) (L : Own) : Prop :=
  (v = .slice none 0 0 ∧ xs = [] ∧ L = []) ∨
    ∃ g o n cap cur, v = .slice (some ⟨g, o, none⟩) n cap ∧ L = [(g, .cells (toArr cur) te (0, 0))] ∧ n = xs.length ∧ n ≤ cap ∧ cap ≤ maxLen ∧ o + cap ≤ cur.length ∧ (cur.drop o).take n = xs
theorem OwnS.toO {te : Nat} {v : Value} {xs : List Value} {L : Own} (h : OwnS te 1 v xs L) : OwnO te v xs L := by
  obtain ⟨n, hn, ⟨rfl, h0, rfl⟩ | ⟨g, cap, cur, rfl, rfl, h1, h2, h3, h4⟩⟩ := h
  · subst h0
    exact .inl ⟨rfl, List.eq_nil_of_length_eq_zero (by simpa using hn), rfl⟩
  · refine .inr ⟨g, 0, n, cap, cur, rfl, rfl, by omega, h1, h2, by omega, ?_⟩
    rw [List.drop_zero]; rw [Nat.mul_one] at h4; exact h4
theorem OwnO.slice {te : Nat} {v : Value} {xs : List Value} {L : Own} (h : OwnO te v xs L) : ∃ A c, v = .slice A xs.length c ∧ xs.length ≤ c ∧ c ≤ maxLen := by
  rcases h with ⟨rfl, rfl, rfl⟩ | ⟨g, o, n, cap, cur, rfl, rfl, rfl, h2, h3, -⟩
  · exact ⟨_, _, rfl, by simp, by simp [maxLen]⟩
  · exact ⟨_, _, rfl, h2, h3⟩
section
variable {P : Program} {X : Tab} {m0 m : Mem} {S : List Nat} {w0 w : World}

theorem OwnO.cell {te : Nat} {x : Value} {A : Option Addr} {n c : Nat} {xs : List Value} {L1 L2 : Own} (h : OwnO te (.slice A n c) (x :: xs) L1) (hL : Loc m0 S w0 m (L1 ++ L2) w) :
    ∃ a, A = some a ∧ w.cell? (a.add 0) = some x ∧ OwnO te (.slice (if c = 1 then some a else some (a.add 1)) xs.length (c - 1)) xs L1 ∧ n = xs.length + 1 ∧ n ≤ c ∧ c ≤ maxLen := by
  rcases h with ⟨e, h0, -⟩ | ⟨g, o, n', cap, cur, e, rfl, h1, h2, h3, h4, h5⟩
  · cases h0
  · injection e with e1 e2 e3
    subst e1 e2 e3
    have hc : cur[o]? = some x := by
      have : ((cur.drop o).take n)[0]? = some x := by rw [h5]; rfl
      rw [List.getElem?_take, if_pos (by simp at h1; omega), List.getElem?_drop] at this
      simpa using this
    have h6 : (cur.drop o) = x :: cur.drop (o + 1) := by
      rw [List.drop_eq_getElem_cons (by rw [List.getElem?_eq_some_iff] at hc; exact hc.1)]
      congr 1
      obtain ⟨h7, h8⟩ := List.getElem?_eq_some_iff.1 hc
      exact h8
    have h7 : (cur.drop (o + 1)).take xs.length = xs := by
      rw [h6, h1, List.length_cons, List.take_succ_cons] at h5
      injection h5
    simp only [List.length_cons] at h1
    refine ⟨_, rfl, ?_, ?_, h1, h2, h3⟩
    · rw [addr_add, Nat.add_zero]
      refine (hL.ownCell (b := g) (i := o) (c := toArr cur) (t := te) (f := (0, 0)) (by simp)).trans ?_
      simpa [toArr] using hc
    · by_cases hc1 : c = 1
      · rw [if_pos hc1]
        have hx0 : xs = [] := List.eq_nil_of_length_eq_zero (by omega)
        subst hx0
        exact .inr ⟨g, o, 0, c - 1, cur, rfl, rfl, rfl, by omega, by omega, by omega, by simp⟩
      · rw [if_neg hc1, addr_add]
        exact .inr ⟨g, o + 1, xs.length, c - 1, cur, rfl, rfl, rfl, by omega, by omega, by omega, h7⟩
theorem splice_take : ∀ (cur vs : List Value) (a : Nat), a + vs.length ≤ cur.length → spliceL cur a vs = cur.take a ++ vs ++ cur.drop (a + vs.length) := by
  intro cur vs
  induction vs generalizing cur with
  | nil => intro a h; simp [spliceL]
  | cons v vs ih =>
    intro a h
    simp only [List.length_cons] at h
    simp only [spliceL]
    rw [ih _ _ (by simp; omega), List.length_cons]
    have e1 : (cur.set a v).take (a + 1) = cur.take a ++ [v] := by
      rw [List.take_add_one, List.take_set_of_le (by omega), List.getElem?_set, if_pos rfl, if_pos (by omega)]; rfl
    have e2 : (cur.set a v).drop (a + 1 + vs.length) = cur.drop (a + (vs.length + 1)) := by
      rw [List.drop_set_of_lt (by omega)]; congr 1; omega
    rw [e1, e2]
    simp [List.append_assoc]
/-- append onto a slice of one's own that was cut off in front. -/
theorem RunReq.appendO (hX : TabsOk P X) (t te : Nat) {ti tei : TI} {ty : TypeId} (ht : look X.T t = some (some ti)) (hd : ti.d = .slice te) (hte : look X.T te = some (some tei)) (h1s : Nat.beq tei.size 1 = true) (hzs : Nat.beq tei.zero.length tei.size = true) (hby : Nat.ble tei.bytes 64 = true)
    {v : Value} {xs : List Value} {L1 L2 : Own} {A : Option Addr} {k c : Nat} {news : List Value} {K : Value → World → Prop}
    (hown : OwnO te v xs L1) (hL : Loc m0 S w0 m (L1 ++ L2) w)
    (hl : news.length = k) (hc : ∀ j u, news[j]? = some u → ∃ a, A = some a ∧ w.cell? (a.add j) = some u) (h1 : ∀ u ∈ news, u.oneCell' = true)
    (hb : xs.length + news.length ≤ 1099511627776)
    (h : ∀ A n c L1' w', n = xs.length + news.length → OwnO te (.slice A n c) (xs ++ news) L1' → Loc m0 S w0 m (L1' ++ L2) w' → K (.slice A n c) w') :
    RunReq P (Builtin.append_ #[t, t] ty (toArr [v, .slice A k c])) w K := by
  have h1s := Nat.eq_of_beq_eq_true h1s
  have hzs := Nat.eq_of_beq_eq_true hzs
  have hby := Nat.le_of_ble_eq_true hby
  have hT := hX.t _ _ ht
  have hTe := hX.t _ _ hte
  obtain ⟨i, d, z, hi, _, hz, htei⟩ := tiOf_info hTe
  have e1 : i.size = 1 := by rw [← h1s, htei]
  have e2 : i.bytes ≤ 64 := by have : i.bytes = tei.bytes := by rw [htei]
                               omega
  have e3 : z.cells.size = 1 := by rw [← h1s, ← hzs, htei]; simp
  have harg : toArr [v, .slice A k c] = #[v, .slice A k c] := rfl
  rw [harg]
  rcases Nat.eq_zero_or_pos k with hk | hk
  · subst hk
    have hn0 : news = [] := List.eq_nil_of_length_eq_zero hl
    subst hn0
    obtain ⟨A0, c0, hv, hle, -⟩ := hown.slice
    have hrun : (Builtin.append_ #[t, t] ty #[v, .slice A 0 c]).run P w = .ok v w := by
      rw [hv]
      cases A <;> cases A0 <;> simp [Builtin.append_, run_underlying (td_slice hT hd), sizeOf, typeInfo, hi, Builtin.lenOf, Builtin.firstCells, loadCells, loadCellsFrom, hle, storeCells]
    refine ⟨v, w, hrun, ?_⟩
    rw [hv] at hown ⊢
    exact h A0 xs.length c0 L1 w (by simp) (by simpa using hown) hL
  obtain ⟨a, rfl, _⟩ := hc 0 _ (List.getElem?_eq_getElem (show 0 < news.length by omega))
  have hc' : ∀ j u, news[j]? = some u → w.cell? (a.add j) = some u := fun j u hu => by
    obtain ⟨a', h2, h3⟩ := hc j u hu
    injection h2 with h2; subst h2; exact h3
  rcases hown with ⟨rfl, rfl, rfl⟩ | ⟨g, o, n, cap, cur, rfl, rfl, hn, h2, h3, h4, h5⟩
  · have hrun := run_append_nil (P := P) w t ty te i z (td_slice hT hd) hi hz a k c news (by rw [e1, Nat.mul_one]; exact hl) hc' hk (by simp at hb; omega) (Nat.le_trans (Nat.mul_le_mul_left _ e2) (by simp at hb; omega))
    have hge := grownCap_ge w k 0 te
    have hle := grownCap_le_maxLen w k 0 te (by simp only [maxLen]; simp at hb; omega)
    refine ⟨_, _, hrun, ?_⟩
    generalize grownCap w k 0 te = gc at *
    have hcells : (news.toArray ++ Builtin.zeroCells z.cells (gc - k)) = toArr (news ++ (Builtin.zeroCells z.cells (gc - k)).toList) := by
      apply Array.ext'; simp [toArr]
    have hzl : (Builtin.zeroCells z.cells (gc - k)).toList.length = gc - k := by
      rw [Array.length_toList, size_zeroCells, e3, Nat.mul_one]
    rw [hcells]
    refine h (some ⟨w.heap.size, 0, none⟩) k gc [(w.heap.size, .cells (toArr (news ++ (Builtin.zeroCells z.cells (gc - k)).toList)) te (0, 0))] _ (by simp; omega) (.inr ⟨w.heap.size, 0, k, gc, _, rfl, rfl, by simp; omega, hge, hle, ?_, ?_⟩) (hL.drew.alloc _)
    · rw [List.length_append, hzl]; omega
    · rw [List.drop_zero, List.nil_append, List.take_append_of_le_length (by omega), List.take_of_length_le (by omega)]
  by_cases hroom : n + k ≤ cap
  · obtain ⟨w', hst, hL'⟩ := run_storeCells (P := P) te news 0 (i := 0) (b := g) (off := o + n) (cs := cur) hL rfl (by omega) h1
    have hf := run_firstCells_some (P := P) w i.size k a k c news (by rw [e1, Nat.mul_one]; exact hl) hc'
    rw [e1] at hf
    have hrun : (Builtin.append_ #[t, t] ty #[.slice (some ⟨g, o, none⟩) n cap, .slice (some a) k c]).run P w = .ok (.slice (some ⟨g, o, none⟩) (n + k) cap) w' := by
      simp [Builtin.append_, run_underlying (td_slice hT hd), sizeOf, typeInfo, hi, Builtin.lenOf, hroom, hf, addr_add, e1, hst]
    refine ⟨_, w', hrun, ?_⟩
    rw [Nat.add_zero, splice_take _ _ _ (by omega)] at hL'
    refine h _ _ _ [(g, .cells (toArr (cur.take (o + n) ++ news ++ cur.drop (o + n + news.length))) te (0, 0))] w' (by omega) (.inr ⟨g, o, n + k, cap, _, rfl, rfl, by simp; omega, hroom, h3, ?_, ?_⟩) hL'
    · simp only [List.length_append, List.length_take, List.length_drop]; omega
    · rw [List.append_assoc, List.drop_append_of_le_length (by simp; omega), List.drop_take, show o + n - o = n by omega, h5, ← List.append_assoc, List.take_append_of_le_length (by simp; omega), List.take_of_length_le (by simp; omega)]
  · have holds : ∀ j u, xs[j]? = some u → w.cell? ((⟨g, o, none⟩ : Addr).add j) = some u := by
      intro j u hu
      rw [addr_add]
      refine (hL.ownCell (b := g) (i := o + j) (c := toArr cur) (t := te) (f := (0, 0)) (by simp)).trans ?_
      rw [← h5, List.getElem?_take] at hu
      split at hu
      · rw [List.getElem?_drop] at hu; simpa [toArr] using hu
      · cases hu
    have hrun := run_append_grow (P := P) (w := w) t ty te i z (td_slice hT hd) hi hz ⟨g, o, none⟩ n cap xs (by rw [e1, Nat.mul_one]; exact hn.symm) holds a k c news (by rw [e1, Nat.mul_one]; exact hl) hc' (by omega) (by omega)
      (growslice_fits (by omega) (Nat.le_trans (Nat.mul_le_mul_left _ e2) (by omega)))
    have hge := grownCap_ge w (n + k) cap te
    have hle := grownCap_le_maxLen w (n + k) cap te (by simp only [maxLen]; omega)
    refine ⟨_, _, hrun, ?_⟩
    generalize grownCap w (n + k) cap te = gc at *
    have hcells : (xs.toArray ++ news.toArray ++ Builtin.zeroCells z.cells (gc - (n + k))) = toArr (xs ++ news ++ (Builtin.zeroCells z.cells (gc - (n + k))).toList) := by
      apply Array.ext'; simp [toArr]
    have hzl : (Builtin.zeroCells z.cells (gc - (n + k))).toList.length = gc - (n + k) := by
      rw [Array.length_toList, size_zeroCells, e3, Nat.mul_one]
    rw [hcells]
    refine h (some ⟨w.heap.size, 0, none⟩) (n + k) gc [(w.heap.size, .cells (toArr (xs ++ news ++ (Builtin.zeroCells z.cells (gc - (n + k))).toList)) te (0, 0))] _ (by omega) (.inr ⟨w.heap.size, 0, n + k, gc, _, rfl, rfl, by simp; omega, hge, hle, ?_, ?_⟩) ?_
    · rw [List.length_append, List.length_append, hzl]; omega
    · rw [List.drop_zero, List.take_append_of_le_length (by simp; omega), List.take_of_length_le (by simp; omega)]
    · have := (hL.drew.alloc (.cells (toArr (xs ++ news ++ (Builtin.zeroCells z.cells (gc - (n + k))).toList)) te (0, 0)))
      exact this.sublist (.cons_cons _ (.cons _ (List.Sublist.refl _)))
theorem LdReq.at_ (hX : TabsOk P X) {t : Nat} {ti : TI} (ht : look X.T t = some (some ti)) (hd : ti.d.isAgg = false) {a : Addr} {v : Value} {K : Value → Prop} (hv : w.cell? a = some v) (h : K v) : LdReq P t w a K :=
  ⟨v, run_loadVar_one (hX.t _ _ ht) hd hv, h⟩
end
end Go.Ev
