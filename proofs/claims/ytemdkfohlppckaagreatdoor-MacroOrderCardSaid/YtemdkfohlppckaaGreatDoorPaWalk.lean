/- The parser, walked: all its functions at once. Conditions: none. -/
import Derived.Test.YtemdkfohlppckaaGreatDoorPaSmall
import Derived.Test.YtemdkfohlppckaaGreatDoorPaKeep
import Derived.Test.YtemdkfohlppckaaGreatDoorTreeOwn

namespace Go.Proofs.YtemdkfohlppckaaGreatDoor.pa
open Go Go.Ev Go.Proofs Go.Proofs.YtemdkfohlppckaaGreatDoor.lx Go.Proofs.YtemdkfohlppckaaGreatDoor.tree

/-- A parser's call: what it reads, and what is left. -/
def Out (b fin : Nat) (dv : Value) (r : Re) (s' : PS) (m' : Mem) (L' : Ev.Own) (u : Value) : Prop := ∃ cs sl', u = .agg (toArr cs) ∧ RepRe m' cs r ∧ Sl m' 9 isW sl' s'.l ∧ L' = [(b, poO sl' fin dv s')]
def Ctr (f : Nat) (extra : List Value) (fin : Nat) (defs : List (List UInt8 × Re)) (s : PS) (r : Re) (s' : PS) : Prop :=
  ∀ (m : Mem) (b : Nat) (sl dv : Value), Sl m 9 isW sl s.l → Sl m 10 (isDef m) dv defs → Ev.Fn Tryz.prog f (.pointer (some ⟨b, 0, none⟩) :: extra) m [(b, poO sl fin dv s)] (Out b fin dv r s')
/-- What is to be shown of a task. -/
def Spec (fin : Nat) (defs : List (List UInt8 × Re)) (t : Task) (s : PS) (r : Re) (s' : PS) : Prop := match t with
  | .alt => Ctr 20 [] fin defs s r s'
  | .both => Ctr 41 [] fin defs s r s'
  | .cat => Ctr 69 [] fin defs s r s'
  | .no => Ctr 86 [] fin defs s r s'
  | .post => Ctr 92 [] fin defs s r s'
  | .atom => Ctr 98 [] fin defs s r s'
  | .inner n => Ctr 105 [.int .i64 n] fin defs s r s'
  | _ => True
/-- A word's numbers are numbers of the machine. -/
def OkW (w : W) : Prop := inI w.lo ∧ inI w.hi ∧ ∀ q, w.set q ≤ 18446744073709551615
def Bnd (s : PS) : Prop := s.deep + s.l.length ≤ 1000000 ∧ ∀ x ∈ s.l, OkW x.2
theorem Bnd.keeps {s s' : PS} (h : Bnd s) (k : Keeps s s') : Bnd s' := by
  have h1 := k.1
  have h2 := k.2.length_le
  exact ⟨by have := h.1; omega, fun x hx => h.2 x (k.2.subset hx)⟩
theorem Bnd.enter {s : PS} (h : Bnd s) (hne : s.l ≠ []) (at_ : Int) : Bnd (enterP at_ (nextP s)) ∧ (nextP s).deep ≤ 1000000 := by
  have h0 := enter_deep at_ (nextP s)
  have hl : (nextP s).l.length + 1 = s.l.length := by
    have := List.length_pos_iff.2 hne
    simp only [nextP, List.length_tail]; omega
  have hd : (nextP s).deep = s.deep := rfl
  refine ⟨⟨?_, fun x hx => ?_⟩, ?_⟩
  · rw [h0.1, h0.2]; have := h.1; omega
  · rw [h0.2] at hx; exact h.2 x (List.mem_of_mem_tail hx)
  · have := h.1; omega
def BndT (t : Task) (s : PS) : Prop := match t with
  | .inner _ => Bnd { s with deep := s.deep + 1 }
  | _ => Bnd s
def Known (fin : Nat) (defs : List (List UInt8 × Re)) (k : Nat) : Prop := ∀ j, j < k → ∀ t s r s', P fin defs j t s = some (r, s') → BndT t s → Spec fin defs t s r s'

/-- Defs that lie, lie on. -/
theorem defs_le {m m' : Mem} {dv : Value} {defs : List (List UInt8 × Re)} (h : Sl m 10 (isDef m) dv defs) (hm : Mem.Le m m') : Sl m' 10 (isDef m') dv defs :=
  h.le hm fun cs d _ ⟨cs', e, hr⟩ => ⟨cs', e, hr.le hm⟩

/-- Rows of one's own, and what they read as. -/
def Rows (m : Mem) (v : Value) (acc : List Re) (L : Ev.Own) : Prop := ∃ rows : List (List Value), OwnS 36 9 v rows.flatten L ∧ (∀ r ∈ rows, r.length = 9) ∧ rows.length = acc.length ∧ ∀ (i : Nat) (x : Re), acc[i]? = some x → ∃ cs, rows[i]? = some cs ∧ RepRe m cs x
theorem Rows.nil (m : Mem) : Rows m (.slice none 0 0) [] [] := ⟨[], OwnS.nil _ _, fun r hr => by simp at hr, rfl, fun i x h => by simp at h⟩
theorem Rows.le {m m' : Mem} (hm : Mem.Le m m') {v : Value} {acc : List Re} {L : Ev.Own} (h : Rows m v acc L) : Rows m' v acc L := by
  obtain ⟨rows, h1, h2, h3, h4⟩ := h
  exact ⟨rows, h1, h2, h3, fun i x hx => by obtain ⟨cs, a, b⟩ := h4 i x hx; exact ⟨cs, a, b.le hm⟩⟩
theorem Rows.one {m : Mem} {g : Nat} {cs : List Value} {x : Re} (h : RepRe m cs x) : Rows m (.slice (some ⟨g, 0, none⟩) 1 1) [x] [(g, .cells (toArr cs) 36 (0, 0))] := by
  have h9 := h.len
  refine ⟨[cs], ?_, fun r hr => by simp at hr; rw [hr]; exact h9, rfl, fun i y hy => ?_⟩
  · have := OwnS.full (te := 36) (size := 9) (g := g) (n := 1) (cur := cs) (by decide) (by omega)
    simpa using this
  · cases i with
    | zero => cases hy; exact ⟨cs, rfl, h⟩
    | succ i => cases hy
theorem Rows.push {m0 m : Mem} {S : List Nat} {w0 w : World} {v : Value} {acc : List Re} {L1 L2 : Ev.Own} {g : Nat} {cs : List Value} {x : Re} {c : Nat} {ty : TypeId} {K : Value → World → Prop}
    (h : Rows m v acc L1) (hx : RepRe m cs x) (hone : cs.all Value.oneCell' = true) (hacc : acc.length ≤ 100000000) (hL : Ev.Loc m0 S w0 m ((g, .cells (toArr cs) 36 (0, 0)) :: (L1 ++ L2)) w)
    (k : ∀ A n c L' w', Rows m (.slice A n c) (acc ++ [x]) L' → Ev.Loc m0 S w0 m (L' ++ L2) w' → K (.slice A n c) w') :
    RunReq Tryz.prog (Builtin.append_ #[34, 34] ty (toArr [v, .slice (some ⟨g, 0, none⟩) 1 c])) w K := by
  obtain ⟨rows, h1, h2, h3, h4⟩ := h
  have h9 := hx.len
  refine RunReq.push hX 34 36 rfl rfl rfl rfl rfl h1 hL (by show Nat.beq cs.length 9 = true; rw [h9]; rfl) hone (by rw [flat_len rows h2, h3]; show _ + 9 ≤ _; omega) rfl ?_
  intro A n c L' w' hn ho hl
  refine k A n c L' w' ⟨rows ++ [cs], by rw [List.flatten_append, List.flatten_cons, List.flatten_nil, List.append_nil]; exact ho, fun r hr => ?_, by simp [h3], fun i y hy => ?_⟩ hl
  · rcases List.mem_append.1 hr with h | h
    · exact h2 r h
    · rw [List.mem_singleton.1 h]; exact h9
  · by_cases e : i < acc.length
    · rw [List.getElem?_append_left e] at hy
      obtain ⟨cs', a, b⟩ := h4 i y hy
      exact ⟨cs', by rw [List.getElem?_append_left (by omega)]; exact a, b⟩
    · rw [List.getElem?_append_right (by omega)] at hy
      rw [List.getElem?_append_right (by omega), h3]
      cases hi : i - acc.length with
      | zero => rw [hi] at hy; cases hy; exact ⟨cs, rfl, hx⟩
      | succ j => rw [hi] at hy; cases hy
theorem Rows.freeze {m0 m : Mem} {S : List Nat} {w0 w : World} {v : Value} {acc : List Re} {L1 L2 : Ev.Own} (h : Rows m v acc L1) (hL : Ev.Loc m0 S w0 m (L1 ++ L2) w) :
    ∃ m', Ev.Loc m0 S w0 m' L2 w ∧ Mem.Le m m' ∧ Sl m' 9 (RepRe m') v acc := by
  obtain ⟨rows, h1, h2, h3, h4⟩ := h
  obtain ⟨m', A', c', ev, hL2, hm2, hsl, -⟩ := OwnS.freezeRows (size := 9) (R := RepRe m) (l := acc) (by omega) h1 hL h2 (by omega) h4
  exact ⟨m', hL2, hm2, hsl.le (Mem.Le.refl m') fun cs x _ hx => hx.le hm2⟩
theorem Rows.slice {m : Mem} {v : Value} {acc : List Re} {L : Ev.Own} (h : Rows m v acc L) : ∃ A n c, v = .slice A n c ∧ n = acc.length := by
  obtain ⟨rows, ⟨n, hn, h | ⟨g, cap, cur, e, rfl, h1, h2, h3, h4⟩⟩, h9, h3', _⟩ := h
  · obtain ⟨rfl, rfl, rfl⟩ := h
    refine ⟨none, 0, 0, rfl, ?_⟩
    rw [flat_len rows h9] at hn; omega
  · refine ⟨_, _, _, e, ?_⟩
    rw [flat_len rows h9] at hn; omega
theorem RepRe.ones {m : Mem} {cs : List Value} {r : Re} (h : RepRe m cs r) : cs.all Value.oneCell' = true := by
  obtain ⟨k1, u0, u1, u2, u3, A1, n1, c1, lo1, hi1, neg1, rfl⟩ := h.form
  rfl
end Go.Proofs.YtemdkfohlppckaaGreatDoor.pa
