/- Slices: those that are read, and those that are owned and grow. Conditions: none; over any program. -/
import Derived.Test.YtphgaomacnkfoaaDoorEvH
import Derived.Maps.AppendAt
namespace Go.Ev
open Go

/-- A slice that is read: its elements, each so many cells, each as R says. -/
def Sl {α : Type} (m : Mem) (size : Nat) (R : List Value → α → Prop) (v : Value) (l : List α) : Prop :=
  ∃ A n c, v = .slice A n c ∧ n = l.length ∧ n ≤ c ∧ c ≤ maxLen ∧ ∀ (i : Nat) (x : α), l[i]? = some x → ∃ a cs, A = some a ∧ cs.length = size ∧ Cells m (a.add (scale i size)) cs ∧ R cs x

theorem Sl.le {α : Type} {m m' : Mem} {size : Nat} {R R' : List Value → α → Prop} {v : Value} {l : List α} (h : Sl m size R v l) (hm : Mem.Le m m') (hR : ∀ cs x, x ∈ l → R cs x → R' cs x) : Sl m' size R' v l := by
  obtain ⟨A, n, c, h1, h2, h3, h4, h5⟩ := h
  refine ⟨A, n, c, h1, h2, h3, h4, fun i x hx => ?_⟩
  obtain ⟨a, cs, g1, g2, g3, g4⟩ := h5 i x hx
  exact ⟨a, cs, g1, g2, g3.le hm, hR cs x (List.mem_of_getElem? hx) g4⟩
theorem Sl.le' {α : Type} {m m' : Mem} {size : Nat} {R : List Value → α → Prop} {v : Value} {l : List α} (h : Sl m size R v l) (hm : Mem.Le m m') : Sl m' size R v l := h.le hm fun _ _ _ h => h

/-- One cell, a number. -/
def isI (k : IntKind) (cs : List Value) (z : Int) : Prop := cs = [.int k z]
/-- A slice of numbers. -/
abbrev SlI (m : Mem) (k : IntKind) (v : Value) (l : List Int) : Prop := Sl m 1 (isI k) v l

theorem SlI.cell {m : Mem} {k : IntKind} {A : Option Addr} {n c : Nat} {l : List Int} (h : SlI m k (.slice A n c) l) : n = l.length ∧ ∀ (i : Nat) (z : Int), l[i]? = some z → ∃ a, A = some a ∧ mcell m (a.add i) = some (.int k z) := by
  obtain ⟨A', n', c', h1, h2, _, _, h5⟩ := h
  cases h1
  refine ⟨h2, fun i z hz => ?_⟩
  obtain ⟨a, cs, g1, _, g3, g4⟩ := h5 i z hz
  unfold isI at g4
  subst g4
  refine ⟨a, g1, ?_⟩
  have := g3 0 _ rfl
  simpa [scale, Addr.add] using this

/-- A slice of the call's own: nil, or at the head of a block that is owned. -/
def OwnS (te size : Nat) (v : Value) (xs : List Value) (L : Own) : Prop :=
  ∃ n, xs.length = n * size ∧ ((v = .slice none 0 0 ∧ n = 0 ∧ L = []) ∨
    ∃ g cap cur, v = .slice (some ⟨g, 0, none⟩) n cap ∧ L = [(g, .cells (toArr cur) te (0, 0))] ∧ n ≤ cap ∧ cap ≤ maxLen ∧ cur.length = cap * size ∧ cur.take (n * size) = xs)

theorem OwnS.nil (te size : Nat) : OwnS te size (.slice none 0 0) [] [] := ⟨0, by simp, .inl ⟨rfl, rfl, rfl⟩⟩
theorem OwnS.block {te size g n cap : Nat} {cur : List Value} (h1 : n ≤ cap) (h2 : cap ≤ maxLen) (h3 : cur.length = cap * size) :
    OwnS te size (.slice (some ⟨g, 0, none⟩) n cap) (cur.take (n * size)) [(g, .cells (toArr cur) te (0, 0))] :=
  ⟨n, by rw [List.length_take, h3]; exact Nat.min_eq_left (Nat.mul_le_mul_right _ h1), .inr ⟨g, cap, cur, rfl, rfl, h1, h2, h3, rfl⟩⟩
theorem OwnS.full {te size g n : Nat} {cur : List Value} (h2 : n ≤ maxLen) (h3 : cur.length = n * size) :
    OwnS te size (.slice (some ⟨g, 0, none⟩) n n) cur [(g, .cells (toArr cur) te (0, 0))] := by
  have := OwnS.block (te := te) (g := g) (Nat.le_refl n) h2 h3
  rwa [← h3, List.take_length] at this

section
variable {P : Program} {X : Tab} {m0 m : Mem} {S : List Nat} {w0 w : World}

/-- A step that turns the blocks L1 alone, and makes new ones. -/
theorem Loc.step {L1 L2 L1' : Own} {w' : World} (h : Loc m0 S w0 m (L1 ++ L2) w) (hos : w'.os = w.os) (htp : w'.tape = w.tape) (hout : w'.output = w.output) (hsz : w.heap.size ≤ w'.heap.size)
    (hblk : ∀ k, k < w.heap.size → k ∉ keys L1 → w'.heap[k]? = w.heap[k]?) (hown : ∀ x ∈ L1', w'.heap[x.1]? = some x.2) (hnd : (keys L1').Nodup)
    (hnew : ∀ b ∈ keys L1', b ∈ keys L1 ∨ w.heap.size ≤ b) : Loc m0 S w0 m (L1' ++ L2) w' := by
  have hn := h.nodup
  rw [keys_append, List.nodup_append] at hn
  have hL2 : ∀ x ∈ L2, w'.heap[x.1]? = some x.2 ∧ x.1 < w.heap.size ∧ x.1 ∉ keys L1 := fun x hx => by
    have h1 := h.own x (List.mem_append_right _ hx)
    have h2 := heap_lt h1
    have h3 : x.1 ∉ keys L1 := fun hc => hn.2.2 _ hc _ (mem_keys.2 ⟨x.2, hx⟩) rfl
    exact ⟨(hblk _ h2 h3).trans h1, h2, h3⟩
  have hm : ∀ b o, m b = some o → b < w.heap.size ∧ b ∉ keys L1 ∧ b ∉ keys L2 := fun b o hb => by
    have h1 := h.apart b o hb
    rw [keys_append, List.mem_append, not_or] at h1
    exact ⟨heap_lt (h.sub b o hb), h1.1, h1.2⟩
  refine ⟨hos.trans h.os, htp.trans h.tape, hout.trans h.output, Nat.le_trans h.size hsz, fun k hk hs => ?_, fun b o hb => ?_, fun b o hb => ?_, fun x hx => ?_, ?_, fun b hb => ?_, h.le, h.mnew⟩
  · have : k ∉ keys L1 := fun hc => by
      rcases h.new k (by rw [keys_append]; exact List.mem_append_left _ hc) with h1 | h1
      · omega
      · exact hs h1
    exact (hblk k (Nat.lt_of_lt_of_le hk h.size) this).trans (h.fr k hk hs)
  · obtain ⟨h1, h2, _⟩ := hm b o hb
    exact (hblk b h1 h2).trans (h.sub b o hb)
  · obtain ⟨h1, h2, h3⟩ := hm b o hb
    rw [keys_append, List.mem_append, not_or]
    exact ⟨fun hc => by rcases hnew b hc with h4 | h4; exact h2 h4; omega, h3⟩
  · rcases List.mem_append.1 hx with hx | hx
    · exact hown x hx
    · exact (hL2 x hx).1
  · rw [keys_append, List.nodup_append]
    refine ⟨hnd, hn.2.1, fun a ha b hb e => ?_⟩
    subst e
    obtain ⟨o, ho⟩ := mem_keys.1 hb
    rcases hnew a ha with h4 | h4
    · exact (hL2 _ ho).2.2 h4
    · have := (hL2 _ ho).2.1; simp at this; omega
  · rw [keys_append, List.mem_append] at hb
    rcases hb with hb | hb
    · rcases hnew b hb with h4 | h4
      · exact h.new b (by rw [keys_append]; exact List.mem_append_left _ h4)
      · exact .inl (Nat.le_trans h.size h4)
    · exact h.new b (by rw [keys_append]; exact List.mem_append_right _ hb)

theorem ownsRow_of {te size : Nat} {v : Value} {xs : List Value} {L1 L2 : Own} (h : OwnS te size v xs L1) (hL : Loc m0 S w0 m (L1 ++ L2) w) : ∃ n, w.ownsRow 0 te size v n xs ∧ xs.length = n * size ∧ (∃ A c, v = .slice A n c) ∧
    (v.ownBlock = none ∧ L1 = [] ∨ ∃ g, v.ownBlock = some g ∧ keys L1 = [g]) := by
  obtain ⟨n, hn, h⟩ := h
  rcases h with ⟨rfl, rfl, rfl⟩ | ⟨g, cap, cur, rfl, rfl, h1, h2, h3, h4⟩
  · exact ⟨0, ⟨hn, .inl ⟨rfl, rfl⟩⟩, hn, ⟨_, _, rfl⟩, .inl ⟨rfl, rfl⟩⟩
  · refine ⟨n, ⟨hn, .inr ⟨g, cap, toArr cur, rfl, Nat.zero_le _, ?_, h1, h2, by simpa [toArr] using h3, by simpa [toArr] using h4⟩⟩, hn, ⟨_, _, rfl⟩, .inr ⟨g, rfl, rfl⟩⟩
    exact hL.own (g, _) (by simp)

/-- append of what lies anywhere onto a slice of the call's own. -/
theorem RunReq.append0 (hX : TabsOk P X) {t te : Nat} {ti tei : TI} {ty : TypeId} (ht : look X.T t = some (some ti)) (hd : ti.d = .slice te) (hte : look X.T te = some (some tei)) (hsz : Nat.blt 0 tei.size = true) (hzs : Nat.beq tei.zero.length tei.size = true)
    {v : Value} {xs : List Value} {L1 L2 : Own} {A : Option Addr} {k c : Nat} {news : List Value} {K : Value → World → Prop}
    (hown : OwnS te tei.size v xs L1) (hL : Loc m0 S w0 m (L1 ++ L2) w)
    (hl : news.length = k * tei.size) (hc : ∀ j u, news[j]? = some u → ∃ a, A = some a ∧ w.cell? (a.add j) = some u) (h1 : ∀ u ∈ news, u.oneCell' = true)
    (hb : xs.length + news.length ≤ 1099511627776) (hby : Nat.ble tei.bytes (128 * tei.size) = true)
    (h : ∀ v' L1' w', OwnS te tei.size v' (xs ++ news) L1' → Loc m0 S w0 m (L1' ++ L2) w' → K v' w') :
    RunReq P (Builtin.append_ #[t, t] ty (toArr [v, .slice A k c])) w K := by
  obtain ⟨n, hrow, hxl, ⟨A0, c0, hv⟩, hkeys⟩ := ownsRow_of hown hL
  have hsz : 0 < tei.size := blt_lt hsz
  have hzs := Nat.eq_of_beq_eq_true hzs
  have hby := Nat.le_of_ble_eq_true hby
  have hT := hX.t _ _ ht
  have hTe := hX.t _ _ hte
  obtain ⟨i, d, z, hi, _, hz, htei⟩ := tiOf_info hTe
  have e1 : i.size = tei.size := by rw [htei]
  have e2 : i.bytes = tei.bytes := by rw [htei]
  have e3 : z.cells.size = tei.size := by rw [← hzs, htei]; simp
  have hnk : (n + k) * tei.size ≤ 1099511627776 := by rw [Nat.add_mul, ← hxl, ← hl]; exact hb
  have hn1 : n + k ≤ 1099511627776 := Nat.le_trans (Nat.le_mul_of_pos_right _ hsz) hnk
  have hbytes : (n + k) * tei.bytes ≤ 140737488355328 := by
    have : (n + k) * tei.bytes ≤ (n + k) * (128 * tei.size) := Nat.mul_le_mul_left _ hby
    have e : (n + k) * (128 * tei.size) = 128 * ((n + k) * tei.size) := by rw [Nat.mul_left_comm]
    omega
  have harg : toArr [v, .slice A k c] = #[v, .slice A k c] := rfl
  rw [harg]
  rcases Nat.eq_zero_or_pos k with hk | hk
  · -- nothing is appended
    subst hk
    have hn0 : news = [] := List.eq_nil_of_length_eq_zero (by simpa using hl)
    subst hn0
    have hrun : (Builtin.append_ #[t, t] ty #[v, .slice A 0 c]).run P w = .ok v w := by
      rw [hv] at hrow ⊢
      have hle : n ≤ c0 := by
        rcases hrow.2 with ⟨hv', h0⟩ | ⟨g, cap, cur, hv', _, _, hle, _⟩
        · omega
        · injection hv' with _ _ h3; omega
      cases A <;> cases A0 <;> simp [Builtin.append_, run_underlying (td_slice hT hd), sizeOf, typeInfo, hi, Builtin.lenOf, Builtin.firstCells, loadCells, loadCellsFrom, hle, storeCells]
    exact ⟨v, w, hrun, h v L1 w (by simpa using hown) hL⟩
  · obtain ⟨a, rfl, _⟩ := hc 0 _ (List.getElem?_eq_getElem (show 0 < news.length by rw [hl]; exact Nat.mul_pos hk hsz))
    have hc' : ∀ j u, news[j]? = some u → w.cell? (a.add j) = some u := fun j u hu => by
      obtain ⟨a', h2, h3⟩ := hc j u hu
      injection h2 with h2; subst h2; exact h3
    obtain ⟨v', w', hrun, hrow', hg, _, hat⟩ := run_append_own_at (P := P) w 0 t ty te i z tei.size tei.bytes (td_slice hT hd) hi hz e1 e2 e3 hsz v n xs hrow a k c news hl hc' h1 (by simp only [maxLen]; omega) hbytes (Nat.zero_le _)
    refine ⟨v', w', hrun, ?_⟩
    have hown' : ∃ L1', OwnS te tei.size v' (xs ++ news) L1' ∧ (∀ x ∈ L1', w'.heap[x.1]? = some x.2) ∧ (keys L1').Nodup ∧ ∀ b ∈ keys L1', v'.ownBlock = some b := by
      rcases hrow'.2 with ⟨rfl, h0⟩ | ⟨g, cap, cur, rfl, _, hgg, h2, h3, h4, h5⟩
      · exact ⟨[], ⟨n + k, hrow'.1, .inl ⟨rfl, h0, rfl⟩⟩, by simp, by simp [keys], by simp [keys]⟩
      · refine ⟨[(g, .cells (toArr cur.toList) te (0, 0))], ⟨n + k, hrow'.1, .inr ⟨g, cap, cur.toList, rfl, rfl, h2, h3, by simpa using h4, h5⟩⟩, ?_, by simp [keys], by simp [keys, Value.ownBlock]⟩
        intro x hx
        simp only [List.mem_singleton] at hx
        subst hx
        have : toArr cur.toList = cur := by simp [toArr]
        rw [this]; exact hgg
    obtain ⟨L1', k1, k2, k3, k4⟩ := hown'
    refine h v' L1' w' k1 (hL.step hg.os hg.tape hg.output hg.size (fun q hq hnk => hg.block q hq (fun e => ?_)) k2 k3 (fun b hb' => ?_))
    · rcases hkeys with ⟨h2, _⟩ | ⟨g, h2, h3⟩
      · rw [h2] at e; cases e
      · rw [h2] at e; injection e with e; subst e; exact hnk (by rw [h3]; simp)
    · have := k4 b hb'
      rcases hat with h2 | h2
      · rw [h2] at this
        rcases hkeys with ⟨h3, _⟩ | ⟨g, h3, h4⟩
        · rw [h3] at this; cases this
        · rw [h3] at this; injection this with this; subst this; exact .inl (by rw [h4]; simp)
      · rw [h2] at this; injection this with this; subst this; exact .inr (Nat.le_refl _)

theorem OwnS.slice {te size : Nat} {v : Value} {xs : List Value} {L : Own} (h : OwnS te size v xs L) : ∃ A n c, v = .slice A n c ∧ xs.length = n * size := by
  obtain ⟨n, hn, ⟨rfl, h0, _⟩ | ⟨g, cap, cur, rfl, _⟩⟩ := h
  · subst h0; exact ⟨_, 0, _, rfl, hn⟩
  · exact ⟨_, _, _, rfl, hn⟩

/-- An append to a slice of the call's own. -/
theorem RunReq.append (hX : TabsOk P X) (t te : Nat) {ti tei : TI} {ty : TypeId} (ht : look X.T t = some (some ti)) (hd : ti.d = .slice te) (hte : look X.T te = some (some tei)) (hsz : Nat.blt 0 tei.size = true) (hzs : Nat.beq tei.zero.length tei.size = true)
    {v : Value} {xs : List Value} {L1 L2 : Own} {A : Option Addr} {k c : Nat} {news : List Value} {K : Value → World → Prop}
    (hown : OwnS te tei.size v xs L1) (hL : Loc m0 S w0 m (L1 ++ L2) w)
    (hl : news.length = k * tei.size) (hc : ∀ j u, news[j]? = some u → ∃ a, A = some a ∧ w.cell? (a.add j) = some u) (h1 : ∀ u ∈ news, u.oneCell' = true)
    (hb : xs.length + news.length ≤ 1099511627776) (hby : Nat.ble tei.bytes (128 * tei.size) = true)
    (h : ∀ A n c L1' w', (xs ++ news).length = n * tei.size → OwnS te tei.size (.slice A n c) (xs ++ news) L1' → Loc m0 S w0 m (L1' ++ L2) w' → K (.slice A n c) w') :
    RunReq P (Builtin.append_ #[t, t] ty (toArr [v, .slice A k c])) w K :=
  RunReq.append0 hX ht hd hte hsz hzs hown hL hl hc h1 hb hby fun v' L1' w' ho hl' => by
    obtain ⟨A, n, c, rfl, hn⟩ := ho.slice
    exact h A n c L1' w' hn ho hl'

/-- make. -/
theorem RunReq.make (hX : TabsOk P X) {t te : Nat} {ti tei : TI} {L : Own} (ht : look X.T t = some (some ti)) (hd : ti.d = .slice te) (hte : look X.T te = some (some tei)) (hzs : Nat.beq tei.zero.length tei.size = true)
    {kl kc : IntKind} {l c : Int} (n cap : Nat) {K : Value → World → Prop} (hn : l = (n : Int)) (hc : c = (cap : Int)) (hle : n ≤ cap) (hb : cap ≤ 1099511627776) (hby : Nat.ble tei.bytes 256 = true)
    (hL : Loc m0 S w0 m L w)
    (h : ∀ b w', Loc m0 S w0 m ((b, .cells (toArr (zerosL cap tei.zero)) te (0, 0)) :: L) w' → K (.slice (some ⟨b, 0, none⟩) n cap) w') :
    RunReq P (Instr.makeSlice t (.int kl l) (.int kc c)) w K := by
  subst hn hc
  have hzs := Nat.eq_of_beq_eq_true hzs
  have hby := Nat.le_of_ble_eq_true hby
  have hT := hX.t _ _ ht
  have hTe := hX.t _ _ hte
  obtain ⟨i, d, z, hi, _, hz, htei⟩ := tiOf_info hTe
  have e1 : i.size = tei.size := by rw [htei]
  have e2 : i.bytes = tei.bytes := by rw [htei]
  have e3 : z.cells.size = tei.size := by rw [← hzs, htei]; simp
  have hbytes : (i.bytes : Int) * (cap : Int) ≤ 281474976710656 := by
    have h1 : i.bytes * cap ≤ 256 * 1099511627776 := Nat.mul_le_mul (by omega) hb
    have : ((i.bytes * cap : Nat) : Int) ≤ 281474976710656 := by omega
    rwa [Int.natCast_mul] at this
  have hr := run_make (P := P) w t te i z (td_slice hT hd) hi hz kl kc n cap (by omega) (by omega) hbytes (by omega)
  refine ⟨_, _, hr, ?_⟩
  simp only [Int.toNat_natCast]
  have e4 : madeCells z.cells (cap * i.size) = toArr (zerosL cap tei.zero) := by
    apply Array.ext'
    rw [show tei.zero = z.cells.toList by rw [htei]]
    rw [← zeros_eq]
    simp only [madeCells, toArr, e1, e3]
  rw [e4]
  exact h _ _ (hL.alloc _)


/-- Numbers as cells. -/
def ints (k : IntKind) (l : List Int) : List Value := l.map (.int k)
theorem ints_append (k : IntKind) (a b : List Int) : ints k (a ++ b) = ints k a ++ ints k b := List.map_append
theorem ints_one (k : IntKind) (l : List Int) : ∀ u ∈ ints k l, u.oneCell' = true := by
  intro u hu; obtain ⟨z, _, rfl⟩ := List.mem_map.1 hu; rfl
theorem SlI.src {k : IntKind} {A : Option Addr} {n c : Nat} {l : List Int} {L : Own} (h : SlI m k (.slice A n c) l) (hL : Loc m0 S w0 m L w) :
    (ints k l).length = n * 1 ∧ ∀ j u, (ints k l)[j]? = some u → ∃ a, A = some a ∧ w.cell? (a.add j) = some u := by
  obtain ⟨h1, h2⟩ := h.cell
  refine ⟨by simp [ints, h1], fun j u hu => ?_⟩
  simp only [ints, List.getElem?_map, Option.map_eq_some_iff] at hu
  obtain ⟨z, hz, rfl⟩ := hu
  obtain ⟨a, g1, g2⟩ := h2 j z hz
  exact ⟨a, g1, hL.cell g2⟩

theorem SlI.len {k : IntKind} {A : Option Addr} {n c : Nat} {l : List Int} (h : SlI m k (.slice A n c) l) : n = l.length ∧ n ≤ c ∧ c ≤ maxLen := by
  obtain ⟨A', n', c', h1, h2, h3, h4, _⟩ := h
  cases h1
  exact ⟨h2, h3, h4⟩

/-- A slice of the call's own is handed over: from now on it is read. -/
theorem OwnS.freeze {te : Nat} {v : Value} {k : IntKind} {l : List Int} {L1 L2 : Own} (h : OwnS te 1 v (ints k l) L1) (hL : Loc m0 S w0 m (L1 ++ L2) w) :
    ∃ m', Loc m0 S w0 m' L2 w ∧ Mem.Le m m' ∧ SlI m' k v l := by
  obtain ⟨n, hn, h⟩ := h
  have hln : n = l.length := by simp [ints] at hn; exact hn.symm
  rcases h with ⟨rfl, h0, rfl⟩ | ⟨g, cap, cur, rfl, rfl, h1, h2, h3, h4⟩
  · refine ⟨m, hL, Mem.Le.refl m, none, 0, 0, rfl, by omega, Nat.le_refl _, Nat.zero_le _, fun i x hx => ?_⟩
    have : l = [] := List.eq_nil_of_length_eq_zero (by omega)
    subst this
    simp at hx
  · refine ⟨_, hL.freeze, hL.le_add, some ⟨g, 0, none⟩, n, cap, rfl, hln, h1, h2, fun i x hx => ⟨_, [.int k x], rfl, rfl, fun j v hj => ?_, rfl⟩⟩
    have hj0 : j = 0 ∧ v = .int k x := by cases j <;> simp_all
    obtain ⟨rfl, rfl⟩ := hj0
    simp only [scale, addr_add, Nat.add_zero, Nat.zero_add]
    unfold mcell
    simp only [Mem.add_same, ocell]
    have h5 : (ints k l)[i]? = some (.int k x) := by simp [ints, hx]
    rw [← h4, List.getElem?_take] at h5
    split at h5
    · simpa [toArr] using h5
    · cases h5

end
/-! What came in, as a list. -/
theorem list_of {α : Type} {Q : Nat → α → Prop} : ∀ (n : Nat), (∀ i, i < n → ∃ x, Q i x) → ∃ l : List α, l.length = n ∧ ∀ i x, l[i]? = some x → Q i x
  | 0, _ => ⟨[], rfl, by simp⟩
  | n + 1, h => by
    obtain ⟨l, h1, h2⟩ := list_of n fun i hi => h i (by omega)
    obtain ⟨x, hx⟩ := h n (by omega)
    refine ⟨l ++ [x], by simp [h1], fun i y hy => ?_⟩
    rw [List.getElem?_append] at hy
    split at hy
    · exact h2 i y hy
    · have : i = n := by
        have h3 := (List.getElem?_eq_some_iff.1 hy).1
        simp at h3
        omega
      subst this
      simp [h1] at hy
      exact hy ▸ hx

theorem rdf_slice {α : Type} {X : Tab} {m : Mem} {n t e : Nat} {v : Value} {ti te : TI} {R : List Value → α → Prop} (ht : tyO X t = some ti) (hd : ti.d = .slice e) (hte : tyO X e = some te)
    (hR : ∀ cs, cs.length = te.size → Rdf X m n e cs → ∃ x, R cs x) (h : Rdf X m (n + 1) t [v]) :
    ∃ l : List α, Sl m te.size R v l ∧ l.length * te.bytes ≤ reachBytes := by
  unfold Rdf at h
  rw [ht] at h
  simp only [hd, hte] at h
  obtain ⟨A, len, cap, h1, h2, h3, h4, h5⟩ := h
  cases h1
  obtain ⟨l, h6, h7⟩ := list_of (Q := fun i (x : α) => ∃ a cs, A = some a ∧ cs.length = te.size ∧ Cells m (a.add (scale i te.size)) cs ∧ R cs x) len fun i hi => by
    obtain ⟨a, cs, g1, g2, g3, g4⟩ := h5 i hi
    obtain ⟨x, hx⟩ := hR cs g2 g4
    exact ⟨x, a, cs, g1, g2, g3, hx⟩
  exact ⟨l, ⟨A, len, cap, rfl, h6.symm, h2, h3, h7⟩, by rw [h6]; exact h4⟩

theorem rdf_int {X : Tab} {m : Mem} {n t : Nat} {cs : List Value} {ti : TI} {k : IntKind} (ht : tyO X t = some ti) (hd : ti.d = .int k) (h : Rdf X m n t cs) : ∃ z, cs = [.int k z] ∧ k.min ≤ z ∧ z ≤ k.max := by
  cases n with
  | zero => exact h.elim
  | succ n => unfold Rdf at h; rw [ht] at h; simpa only [hd] using h

theorem rdf_bool {X : Tab} {m : Mem} {n t : Nat} {cs : List Value} {ti : TI} (ht : tyO X t = some ti) (hd : ti.d = .bool) (h : Rdf X m n t cs) : ∃ b, cs = [.bool b] := by
  cases n with
  | zero => exact h.elim
  | succ n => unfold Rdf at h; rw [ht] at h; simpa only [hd] using h

theorem rdf_str {X : Tab} {m : Mem} {n t : Nat} {cs : List Value} {ti : TI} (ht : tyO X t = some ti) (hd : ti.d = .str) (h : Rdf X m n t cs) : ∃ s : ByteArray, cs = [.string s] ∧ s.size ≤ reachBytes := by
  cases n with
  | zero => exact h.elim
  | succ n => unfold Rdf at h; rw [ht] at h; simpa only [hd] using h

theorem Sl.all {α : Type} {m : Mem} {size : Nat} {R : List Value → α → Prop} {v : Value} {l : List α} (h : Sl m size R v l) : ∀ x ∈ l, ∃ cs, R cs x := by
  intro x hx
  obtain ⟨i, hi⟩ := List.getElem?_of_mem hx
  obtain ⟨_, _, _, _, _, _, _, h5⟩ := h
  obtain ⟨_, cs, _, _, _, g⟩ := h5 i x hi
  exact ⟨cs, g⟩

/-- A slice of numbers that came in. -/
theorem Given.ints {X : Tab} {m : Mem} {t e : Nat} {v : Value} {ti te : TI} {k : IntKind} (ht : tyO X t = some ti) (hd : ti.d = .slice e) (hte : tyO X e = some te) (hk : te.d = .int k) (h1 : te.size = 1) (h : Given X m t v) :
    ∃ l : List Int, SlI m k v l ∧ l.length * te.bytes ≤ reachBytes ∧ ∀ z ∈ l, k.min ≤ z ∧ z ≤ k.max := by
  obtain ⟨hs, n, hr⟩ := h
  unfold Shp at hs
  rw [ht] at hs
  simp only [hd, TD.isAgg] at hs
  rw [hs] at hr
  cases n with
  | zero => exact hr.elim
  | succ n =>
    obtain ⟨l, h2, h3⟩ := rdf_slice (R := fun cs (z : Int) => cs = [.int k z] ∧ k.min ≤ z ∧ z ≤ k.max) ht hd hte (fun cs _ h => rdf_int hte hk h) hr
    rw [h1] at h2
    refine ⟨l, h2.le (Mem.Le.refl m) fun cs x _ hx => hx.1, h3, fun z hz => ?_⟩
    obtain ⟨cs, _, h⟩ := h2.all z hz
    exact h

/-- A number that came in. -/
theorem Given.int {X : Tab} {m : Mem} {t : Nat} {v : Value} {ti : TI} {k : IntKind} (ht : tyO X t = some ti) (hd : ti.d = .int k) (h : Given X m t v) : ∃ z, v = .int k z ∧ k.min ≤ z ∧ z ≤ k.max := by
  obtain ⟨hs, n, hr⟩ := h
  unfold Shp at hs
  rw [ht] at hs
  simp only [hd, TD.isAgg] at hs
  rw [hs] at hr
  obtain ⟨z, h1, h2⟩ := rdf_int ht hd hr
  cases h1
  exact ⟨z, rfl, h2⟩
theorem Given.bool {X : Tab} {m : Mem} {t : Nat} {v : Value} {ti : TI} (ht : tyO X t = some ti) (hd : ti.d = .bool) (h : Given X m t v) : ∃ b, v = .bool b := by
  obtain ⟨hs, n, hr⟩ := h
  unfold Shp at hs
  rw [ht] at hs
  simp only [hd, TD.isAgg] at hs
  rw [hs] at hr
  obtain ⟨z, h1⟩ := rdf_bool ht hd hr
  cases h1
  exact ⟨z, rfl⟩
theorem Given.str {X : Tab} {m : Mem} {t : Nat} {v : Value} {ti : TI} (ht : tyO X t = some ti) (hd : ti.d = .str) (h : Given X m t v) : ∃ s : ByteArray, v = .string s ∧ s.size ≤ reachBytes := by
  obtain ⟨hs, n, hr⟩ := h
  unfold Shp at hs
  rw [ht] at hs
  simp only [hd, TD.isAgg] at hs
  rw [hs] at hr
  obtain ⟨z, h1, h2⟩ := rdf_str ht hd hr
  cases h1
  exact ⟨z, rfl, h2⟩
theorem reach_val : reachBytes = 140737488351232 := rfl
end Go.Ev
