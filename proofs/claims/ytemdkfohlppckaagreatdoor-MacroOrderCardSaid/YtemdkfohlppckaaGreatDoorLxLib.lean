/- The library's functions that a scanner of texts calls. Conditions: the laid variables are what they are. -/
import Derived.Test.YtemdkfohlppckaaGreatDoorEv
import Derived.Test.YtemdkfohlppckaaGreatDoorTab
import Derived.Test.YtemdkfohlppckaaGreatDoorLxShelf
import Derived.Lib.LaidTab

namespace Go.Proofs.YtemdkfohlppckaaGreatDoor.lx
open Go Go.Ev Go.Proofs

/-- What a library's contract says of the world, as a contract of mine. -/
theorem fn_of_below {P : Program} {f : Nat} {args : List Value} {m : Mem} {Q : Value → Prop} (h : ∀ w, Pre m [] w → Calls P f (toArr args) w fun e w' => ∃ v, e = .returned v ∧ Q v ∧ Go.RowKit.Below w.heap.size w w') : Fn0 P f args m fun _ v => Q v := by
  intro w hw
  refine (h w hw).mono ?_
  rintro e w' ⟨v, rfl, hq, hb⟩
  refine ⟨v, m, [], rfl, ⟨hb.os, hb.tape, hb.output, hb.size, fun k hk _ => hb.block k hk, fun b o ho => ?_, fun _ _ _ => by simp [keys], fun x hx => by simp at hx, by simp [keys], fun b hb => by simp [keys] at hb, Mem.Le.refl m, fun b o hb => .inl hb⟩, rfl, hq⟩
  have := hw.sub b o ho
  rw [hb.block b (heap_lt this)]; exact this
theorem fn_of_same {P : Program} {f : Nat} {args : List Value} {m : Mem} {v : Value} (h : ∀ w, Calls P f (toArr args) w fun e w' => e = .returned v ∧ w' = w) : FnV P f args m v :=
  fn_of_below fun w _ => (h w).mono fun e w' ⟨h1, h2⟩ => ⟨v, h1, rfl, by subst h2; exact Go.RowKit.Below.refl _ _⟩

theorem indexByte_fn (m : Mem) (s : List UInt8) (c : UInt8) : FnV Tryz.prog 39 [.string (bs s), .int .u8 c.toNat] m (.int .i64 (Lib.indexByte s c)) := by
  refine fn_of_same fun w => (Tryz.strings_IndexByte (bs s) c.toNat w).mono fun e w' h => ?_
  have h2 : (bs s).data.toList = s := rfl
  rw [h2, show (Int.toNat (c.toNat : Int)).toUInt8 = c by simp] at h
  exact h
theorem prefix_fn (m : Mem) (s p : List UInt8) : FnV Tryz.prog 89 [.string (bs s), .string (bs p)] m (.bool (p.isPrefixOf s)) :=
  fn_of_same fun w => Tryz.strings_HasPrefix (bs s) (bs p) w
theorem index1_fn (m : Mem) (s : List UInt8) (c : UInt8) : FnV Tryz.prog 95 [.string (bs s), .string (bs [c])] m (.int .i64 (Lib.indexByte s c)) :=
  fn_of_same fun w => Tryz.stringslite_Index_one (bs s) c w

/-- What stands ahead of the first one. -/
def tw (c : UInt8) (s : List UInt8) : List UInt8 := s.takeWhile fun b => !(b == c)
theorem tw_le (c : UInt8) (s : List UInt8) : (tw c s).length ≤ s.length := by
  unfold tw
  induction s with
  | nil => simp
  | cons b l ih => rw [List.takeWhile_cons]; split <;> simp; omega
theorem ix_tw (c : UInt8) (s : List UInt8) : Lib.indexByte s c = if c ∈ s then ((tw c s).length : Int) else -1 := by
  unfold tw
  induction s with
  | nil => simp [Lib.indexByte]
  | cons b l ih =>
    simp only [Lib.indexByte, List.takeWhile_cons, List.mem_cons]
    by_cases hb : b = c
    · subst hb; simp
    · have h1 : (b == c) = false := by simp [hb]
      have h2 : ¬ c = b := fun e => hb e.symm
      rw [h1, ih]
      simp only [Bool.false_eq_true, if_false, h2, false_or, Bool.not_false, if_true, List.length_cons]
      by_cases hm : c ∈ l
      · rw [if_pos hm, if_pos hm]
        split <;> rename_i h
        · have := eq_of_beq h; omega
        · omega
      · rw [if_neg hm, if_neg hm]; simp
theorem tw_lt {c : UInt8} {s : List UInt8} (h : c ∈ s) : (tw c s).length < s.length := by
  unfold tw
  induction s with
  | nil => simp at h
  | cons b l ih =>
    rw [List.takeWhile_cons]
    by_cases hb : b = c
    · subst hb; simp
    · have h1 : (b == c) = false := by simp [hb]
      have : c ∈ l := by rcases List.mem_cons.1 h with e | e; exact absurd e.symm hb; exact e
      rw [h1]; simp; exact ih this
theorem tw_all {c : UInt8} {s : List UInt8} (h : c ∉ s) : tw c s = s := by
  unfold tw
  induction s with
  | nil => rfl
  | cons b l ih =>
    have h1 : (b == c) = false := by simp; exact fun e => h (by simp [e])
    rw [List.takeWhile_cons, h1]; simp; exact ih fun e => h (by simp [e])
theorem tw_take (c : UInt8) (s : List UInt8) : s.take (tw c s).length = tw c s := by
  unfold tw
  induction s with
  | nil => rfl
  | cons b l ih => rw [List.takeWhile_cons]; split <;> simp [ih]

theorem cut0_fn (m : Mem) (s : List UInt8) (c : UInt8) (hl : s.length ≤ 1000000) : FnV Tryz.prog 90 [.string (bs s), .string (bs [c])] m (.tuple (toArr [.string (bs (tw c s)), .string (bs (s.drop ((tw c s).length + 1))), .bool (decide (c ∈ s))])) := by
  have h1 := ix_tw c s
  have hsz := bs_size s
  have hz1 : (bs [c]).size = 1 := bs_size [c]
  have hle := tw_le c s
  refine Fn.enter (N := 23) hX Tryz.func90 rfl rfl (by show _ ≤ _; simp) (fun w0 hL => ?_)
  conv => whnf
  conv => whnf
  repeat ((first | refine zT ?_ | refine zF ?_ | refine zL hX hL ?_ | refine zB hX hL ?_ | (refine zS hX hL ?_; clear hL; intro w hL) | refine zI ?_ | refine zG hX ?_ | refine zO ?_); conv => whnf)
  refine CallReq.val (index1_fn m s c) hL ?_
  clear hL
  intro w hL
  rw [h1]
  by_cases hm : c ∈ s
  · have hlt := tw_lt hm
    rw [if_pos hm]
    conv => whnf
    repeat ((first | refine BrReq.yes (by omega) ?_ | refine zT ?_ | refine zF ?_ | refine zL hX hL ?_ | refine zB hX hL ?_ | (refine zS hX hL ?_; clear hL; intro w hL) | refine zI ?_ | refine zG hX ?_ | refine zO ?_); conv => whnf)
    refine DrawReq.plan hX (.fst 0 (.fst 1 (.fst 2 (.fst 3 (.fst 4 (.fst 5 (.fst 6 (.fst 7 (.fst 8 (.fst 9 (.fst 10 (.fst 11 (.done))))))))))))) [] (by kernel_rfl) (by kernel_rfl) hL id ?_
    clear hL
    intro w hL
    conv => whnf
    repeat ((first | refine SlReq.mk 0 (tw c s).length rfl rfl (by omega) (by omega) ?_ | (refine SlReq.mk ((tw c s).length + 1) s.length (by rw [hz1]; rfl) (by rw [hsz]) (by omega) (by omega) ?_) | refine zQ hX ?_ | refine zR hX ?_ | refine zA ?_ | refine zT ?_ | refine zF ?_ | refine zL hX hL ?_ | refine zB hX hL ?_ | (refine zS hX hL ?_; clear hL; intro w hL) | refine zI ?_ | refine zG hX ?_ | refine zO ?_); conv => whnf)
    refine RetReq.mk hL ⟨rfl, ?_⟩
    rw [decide_eq_true hm]
    have e1 : (bs s).extract 0 (tw c s).length = bs (tw c s) := by rw [bs_extract, tw_take]; rfl
    have e2 : (bs s).extract ((tw c s).length + 1) s.length = bs (s.drop ((tw c s).length + 1)) := by rw [bs_extract, List.take_length]
    rw [← e1, ← e2]; rfl
  · rw [if_neg hm]
    conv => whnf
    repeat ((first | refine zT ?_ | refine zF ?_ | refine zL hX hL ?_ | refine zB hX hL ?_ | (refine zS hX hL ?_; clear hL; intro w hL) | refine zI ?_ | refine zG hX ?_ | refine zO ?_); conv => whnf)
    refine RetReq.mk hL ⟨rfl, ?_⟩
    rw [decide_eq_false hm, tw_all hm, List.drop_eq_nil_of_le (by omega)]; rfl
theorem cut_fn (m : Mem) (s : List UInt8) (c : UInt8) (hl : s.length ≤ 1000000) : FnV Tryz.prog 84 [.string (bs s), .string (bs [c])] m (.tuple (toArr [.string (bs (tw c s)), .string (bs (s.drop ((tw c s).length + 1))), .bool (decide (c ∈ s))])) := by
  refine Fn.enter (N := 13) hX Tryz.func84 rfl rfl (by show _ ≤ _; simp) (fun w0 hL => ?_)
  conv => whnf
  conv => whnf
  repeat ((first | refine zT ?_ | refine zF ?_ | refine zL hX hL ?_ | refine zB hX hL ?_ | (refine zS hX hL ?_; clear hL; intro w hL) | refine zI ?_ | refine zG hX ?_ | refine zO ?_); conv => whnf)
  refine CallReq.val (cut0_fn m s c hl) hL ?_
  clear hL
  intro w hL
  conv => whnf
  repeat ((first | refine zT ?_ | refine zF ?_ | refine zL hX hL ?_ | refine zB hX hL ?_ | (refine zS hX hL ?_; clear hL; intro w hL) | refine zI ?_ | refine zG hX ?_ | refine zO ?_); conv => whnf)
  exact RetReq.mk hL ⟨rfl, rfl⟩

/-- The library's table of powers, as the program's text lays it; its two errors. -/
def TabMem (m : Mem) : Prop := ∃ g t f, Tryz.prog.globalNamed "internal/strconv.uint64pow10" = some g ∧ m g = some (.cells (Lib.pow10Tab.map fun z => Value.int .u64 z).toArray t f)
def ErrMem (m : Mem) (g : Nat) : Prop := ∃ te p, mcell m ⟨g, 0, none⟩ = some (.iface te p)
structure LibMem (m : Mem) : Prop where
  tab : TabMem m
  e1 : ErrMem m 1
  e2 : ErrMem m 2
theorem TabMem.le {m m' : Mem} (h : Mem.Le m m') (k : TabMem m) : TabMem m' := by
  obtain ⟨g, t, f, h1, h2⟩ := k
  exact ⟨g, t, f, h1, h _ _ h2⟩
theorem itoa_fn (m : Mem) (hQ : TabMem m) (n : Int) (h0 : -9223372036854775808 ≤ n) (h1 : n ≤ 9223372036854775807) : FnV Tryz.prog 97 [.int .i64 n] m (.string (bs (Lib.itoa n))) := by
  refine fn_of_below fun w hw => ?_
  obtain ⟨g, t, f, hg, hm⟩ := hQ
  have htab : Lib.TabIs Tryz.prog w "internal/strconv.uint64pow10" .u64 Lib.pow10Tab := by
    unfold Lib.TabIs World.var?
    rw [hg]
    simp only [Option.bind_some]
    rw [hw.sub g _ hm]
  refine (Tryz.strconv_Itoa n h0 h1 w htab).mono ?_
  rintro e w' ⟨rfl, k, os, rfl⟩
  refine ⟨_, rfl, rfl, rfl, rfl, rfl, ?_, fun b hb => ?_⟩
  · show w.heap.size ≤ (w.heap ++ os).size
    simp
  · show (w.heap ++ os)[b]? = _
    rw [Array.getElem?_append_left hb]
/-- How Atoi ends. -/
def AtoiOut (s : List UInt8) (v : Value) : Prop := (∃ z : Int, Lib.atoiAll s = .ok z ∧ v = .tuple (toArr [.int .i64 z, .nilIface])) ∨ ((∀ z, Lib.atoiAll s ≠ .ok z) ∧ ∃ z p, v = .tuple (toArr [.int .i64 z, .iface 140 (.pointer (some p))]))
theorem atoi_fn (m : Mem) (hQ : LibMem m) (s : List UInt8) (hl : s.length ≤ 1000000) : Fn0 Tryz.prog 96 [.string (bs s)] m fun _ v => AtoiOut s v := by
  have hsz := bs_size s
  have hd : (bs s).data.toList = s := rfl
  refine fn_of_below fun w hw => ?_
  have hcell : ∀ g te p, mcell m ⟨g, 0, none⟩ = some (.iface te p) → w.cell? ⟨g, 0, none⟩ = some (.iface te p) := fun g te p h => by
    exact hw.loc.cell h
  rcases h : Lib.atoiAll s with z | _ | _
  · refine (Tryz.strconv_Atoi_ok (bs s) (by omega) z (by rw [hd]; exact h) w).mono ?_
    rintro e w' ⟨rfl, hw'⟩
    refine ⟨_, rfl, .inl ⟨z, h, rfl⟩, ?_⟩
    rcases hw' with rfl | ⟨t, rfl⟩
    · exact Go.RowKit.Below.refl _ _
    · exact Lib.bytesWorld_below _ _ _
  · obtain ⟨te, p, hc⟩ := hQ.e1
    refine (Tryz.strconv_Atoi_syntax (bs s) (by omega) (by rw [hd]; exact h) _ w (hcell _ _ _ hc) (.inr ⟨_, _, rfl⟩)).mono ?_
    rintro e w' ⟨N, rfl, -, -, hb⟩
    exact ⟨_, rfl, .inr ⟨fun z => by rw [h]; simp, _, _, rfl⟩, hb⟩
  · obtain ⟨te, p, hc⟩ := hQ.e2
    refine (Tryz.strconv_Atoi_range (bs s) (by omega) (by rw [hd]; exact h) _ w (hcell _ _ _ hc) (.inr ⟨_, _, rfl⟩)).mono ?_
    rintro e w' ⟨N, rfl, -, -, hb⟩
    exact ⟨_, rfl, .inr ⟨fun z => by rw [h]; simp, _, _, rfl⟩, hb⟩
end Go.Proofs.YtemdkfohlppckaaGreatDoor.lx
