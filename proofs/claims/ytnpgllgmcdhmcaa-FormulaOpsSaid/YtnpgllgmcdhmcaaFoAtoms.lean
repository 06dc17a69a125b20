/- Formulas: the document's Atoms, and whether formulas are few, walked. Conditions: none. -/
import Derived.Test.YtnpgllgmcdhmcaaFoConcat
import Derived.Test.YtnpgllgmcdhmcaaFoRef
import Derived.Test.YtnpgllgmcdhmcaaFoMake

namespace Go.Proofs.Ytnpgllgmcdhmcaa.fo
open Go Go.Ev Go.Proofs

theorem alt2 {A B : Prop} (a : A) (b : B) : AltReq A B := ⟨⟨a, b⟩⟩
theorem bnd {a x k M : Nat} (h : a ≤ x + k) (hk : k ≤ M) : a ≤ x + M := Nat.le_trans h (Nat.add_le_add_left hk _)
theorem bnd2 {a i j k : Nat} (h : a ≤ i * 1000000 + j * 1000 + k) (hk : k ≤ 1000) : a ≤ i * 1000000 + (j + 1) * 1000 := by rw [Nat.succ_mul, ← Nat.add_assoc]; exact bnd h hk
theorem bnd1 {a i j : Nat} (h : a ≤ i * 1000000 + j * 1000) (hj : j ≤ 1000) : a ≤ (i + 1) * 1000000 := by rw [Nat.succ_mul]; exact bnd h (Nat.le_trans (Nat.mul_le_mul_right 1000 hj) (by decide))
set_option maxHeartbeats 4000000 in
set_option maxRecDepth 20000 in
theorem atoms_fn (m : Mem) (v : Value) (fs : List (List (List Int))) (hv : FsV m v fs) (h0 : fs.length ≤ 10) (h1 : ∀ f ∈ fs, f.length ≤ 1000 ∧ ∀ p ∈ f, p.length ≤ 1000) :
    Fn0 Try.prog 14 [v] m fun m' u => ∃ l, SlI m' .i64 u l ∧ AtP l fs.flatten.flatten := by
  have hmx : maxLen = 9223372036854775807 := rfl
  have hv' := hv
  obtain ⟨A, n, c, rfl, hn, hc, hm, -⟩ := hv
  refine Fn.enter (N := 76) hX Try.func14 rfl rfl (by show _ ≤ _; simp) (fun w0 hL => ?_)
  conv => whnf
  conv => whnf
  repeat ((first | refine zT ?_ | refine zF ?_ | refine zL hX hL ?_ | refine zB hX hL ?_ | (refine zS hX hL ?_; clear hL; intro w hL) | refine zI ?_ | refine zG hX ?_ | refine zO ?_); conv => whnf)
  refine LoopReq.inv hX (fun s : Nat × Option Addr × Nat × Nat => [(3, .slice s.2.1 s.2.2.1 s.2.2.2), (11, .int .i64 s.1)]) [0, 10]
    (fun s w => s.1 ≤ n ∧ ∃ mm l, Mem.Le m mm ∧ SlI mm .i64 (.slice s.2.1 s.2.2.1 s.2.2.2) l ∧ AtP l (fs.take s.1).flatten.flatten ∧ l.length ≤ s.1 * 1000000 ∧ Ev.Loc m [] w0 mm [] w) (fun s => n - s.1) (0, none, 0, 0)
    ⟨by omega, m, [], Mem.Le.refl _, Sl.nil _ _ _, by simpa using AtP.start, by simp, hL⟩ ⟨rfl, rfl, trivial⟩ ?_
  clear hL
  rintro ⟨i, Ao, no, co⟩ w f ⟨hi, mm, l, hle, hl, hN, hll, hL⟩
  simp only at hi hl hll hN
  conv => whnf
  repeat ((first | refine zT ?_ | refine zF ?_ | refine zL hX hL ?_ | refine zB hX hL ?_ | (refine zS hX hL ?_; clear hL; intro w hL) | refine zI ?_ | refine zG hX ?_ | refine zO ?_); conv => whnf)
  refine BrReq.dec (fun hlt => ?_) (fun hlt => ?_)
  · have hi1 : i < fs.length := by simp only at hlt; omega
    obtain ⟨a1, A1, n1, c1, rfl, hx1, hf1⟩ := fsAt hv' hi1
    have hf1' := hf1
    obtain ⟨_, _, _, e, hn1, hc1, hm1, -⟩ := hf1
    injection e with e1 e2 e3
    subst e1 e2 e3
    have hsz := h1 _ (List.getElem_mem hi1)
    have hfst : fs.take (i + 1) = fs.take i ++ [fs[i]] := take_succ' hi1
    generalize fs[i] = ff at hf1' hsz hn1 hfst
    conv => whnf
    repeat ((first | refine Idx2Req.mk i a1 rfl (by omega) rfl ?_ | refine LdReq.one hX rfl rfl hL (mcell_le hle hx1) ?_ | refine zT ?_ | refine zF ?_ | refine zL hX hL ?_ | refine zB hX hL ?_ | (refine zS hX hL ?_; clear hL; intro w hL) | refine zI ?_ | refine zG hX ?_ | refine zO ?_); conv => whnf)
    refine LoopReq.inv hX (fun s : Nat × Option Addr × Nat × Nat => [(3, .slice s.2.1 s.2.2.1 s.2.2.2), (19, .int .i64 s.1)]) [0, 4, 10, 11, 18]
      (fun s w => s.1 ≤ n1 ∧ ∃ mm l, Mem.Le m mm ∧ SlI mm .i64 (.slice s.2.1 s.2.2.1 s.2.2.2) l ∧ AtP l ((fs.take i).flatten.flatten ++ (ff.take s.1).flatten) ∧ l.length ≤ i * 1000000 + s.1 * 1000 ∧ Ev.Loc m [] w0 mm [] w) (fun s => n1 - s.1) (0, Ao, no, co)
      ⟨by simp, mm, l, hle, hl, by simpa using hN, by simpa using hll, hL⟩ ⟨rfl, rfl, trivial⟩ ?_
    clear hL hl hll hle hN mm l
    rintro ⟨j, Ao, no, co⟩ w f ⟨hj, mm, l, hle, hl, hN, hll, hL⟩
    simp only at hj hl hll hN
    conv => whnf
    repeat ((first | refine zT ?_ | refine zF ?_ | refine zL hX hL ?_ | refine zB hX hL ?_ | (refine zS hX hL ?_; clear hL; intro w hL) | refine zI ?_ | refine zG hX ?_ | refine zO ?_); conv => whnf)
    refine BrReq.dec (fun hlt2 => ?_) (fun hlt2 => ?_)
    · have hj1 : j < ff.length := by simp only at hlt2; omega
      obtain ⟨a2, A2, n2, c2, rfl, hx2, hf2⟩ := hf1'.at_ hj1
      have hpl := hsz.2 _ (List.getElem_mem hj1)
      have hpn := hf2.len
      have he2 := hf2.cell.2
      have hpst : ff.take (j + 1) = ff.take j ++ [ff[j]] := take_succ' hj1
      generalize ff[j] = p at hf2 hpl hpn he2 hpst
      conv => whnf
      repeat ((first | refine Idx2Req.mk i a1 rfl (by omega) rfl ?_ | refine LdReq.one hX rfl rfl hL (mcell_le hle hx1) ?_ | refine Idx2Req.mk j a2 rfl (by omega) rfl ?_ | refine LdReq.one hX rfl rfl hL (mcell_le hle hx2) ?_ | refine zT ?_ | refine zF ?_ | refine zL hX hL ?_ | refine zB hX hL ?_ | (refine zS hX hL ?_; clear hL; intro w hL) | refine zI ?_ | refine zG hX ?_ | refine zO ?_); conv => whnf)
      refine LoopReq.inv hX (fun s : Nat × Option Addr × Nat × Nat => [(3, .slice s.2.1 s.2.2.1 s.2.2.2), (30, .int .i64 s.1)]) [0, 4, 5, 10, 11, 18, 19, 29]
        (fun s w => s.1 ≤ n2 ∧ ∃ mm l, Mem.Le m mm ∧ SlI mm .i64 (.slice s.2.1 s.2.2.1 s.2.2.2) l ∧ AtP l ((fs.take i).flatten.flatten ++ (ff.take j).flatten ++ p.take s.1) ∧ l.length ≤ i * 1000000 + j * 1000 + s.1 ∧ Ev.Loc m [] w0 mm [] w) (fun s => n2 - s.1) (0, Ao, no, co)
        ⟨by simp, mm, l, hle, hl, by simpa using hN, by simpa using hll, hL⟩ ⟨rfl, rfl, trivial⟩ ?_
      clear hL hl hll hle hN mm l
      rintro ⟨k, Ao, no, co⟩ w f ⟨hk, mm, l, hle, hl, hN, hll, hL⟩
      simp only at hk hl hll hN
      conv => whnf
      repeat ((first | refine zT ?_ | refine zF ?_ | refine zL hX hL ?_ | refine zB hX hL ?_ | (refine zS hX hL ?_; clear hL; intro w hL) | refine zI ?_ | refine zG hX ?_ | refine zO ?_); conv => whnf)
      refine BrReq.dec (fun hlt3 => ?_) (fun hlt3 => ?_)
      · have hk1 : k < p.length := by simp only at hlt3; omega
        obtain ⟨a3, rfl, hx3⟩ := he2 k _ (List.getElem?_eq_getElem hk1)
        conv => whnf
        repeat ((first | refine Idx2Req.mk i a1 rfl (by omega) rfl ?_ | refine LdReq.one hX rfl rfl hL (mcell_le hle hx1) ?_ | refine Idx2Req.mk j a2 rfl (by omega) rfl ?_ | refine LdReq.one hX rfl rfl hL (mcell_le hle hx2) ?_ | (refine Idx2Req.mk k a3 rfl (by simp only at hlt3; omega) rfl ?_) | (refine LdReq.one hX rfl rfl hL (by rw [scale_eq, Nat.mul_one]; exact mcell_le hle hx3) ?_) | refine zT ?_ | refine zF ?_ | refine zL hX hL ?_ | refine zB hX hL ?_ | (refine zS hX hL ?_; clear hL; intro w hL) | refine zI ?_ | refine zG hX ?_ | refine zO ?_); conv => whnf)
        refine CallReq.val (has_fn mm _ _ _ hl) hL ?_
        clear hL
        intro w hL
        conv => whnf
        repeat ((first | refine zT ?_ | refine zF ?_ | refine zL hX hL ?_ | refine zB hX hL ?_ | (refine zS hX hL ?_; clear hL; intro w hL) | refine zI ?_ | refine zG hX ?_ | refine zO ?_); conv => whnf)
        refine BrReq.dec (fun hin => ?_) (fun hin => ?_)
        · have hN' : AtP l ((fs.take i).flatten.flatten ++ (ff.take j).flatten ++ p.take (k + 1)) := by
            rw [take_succ' hk1, ← List.append_assoc]; exact hN.skip hin
          conv => whnf
          repeat ((first | refine zT ?_ | refine zF ?_ | refine zL hX hL ?_ | refine zB hX hL ?_ | (refine zS hX hL ?_; clear hL; intro w hL) | refine zI ?_ | refine zG hX ?_ | refine zO ?_); conv => whnf)
          refine ⟨(k + 1, Ao, no, co), ⟨by simp only at hlt3 ⊢; omega, mm, l, hle, hl, hN', by simp only; omega, hL⟩, by first | omega | (simp only; omega) | (simp only [List.length_cons, List.length_append]; omega), ?_, ?_⟩
          · repeat (first | exact trivial | (refine And.intro (by (conv => lhs; whnf) <;> (conv => rhs; whnf) <;> (first | rfl)) ?_))
          · repeat (first | exact trivial | (refine And.intro (by (conv => lhs; whnf) <;> (conv => rhs; whnf) <;> (first | rfl)) ?_))
        · conv => whnf
          repeat ((first | refine zT ?_ | refine zF ?_ | refine zL hX hL ?_ | refine zB hX hL ?_ | (refine zS hX hL ?_; clear hL; intro w hL) | refine zI ?_ | refine zG hX ?_ | refine zO ?_); conv => whnf)
          have hln := hl.len
          refine LoopReq.inv hX (fun q : Nat => [(8, .int .i64 q)]) [0, 3, 4, 5, 7, 10, 11, 18, 19, 29, 30]
            (fun q w => (q ≤ no ∧ ∀ z ∈ l.take q, z < p[k]) ∧ Ev.Loc m [] w0 mm [] w) (fun q => no - q) 0 ⟨⟨by omega, by simp⟩, hL⟩ ⟨rfl, trivial⟩ ?_
          clear hL
          rintro q w f ⟨⟨hq, hqa⟩, hL⟩
          conv => whnf
          repeat ((first | refine zT ?_ | refine zF ?_ | refine zL hX hL ?_ | refine zB hX hL ?_ | (refine zS hX hL ?_; clear hL; intro w hL) | refine zI ?_ | refine zG hX ?_ | refine zO ?_); conv => whnf)
          have hs1 : SlI mm .i64 _ _ := hl.sub (lo := 0) (hi := q) (by omega) (by omega)
          have hs2 : SlI mm .i64 _ _ := hl.sub (lo := q) (hi := no) (by omega) (Nat.le_refl _)
          rw [List.drop_zero] at hs1
          have hb1 : (ints .i64 (l.take q)).length + (ints .i64 ((l.take no).drop q)).length ≤ l.length := by simp only [ints, List.length_map, List.length_take, List.length_drop]; omega
          have hb2 : l.length ≤ 100000000 := by omega
          have hb3 : (ints .i64 (l.take q)).length ≤ l.length := by omega
          refine BrReq.dec (fun hq1 => ?_) (fun hq1 => ?_)
          · have hql : q < l.length := by simp only at hq1; omega
            obtain ⟨a4, ea4, hx4⟩ := hl.cell.2 q _ (List.getElem?_eq_getElem hql)
            conv => whnf
            repeat ((first | (refine Idx2Req.mk q a4 rfl (by simp only at hq1 ⊢; omega) ea4 ?_) | (refine LdReq.one hX rfl rfl hL (by rw [scale_eq, Nat.mul_one]; exact hx4) ?_) | refine zT ?_ | refine zF ?_ | refine zL hX hL ?_ | refine zB hX hL ?_ | (refine zS hX hL ?_; clear hL; intro w hL) | refine zI ?_ | refine zG hX ?_ | refine zO ?_); conv => whnf)
            refine BrReq.dec (fun hq2 => ?_) (fun hq2 => ?_)
            · have hqa' : ∀ z ∈ l.take (q + 1), z < p[k] := fun z hz => by
                rw [take_succ' hql] at hz
                rcases List.mem_append.1 hz with hz | hz
                · exact hqa z hz
                · rw [List.mem_singleton.1 hz]; exact hq2
              conv => whnf
              repeat ((first | refine zT ?_ | refine zF ?_ | refine zL hX hL ?_ | refine zB hX hL ?_ | (refine zS hX hL ?_; clear hL; intro w hL) | refine zI ?_ | refine zG hX ?_ | refine zO ?_); conv => whnf)
              refine ⟨q + 1, ⟨⟨by simp only at hq1; omega, hqa'⟩, hL⟩, by first | omega | (simp only; omega) | (simp only [List.length_cons, List.length_append]; omega), ?_, ?_⟩
              · repeat (first | exact trivial | (refine And.intro (by (conv => lhs; whnf) <;> (conv => rhs; whnf) <;> (first | rfl)) ?_))
              · repeat (first | exact trivial | (refine And.intro (by (conv => lhs; whnf) <;> (conv => rhs; whnf) <;> (first | rfl)) ?_))
            · have hqe : q = l.length ∨ ∃ h : q < l.length, ¬ l[q] < p[k] := .inr ⟨hql, hq2⟩
              conv => whnf
              repeat ((first | refine zT ?_ | refine zF ?_ | refine zL hX hL ?_ | refine zB hX hL ?_ | (refine zS hX hL ?_; clear hL; intro w hL) | refine zI ?_ | refine zG hX ?_ | refine zO ?_); conv => whnf)
              refine DrawReq.plan hX (.fst 1 (.fst 2 (.fst 3 (.fst 5 (.fst 8 (.fst 9 (.fst 10 (.alt 0 (.alt 4 (.alt 6 (.alt 7 (.alt 11 (.fst 12 (.done)) (.stop)) (.stop)) (.stop)) (.alt 6 (.alt 4 (.alt 7 (.alt 11 (.fst 12 (.done)) (.stop)) (.stop)) (.stop)) (.stop))) (.alt 6 (.alt 0 (.alt 4 (.alt 7 (.alt 11 (.fst 12 (.done)) (.stop)) (.stop)) (.stop)) (.stop)) (.stop)))))))))) [] (by kernel_rfl) (by kernel_rfl) hL (fun h => h.sublist (List.nil_sublist _)) ?_
              clear hL
              intro w hL
              conv => whnf
              repeat ((first | (refine SlReq.mk 0 q rfl rfl (by omega) (by simp only; omega) ?_) | (refine SlReq.mk q no rfl rfl (by omega) (by simp only; omega) ?_) | refine zQ hX ?_ | refine zR hX ?_ | refine zA ?_ | refine zT ?_ | refine zF ?_ | refine zL hX hL ?_ | refine zB hX hL ?_ | (refine zS hX hL ?_; clear hL; intro w hL) | refine zI ?_ | refine zG hX ?_ | refine zO ?_); conv => whnf)
              refine alt2 ?_ ?_
              · conv => whnf
                refine NewReq.mk hL ?_
                clear hL
                intro b60 w hL
                conv => whnf
                refine SReq.mk (hL.sublist (List.nil_sublist _)) ?_
                conv => whnf
                refine alt2 ?_ ?_
                · conv => whnf
                  refine RunReq.append hX 34 3 rfl rfl rfl rfl rfl (L1 := [_]) (L2 := []) (OwnS.full (n := 0) (cur := []) (Nat.zero_le _) rfl) hL (hs1.src hL).1 (hs1.src hL).2 (ints_one _ _) (by rw [List.length_nil]; exact Nat.le_trans (Nat.le_trans (Nat.zero_add _ ▸ hb3) hb2) (by decide)) rfl ?_
                  clear hL
                  intro A1 n1 c1 L1 w hn1 ho1 hL
                  rw [List.nil_append] at ho1
                  conv => whnf
                  refine SReq.mk (hL.sublist (List.nil_sublist _)) ?_
                  conv => whnf
                  refine AltReq.one ?_
                  conv => whnf
                  refine NewReq.mk hL ?_
                  clear hL
                  intro b66 w hL
                  conv => whnf
                  refine SReq.mk (hL.sublist (List.nil_sublist _)) ?_
                  conv => whnf
                  refine AltReq.one ?_
                  conv => whnf
                  refine RunReq.push hX 34 3 rfl rfl rfl rfl rfl (L2 := []) ho1 hL rfl rfl (by show _ + 1 ≤ _; omega) rfl ?_
                  clear hL
                  intro A1 n1 c1 L1 w hn1 ho1 hL
                  conv => whnf
                  refine SReq.mk (hL.sublist (List.nil_sublist _)) ?_
                  conv => whnf
                  refine AltReq.one ?_
                  conv => whnf
                  refine RunReq.append hX 34 3 rfl rfl rfl rfl rfl (L2 := []) ho1 hL (hs2.src hL).1 (hs2.src hL).2 (ints_one _ _) (by rw [List.length_append]; show _ + 1 + _ ≤ _; omega) rfl ?_
                  clear hL ho1
                  intro A1 n1 c1 L1 w hn1 ho1 hL
                  conv => whnf
                  refine SReq.mk (hL.sublist (List.nil_sublist _)) ?_
                  conv => whnf
                  repeat ((first | refine zQ hX ?_ | refine zR hX ?_ | refine zA ?_ | refine zT ?_ | refine zF ?_ | refine zL hX hL ?_ | refine zB hX hL ?_ | (refine zS hX hL ?_; clear hL; intro w hL) | refine zI ?_ | refine zG hX ?_ | refine zO ?_); conv => whnf)
                  obtain ⟨m5, hL5, hle5, hs5⟩ := OwnS.freeze (k := .i64) (l := l.take q ++ [p[k]] ++ (l.take no).drop q) (by rw [ints_append, ints_append]; exact ho1) hL
                  have hl5 : (l.take q ++ [p[k]] ++ (l.take no).drop q).length ≤ l.length + 1 := by simp only [List.length_append, List.length_take, List.length_drop, List.length_singleton]; omega
                  have hN' : AtP (l.take q ++ [p[k]] ++ (l.take no).drop q) ((fs.take i).flatten.flatten ++ (ff.take j).flatten ++ p.take (k + 1)) := by
                    rw [take_succ' hk1, ← List.append_assoc, List.take_of_length_le (show l.length ≤ no by omega)]
                    exact hN.ins hin hqa hqe
                  refine ⟨(k + 1, A1, n1, c1), ⟨by simp only at hlt3 ⊢; omega, m5, _, hle.trans hle5, hs5, hN', by simp only; omega, hL5⟩, by first | omega | (simp only; omega) | (simp only [List.length_cons, List.length_append]; omega), ?_, ?_⟩
                  · repeat (first | exact trivial | (refine And.intro (by (conv => lhs; whnf) <;> (conv => rhs; whnf) <;> (first | rfl)) ?_))
                  · repeat (first | exact trivial | (refine And.intro (by (conv => lhs; whnf) <;> (conv => rhs; whnf) <;> (first | rfl)) ?_))
                · conv => whnf
                  refine AltReq.one ?_
                  conv => whnf
                  refine NewReq.mk hL ?_
                  clear hL
                  intro b66 w hL
                  conv => whnf
                  refine SReq.mk (hL.sublist (List.nil_sublist _)) ?_
                  conv => whnf
                  refine AltReq.one ?_
                  conv => whnf
                  replace hL := hL.perm (List.Perm.swap _ _ _)
                  refine RunReq.append hX 34 3 rfl rfl rfl rfl rfl (L1 := [_]) (L2 := [_]) (OwnS.full (n := 0) (cur := []) (Nat.zero_le _) rfl) hL (hs1.src hL).1 (hs1.src hL).2 (ints_one _ _) (by rw [List.length_nil]; exact Nat.le_trans (Nat.le_trans (Nat.zero_add _ ▸ hb3) hb2) (by decide)) rfl ?_
                  clear hL
                  intro A1 n1 c1 L1 w hn1 ho1 hL
                  rw [List.nil_append] at ho1
                  conv => whnf
                  refine SReq.mk (hL.sublist (List.nil_sublist _)) ?_
                  conv => whnf
                  refine AltReq.one ?_
                  conv => whnf
                  replace hL := hL.back
                  rw [← List.append_nil L1] at hL
                  refine RunReq.push hX 34 3 rfl rfl rfl rfl rfl (L2 := []) ho1 hL rfl rfl (by show _ + 1 ≤ _; omega) rfl ?_
                  clear hL
                  intro A1 n1 c1 L1 w hn1 ho1 hL
                  conv => whnf
                  refine SReq.mk (hL.sublist (List.nil_sublist _)) ?_
                  conv => whnf
                  refine AltReq.one ?_
                  conv => whnf
                  refine RunReq.append hX 34 3 rfl rfl rfl rfl rfl (L2 := []) ho1 hL (hs2.src hL).1 (hs2.src hL).2 (ints_one _ _) (by rw [List.length_append]; show _ + 1 + _ ≤ _; omega) rfl ?_
                  clear hL ho1
                  intro A1 n1 c1 L1 w hn1 ho1 hL
                  conv => whnf
                  refine SReq.mk (hL.sublist (List.nil_sublist _)) ?_
                  conv => whnf
                  repeat ((first | refine zQ hX ?_ | refine zR hX ?_ | refine zA ?_ | refine zT ?_ | refine zF ?_ | refine zL hX hL ?_ | refine zB hX hL ?_ | (refine zS hX hL ?_; clear hL; intro w hL) | refine zI ?_ | refine zG hX ?_ | refine zO ?_); conv => whnf)
                  obtain ⟨m5, hL5, hle5, hs5⟩ := OwnS.freeze (k := .i64) (l := l.take q ++ [p[k]] ++ (l.take no).drop q) (by rw [ints_append, ints_append]; exact ho1) hL
                  have hl5 : (l.take q ++ [p[k]] ++ (l.take no).drop q).length ≤ l.length + 1 := by simp only [List.length_append, List.length_take, List.length_drop, List.length_singleton]; omega
                  have hN' : AtP (l.take q ++ [p[k]] ++ (l.take no).drop q) ((fs.take i).flatten.flatten ++ (ff.take j).flatten ++ p.take (k + 1)) := by
                    rw [take_succ' hk1, ← List.append_assoc, List.take_of_length_le (show l.length ≤ no by omega)]
                    exact hN.ins hin hqa hqe
                  refine ⟨(k + 1, A1, n1, c1), ⟨by simp only at hlt3 ⊢; omega, m5, _, hle.trans hle5, hs5, hN', by simp only; omega, hL5⟩, by first | omega | (simp only; omega) | (simp only [List.length_cons, List.length_append]; omega), ?_, ?_⟩
                  · repeat (first | exact trivial | (refine And.intro (by (conv => lhs; whnf) <;> (conv => rhs; whnf) <;> (first | rfl)) ?_))
                  · repeat (first | exact trivial | (refine And.intro (by (conv => lhs; whnf) <;> (conv => rhs; whnf) <;> (first | rfl)) ?_))
              · conv => whnf
                refine AltReq.one ?_
                conv => whnf
                refine NewReq.mk hL ?_
                clear hL
                intro b66 w hL
                conv => whnf
                refine SReq.mk (hL.sublist (List.nil_sublist _)) ?_
                conv => whnf
                refine AltReq.one ?_
                conv => whnf
                refine NewReq.mk hL ?_
                clear hL
                intro b60 w hL
                conv => whnf
                refine SReq.mk (hL.sublist (List.nil_sublist _)) ?_
                conv => whnf
                refine AltReq.one ?_
                conv => whnf
                refine RunReq.append hX 34 3 rfl rfl rfl rfl rfl (L1 := [_]) (L2 := [_]) (OwnS.full (n := 0) (cur := []) (Nat.zero_le _) rfl) hL (hs1.src hL).1 (hs1.src hL).2 (ints_one _ _) (by rw [List.length_nil]; exact Nat.le_trans (Nat.le_trans (Nat.zero_add _ ▸ hb3) hb2) (by decide)) rfl ?_
                clear hL
                intro A1 n1 c1 L1 w hn1 ho1 hL
                rw [List.nil_append] at ho1
                conv => whnf
                refine SReq.mk (hL.sublist (List.nil_sublist _)) ?_
                conv => whnf
                refine AltReq.one ?_
                conv => whnf
                replace hL := hL.back
                rw [← List.append_nil L1] at hL
                refine RunReq.push hX 34 3 rfl rfl rfl rfl rfl (L2 := []) ho1 hL rfl rfl (by show _ + 1 ≤ _; omega) rfl ?_
                clear hL
                intro A1 n1 c1 L1 w hn1 ho1 hL
                conv => whnf
                refine SReq.mk (hL.sublist (List.nil_sublist _)) ?_
                conv => whnf
                refine AltReq.one ?_
                conv => whnf
                refine RunReq.append hX 34 3 rfl rfl rfl rfl rfl (L2 := []) ho1 hL (hs2.src hL).1 (hs2.src hL).2 (ints_one _ _) (by rw [List.length_append]; show _ + 1 + _ ≤ _; omega) rfl ?_
                clear hL ho1
                intro A1 n1 c1 L1 w hn1 ho1 hL
                conv => whnf
                refine SReq.mk (hL.sublist (List.nil_sublist _)) ?_
                conv => whnf
                repeat ((first | refine zQ hX ?_ | refine zR hX ?_ | refine zA ?_ | refine zT ?_ | refine zF ?_ | refine zL hX hL ?_ | refine zB hX hL ?_ | (refine zS hX hL ?_; clear hL; intro w hL) | refine zI ?_ | refine zG hX ?_ | refine zO ?_); conv => whnf)
                obtain ⟨m5, hL5, hle5, hs5⟩ := OwnS.freeze (k := .i64) (l := l.take q ++ [p[k]] ++ (l.take no).drop q) (by rw [ints_append, ints_append]; exact ho1) hL
                have hl5 : (l.take q ++ [p[k]] ++ (l.take no).drop q).length ≤ l.length + 1 := by simp only [List.length_append, List.length_take, List.length_drop, List.length_singleton]; omega
                have hN' : AtP (l.take q ++ [p[k]] ++ (l.take no).drop q) ((fs.take i).flatten.flatten ++ (ff.take j).flatten ++ p.take (k + 1)) := by
                  rw [take_succ' hk1, ← List.append_assoc, List.take_of_length_le (show l.length ≤ no by omega)]
                  exact hN.ins hin hqa hqe
                refine ⟨(k + 1, A1, n1, c1), ⟨by simp only at hlt3 ⊢; omega, m5, _, hle.trans hle5, hs5, hN', by simp only; omega, hL5⟩, by first | omega | (simp only; omega) | (simp only [List.length_cons, List.length_append]; omega), ?_, ?_⟩
                · repeat (first | exact trivial | (refine And.intro (by (conv => lhs; whnf) <;> (conv => rhs; whnf) <;> (first | rfl)) ?_))
                · repeat (first | exact trivial | (refine And.intro (by (conv => lhs; whnf) <;> (conv => rhs; whnf) <;> (first | rfl)) ?_))
          · have hqe : q = l.length ∨ ∃ h : q < l.length, ¬ l[q] < p[k] := .inl (by simp only at hq1; omega)
            conv => whnf
            repeat ((first | refine zT ?_ | refine zF ?_ | refine zL hX hL ?_ | refine zB hX hL ?_ | (refine zS hX hL ?_; clear hL; intro w hL) | refine zI ?_ | refine zG hX ?_ | refine zO ?_); conv => whnf)
            refine DrawReq.plan hX (.fst 1 (.fst 2 (.fst 3 (.fst 5 (.fst 8 (.fst 9 (.fst 10 (.alt 0 (.alt 4 (.alt 6 (.alt 7 (.alt 11 (.fst 12 (.done)) (.stop)) (.stop)) (.stop)) (.alt 6 (.alt 4 (.alt 7 (.alt 11 (.fst 12 (.done)) (.stop)) (.stop)) (.stop)) (.stop))) (.alt 6 (.alt 0 (.alt 4 (.alt 7 (.alt 11 (.fst 12 (.done)) (.stop)) (.stop)) (.stop)) (.stop)) (.stop)))))))))) [] (by kernel_rfl) (by kernel_rfl) hL (fun h => h.sublist (List.nil_sublist _)) ?_
            clear hL
            intro w hL
            conv => whnf
            repeat ((first | (refine SlReq.mk 0 q rfl rfl (by omega) (by simp only; omega) ?_) | (refine SlReq.mk q no rfl rfl (by omega) (by simp only; omega) ?_) | refine zQ hX ?_ | refine zR hX ?_ | refine zA ?_ | refine zT ?_ | refine zF ?_ | refine zL hX hL ?_ | refine zB hX hL ?_ | (refine zS hX hL ?_; clear hL; intro w hL) | refine zI ?_ | refine zG hX ?_ | refine zO ?_); conv => whnf)
            refine alt2 ?_ ?_
            · conv => whnf
              refine NewReq.mk hL ?_
              clear hL
              intro b60 w hL
              conv => whnf
              refine SReq.mk (hL.sublist (List.nil_sublist _)) ?_
              conv => whnf
              refine alt2 ?_ ?_
              · conv => whnf
                refine RunReq.append hX 34 3 rfl rfl rfl rfl rfl (L1 := [_]) (L2 := []) (OwnS.full (n := 0) (cur := []) (Nat.zero_le _) rfl) hL (hs1.src hL).1 (hs1.src hL).2 (ints_one _ _) (by rw [List.length_nil]; exact Nat.le_trans (Nat.le_trans (Nat.zero_add _ ▸ hb3) hb2) (by decide)) rfl ?_
                clear hL
                intro A1 n1 c1 L1 w hn1 ho1 hL
                rw [List.nil_append] at ho1
                conv => whnf
                refine SReq.mk (hL.sublist (List.nil_sublist _)) ?_
                conv => whnf
                refine AltReq.one ?_
                conv => whnf
                refine NewReq.mk hL ?_
                clear hL
                intro b66 w hL
                conv => whnf
                refine SReq.mk (hL.sublist (List.nil_sublist _)) ?_
                conv => whnf
                refine AltReq.one ?_
                conv => whnf
                refine RunReq.push hX 34 3 rfl rfl rfl rfl rfl (L2 := []) ho1 hL rfl rfl (by show _ + 1 ≤ _; omega) rfl ?_
                clear hL
                intro A1 n1 c1 L1 w hn1 ho1 hL
                conv => whnf
                refine SReq.mk (hL.sublist (List.nil_sublist _)) ?_
                conv => whnf
                refine AltReq.one ?_
                conv => whnf
                refine RunReq.append hX 34 3 rfl rfl rfl rfl rfl (L2 := []) ho1 hL (hs2.src hL).1 (hs2.src hL).2 (ints_one _ _) (by rw [List.length_append]; show _ + 1 + _ ≤ _; omega) rfl ?_
                clear hL ho1
                intro A1 n1 c1 L1 w hn1 ho1 hL
                conv => whnf
                refine SReq.mk (hL.sublist (List.nil_sublist _)) ?_
                conv => whnf
                repeat ((first | refine zQ hX ?_ | refine zR hX ?_ | refine zA ?_ | refine zT ?_ | refine zF ?_ | refine zL hX hL ?_ | refine zB hX hL ?_ | (refine zS hX hL ?_; clear hL; intro w hL) | refine zI ?_ | refine zG hX ?_ | refine zO ?_); conv => whnf)
                obtain ⟨m5, hL5, hle5, hs5⟩ := OwnS.freeze (k := .i64) (l := l.take q ++ [p[k]] ++ (l.take no).drop q) (by rw [ints_append, ints_append]; exact ho1) hL
                have hl5 : (l.take q ++ [p[k]] ++ (l.take no).drop q).length ≤ l.length + 1 := by simp only [List.length_append, List.length_take, List.length_drop, List.length_singleton]; omega
                have hN' : AtP (l.take q ++ [p[k]] ++ (l.take no).drop q) ((fs.take i).flatten.flatten ++ (ff.take j).flatten ++ p.take (k + 1)) := by
                  rw [take_succ' hk1, ← List.append_assoc, List.take_of_length_le (show l.length ≤ no by omega)]
                  exact hN.ins hin hqa hqe
                refine ⟨(k + 1, A1, n1, c1), ⟨by simp only at hlt3 ⊢; omega, m5, _, hle.trans hle5, hs5, hN', by simp only; omega, hL5⟩, by first | omega | (simp only; omega) | (simp only [List.length_cons, List.length_append]; omega), ?_, ?_⟩
                · repeat (first | exact trivial | (refine And.intro (by (conv => lhs; whnf) <;> (conv => rhs; whnf) <;> (first | rfl)) ?_))
                · repeat (first | exact trivial | (refine And.intro (by (conv => lhs; whnf) <;> (conv => rhs; whnf) <;> (first | rfl)) ?_))
              · conv => whnf
                refine AltReq.one ?_
                conv => whnf
                refine NewReq.mk hL ?_
                clear hL
                intro b66 w hL
                conv => whnf
                refine SReq.mk (hL.sublist (List.nil_sublist _)) ?_
                conv => whnf
                refine AltReq.one ?_
                conv => whnf
                replace hL := hL.perm (List.Perm.swap _ _ _)
                refine RunReq.append hX 34 3 rfl rfl rfl rfl rfl (L1 := [_]) (L2 := [_]) (OwnS.full (n := 0) (cur := []) (Nat.zero_le _) rfl) hL (hs1.src hL).1 (hs1.src hL).2 (ints_one _ _) (by rw [List.length_nil]; exact Nat.le_trans (Nat.le_trans (Nat.zero_add _ ▸ hb3) hb2) (by decide)) rfl ?_
                clear hL
                intro A1 n1 c1 L1 w hn1 ho1 hL
                rw [List.nil_append] at ho1
                conv => whnf
                refine SReq.mk (hL.sublist (List.nil_sublist _)) ?_
                conv => whnf
                refine AltReq.one ?_
                conv => whnf
                replace hL := hL.back
                rw [← List.append_nil L1] at hL
                refine RunReq.push hX 34 3 rfl rfl rfl rfl rfl (L2 := []) ho1 hL rfl rfl (by show _ + 1 ≤ _; omega) rfl ?_
                clear hL
                intro A1 n1 c1 L1 w hn1 ho1 hL
                conv => whnf
                refine SReq.mk (hL.sublist (List.nil_sublist _)) ?_
                conv => whnf
                refine AltReq.one ?_
                conv => whnf
                refine RunReq.append hX 34 3 rfl rfl rfl rfl rfl (L2 := []) ho1 hL (hs2.src hL).1 (hs2.src hL).2 (ints_one _ _) (by rw [List.length_append]; show _ + 1 + _ ≤ _; omega) rfl ?_
                clear hL ho1
                intro A1 n1 c1 L1 w hn1 ho1 hL
                conv => whnf
                refine SReq.mk (hL.sublist (List.nil_sublist _)) ?_
                conv => whnf
                repeat ((first | refine zQ hX ?_ | refine zR hX ?_ | refine zA ?_ | refine zT ?_ | refine zF ?_ | refine zL hX hL ?_ | refine zB hX hL ?_ | (refine zS hX hL ?_; clear hL; intro w hL) | refine zI ?_ | refine zG hX ?_ | refine zO ?_); conv => whnf)
                obtain ⟨m5, hL5, hle5, hs5⟩ := OwnS.freeze (k := .i64) (l := l.take q ++ [p[k]] ++ (l.take no).drop q) (by rw [ints_append, ints_append]; exact ho1) hL
                have hl5 : (l.take q ++ [p[k]] ++ (l.take no).drop q).length ≤ l.length + 1 := by simp only [List.length_append, List.length_take, List.length_drop, List.length_singleton]; omega
                have hN' : AtP (l.take q ++ [p[k]] ++ (l.take no).drop q) ((fs.take i).flatten.flatten ++ (ff.take j).flatten ++ p.take (k + 1)) := by
                  rw [take_succ' hk1, ← List.append_assoc, List.take_of_length_le (show l.length ≤ no by omega)]
                  exact hN.ins hin hqa hqe
                refine ⟨(k + 1, A1, n1, c1), ⟨by simp only at hlt3 ⊢; omega, m5, _, hle.trans hle5, hs5, hN', by simp only; omega, hL5⟩, by first | omega | (simp only; omega) | (simp only [List.length_cons, List.length_append]; omega), ?_, ?_⟩
                · repeat (first | exact trivial | (refine And.intro (by (conv => lhs; whnf) <;> (conv => rhs; whnf) <;> (first | rfl)) ?_))
                · repeat (first | exact trivial | (refine And.intro (by (conv => lhs; whnf) <;> (conv => rhs; whnf) <;> (first | rfl)) ?_))
            · conv => whnf
              refine AltReq.one ?_
              conv => whnf
              refine NewReq.mk hL ?_
              clear hL
              intro b66 w hL
              conv => whnf
              refine SReq.mk (hL.sublist (List.nil_sublist _)) ?_
              conv => whnf
              refine AltReq.one ?_
              conv => whnf
              refine NewReq.mk hL ?_
              clear hL
              intro b60 w hL
              conv => whnf
              refine SReq.mk (hL.sublist (List.nil_sublist _)) ?_
              conv => whnf
              refine AltReq.one ?_
              conv => whnf
              refine RunReq.append hX 34 3 rfl rfl rfl rfl rfl (L1 := [_]) (L2 := [_]) (OwnS.full (n := 0) (cur := []) (Nat.zero_le _) rfl) hL (hs1.src hL).1 (hs1.src hL).2 (ints_one _ _) (by rw [List.length_nil]; exact Nat.le_trans (Nat.le_trans (Nat.zero_add _ ▸ hb3) hb2) (by decide)) rfl ?_
              clear hL
              intro A1 n1 c1 L1 w hn1 ho1 hL
              rw [List.nil_append] at ho1
              conv => whnf
              refine SReq.mk (hL.sublist (List.nil_sublist _)) ?_
              conv => whnf
              refine AltReq.one ?_
              conv => whnf
              replace hL := hL.back
              rw [← List.append_nil L1] at hL
              refine RunReq.push hX 34 3 rfl rfl rfl rfl rfl (L2 := []) ho1 hL rfl rfl (by show _ + 1 ≤ _; omega) rfl ?_
              clear hL
              intro A1 n1 c1 L1 w hn1 ho1 hL
              conv => whnf
              refine SReq.mk (hL.sublist (List.nil_sublist _)) ?_
              conv => whnf
              refine AltReq.one ?_
              conv => whnf
              refine RunReq.append hX 34 3 rfl rfl rfl rfl rfl (L2 := []) ho1 hL (hs2.src hL).1 (hs2.src hL).2 (ints_one _ _) (by rw [List.length_append]; show _ + 1 + _ ≤ _; omega) rfl ?_
              clear hL ho1
              intro A1 n1 c1 L1 w hn1 ho1 hL
              conv => whnf
              refine SReq.mk (hL.sublist (List.nil_sublist _)) ?_
              conv => whnf
              repeat ((first | refine zQ hX ?_ | refine zR hX ?_ | refine zA ?_ | refine zT ?_ | refine zF ?_ | refine zL hX hL ?_ | refine zB hX hL ?_ | (refine zS hX hL ?_; clear hL; intro w hL) | refine zI ?_ | refine zG hX ?_ | refine zO ?_); conv => whnf)
              obtain ⟨m5, hL5, hle5, hs5⟩ := OwnS.freeze (k := .i64) (l := l.take q ++ [p[k]] ++ (l.take no).drop q) (by rw [ints_append, ints_append]; exact ho1) hL
              have hl5 : (l.take q ++ [p[k]] ++ (l.take no).drop q).length ≤ l.length + 1 := by simp only [List.length_append, List.length_take, List.length_drop, List.length_singleton]; omega
              have hN' : AtP (l.take q ++ [p[k]] ++ (l.take no).drop q) ((fs.take i).flatten.flatten ++ (ff.take j).flatten ++ p.take (k + 1)) := by
                rw [take_succ' hk1, ← List.append_assoc, List.take_of_length_le (show l.length ≤ no by omega)]
                exact hN.ins hin hqa hqe
              refine ⟨(k + 1, A1, n1, c1), ⟨by simp only at hlt3 ⊢; omega, m5, _, hle.trans hle5, hs5, hN', by simp only; omega, hL5⟩, by first | omega | (simp only; omega) | (simp only [List.length_cons, List.length_append]; omega), ?_, ?_⟩
              · repeat (first | exact trivial | (refine And.intro (by (conv => lhs; whnf) <;> (conv => rhs; whnf) <;> (first | rfl)) ?_))
              · repeat (first | exact trivial | (refine And.intro (by (conv => lhs; whnf) <;> (conv => rhs; whnf) <;> (first | rfl)) ?_))
      · have hq : l.length ≤ i * 1000000 + (j + 1) * 1000 := bnd2 hll (by clear hll hlt3; omega)
        have hN' : AtP l ((fs.take i).flatten.flatten ++ (ff.take (j + 1)).flatten) := by
          rw [show p.take k = p from List.take_of_length_le (by clear hll hq; omega)] at hN
          rw [hpst, List.flatten_append, List.flatten_cons, List.flatten_nil, List.append_nil, ← List.append_assoc]
          exact hN
        conv => whnf
        repeat ((first | refine zT ?_ | refine zF ?_ | refine zL hX hL ?_ | refine zB hX hL ?_ | (refine zS hX hL ?_; clear hL; intro w hL) | refine zI ?_ | refine zG hX ?_ | refine zO ?_); conv => whnf)
        refine ⟨(j + 1, Ao, no, co), ⟨by simp only at hlt2 ⊢; omega, mm, l, hle, hl, hN', hq, hL⟩, by first | omega | (simp only; omega) | (simp only [List.length_cons, List.length_append]; omega), ?_, ?_⟩
        · repeat (first | exact trivial | (refine And.intro (by (conv => lhs; whnf) <;> (conv => rhs; whnf) <;> (first | rfl)) ?_))
        · repeat (first | exact trivial | (refine And.intro (by (conv => lhs; whnf) <;> (conv => rhs; whnf) <;> (first | rfl)) ?_))
    · have hq : l.length ≤ (i + 1) * 1000000 := bnd1 hll (by clear hll hlt2; omega)
      have hN' : AtP l (fs.take (i + 1)).flatten.flatten := by
        rw [show ff.take j = ff from List.take_of_length_le (by clear hll hq; omega)] at hN
        rw [hfst, List.flatten_append, List.flatten_cons, List.flatten_nil, List.append_nil, List.flatten_append]
        exact hN
      conv => whnf
      repeat ((first | refine zT ?_ | refine zF ?_ | refine zL hX hL ?_ | refine zB hX hL ?_ | (refine zS hX hL ?_; clear hL; intro w hL) | refine zI ?_ | refine zG hX ?_ | refine zO ?_); conv => whnf)
      refine ⟨(i + 1, Ao, no, co), ⟨by simp only at hlt ⊢; omega, mm, l, hle, hl, hN', hq, hL⟩, by first | omega | (simp only; omega) | (simp only [List.length_cons, List.length_append]; omega), ?_, ?_⟩
      · repeat (first | exact trivial | (refine And.intro (by (conv => lhs; whnf) <;> (conv => rhs; whnf) <;> (first | rfl)) ?_))
      · repeat (first | exact trivial | (refine And.intro (by (conv => lhs; whnf) <;> (conv => rhs; whnf) <;> (first | rfl)) ?_))
  · have ei : i = fs.length := by simp only at hlt; omega
    rw [ei, List.take_length] at hN
    conv => whnf
    repeat ((first | refine zT ?_ | refine zF ?_ | refine zL hX hL ?_ | refine zB hX hL ?_ | (refine zS hX hL ?_; clear hL; intro w hL) | refine zI ?_ | refine zG hX ?_ | refine zO ?_); conv => whnf)
    exact RetReq.mk hL ⟨rfl, l, hl, hN⟩
def sz (f : List (List Int)) : Nat := (f.map fun p => p.length + 1).sum
theorem sz_take {f : List (List Int)} {j : Nat} (h : j < f.length) : sz (f.take (j + 1)) = sz (f.take j) + 1 + f[j].length := by
  rw [List.take_succ_eq_append_getElem h]; unfold sz; rw [List.map_append, List.sum_append]; simp only [List.map_cons, List.map_nil, List.sum_cons, List.sum_nil]; omega
theorem sz_le : ∀ (f : List (List Int)), f.length ≤ sz f ∧ ∀ p ∈ f, p.length ≤ sz f
  | [] => by simp
  | p :: f => by
    have h := sz_le f
    have e : sz (p :: f) = p.length + 1 + sz f := by simp [sz]
    refine ⟨by rw [e, List.length_cons]; omega, fun q hq => ?_⟩
    rcases List.mem_cons.1 hq with rfl | hq
    · omega
    · have := h.2 q hq; omega
theorem sz_app (f g : List (List Int)) : sz (f ++ g) = sz f + sz g := by simp [sz]

/-- Lists that memory can hold. -/
def Held (f : List (List Int)) : Prop := ∀ p ∈ f, p.length ≤ 1000000000000000

theorem few_fn (m : Mem) (v1 v2 : Value) (f g : List (List Int)) (h1 : FmV m v1 f) (h2 : FmV m v2 g) (k1 : Held f) (k2 : Held g) :
    Fn0 Try.prog 6 [v1, v2] m fun _ u => ∃ b, u = .bool b ∧ (b = true → sz f + sz g ≤ 300 ∧ ∃ A, A.length ≤ 9 ∧ In A f ∧ In A g) := by
  have hmx : maxLen = 9223372036854775807 := rfl
  have h1' := h1
  have h2' := h2
  obtain ⟨A1, n1, c1, rfl, hn1, hc1, hm1, -⟩ := h1
  obtain ⟨A2, n2, c2, rfl, hn2, hc2, hm2, -⟩ := h2
  refine Fn.enter (N := 46) hX Try.func6 rfl rfl (by show _ ≤ _; simp) (fun w0 hL => ?_)
  conv => whnf
  conv => whnf
  repeat ((first | refine zT ?_ | refine zF ?_ | refine zL hX hL ?_ | refine zB hX hL ?_ | (refine zS hX hL ?_; clear hL; intro w hL) | refine zI ?_ | refine zG hX ?_ | refine zO ?_); conv => whnf)
  refine LoopReq.inv hX (fun s : Nat × Nat => [(5, .int .i64 s.1), (10, .int .i64 s.2)]) [0, 1, 9]
    (fun s w => (s.2 ≤ n1 ∧ s.1 = sz (f.take s.2) ∧ s.1 ≤ 300) ∧ Ev.Loc m [] w0 m [] w) (fun s => n1 - s.2) (0, 0)
    ⟨⟨by omega, by simp [sz], by omega⟩, hL⟩ ⟨rfl, rfl, trivial⟩ ?_
  clear hL
  rintro ⟨s, j⟩ w e ⟨⟨hj, hs, hs3⟩, hL⟩
  simp only at hj hs hs3
  conv => whnf
  repeat ((first | refine zT ?_ | refine zF ?_ | refine zL hX hL ?_ | refine zB hX hL ?_ | (refine zS hX hL ?_; clear hL; intro w hL) | refine zI ?_ | refine zG hX ?_ | refine zO ?_); conv => whnf)
  refine BrReq.dec (fun hlt => ?_) (fun hlt => ?_)
  · have hj1 : j < f.length := by simp only at hlt; omega
    obtain ⟨a1, A3, n3, c3, rfl, hx1, hp1⟩ := h1'.at_ hj1
    have hpn := hp1.len.1
    have hpk := k1 _ (List.getElem_mem hj1)
    have hst := sz_take hj1
    conv => whnf
    repeat ((first | refine Idx2Req.mk j a1 rfl (by omega) rfl ?_ | refine LdReq.one hX rfl rfl hL hx1 ?_ | (refine ArReq.i64 (by simp only; omega) (by simp only; omega) ?_) | refine zT ?_ | refine zF ?_ | refine zL hX hL ?_ | refine zB hX hL ?_ | (refine zS hX hL ?_; clear hL; intro w hL) | refine zI ?_ | refine zG hX ?_ | refine zO ?_); conv => whnf)
    refine BrReq.dec (fun hgt => ?_) (fun hgt => ?_)
    · conv => whnf
      repeat ((first | refine zT ?_ | refine zF ?_ | refine zL hX hL ?_ | refine zB hX hL ?_ | (refine zS hX hL ?_; clear hL; intro w hL) | refine zI ?_ | refine zG hX ?_ | refine zO ?_); conv => whnf)
      exact RetReq.mk hL ⟨rfl, _, rfl, fun h => by cases h⟩
    · conv => whnf
      repeat ((first | refine zT ?_ | refine zF ?_ | refine zL hX hL ?_ | refine zB hX hL ?_ | (refine zS hX hL ?_; clear hL; intro w hL) | refine zI ?_ | refine zG hX ?_ | refine zO ?_); conv => whnf)
      refine ⟨(s + 1 + n3, j + 1), ⟨⟨by simp only at hlt ⊢; omega, by simp only; omega, by simp only at hgt ⊢; omega⟩, hL⟩, by first | omega | (simp only; omega) | (simp only [List.length_cons, List.length_append]; omega), ?_, ?_⟩
      · repeat (first | exact trivial | (refine And.intro (by (conv => lhs; whnf) <;> (conv => rhs; whnf) <;> (first | rfl)) ?_))
      · repeat (first | exact trivial | (refine And.intro (by (conv => lhs; whnf) <;> (conv => rhs; whnf) <;> (first | rfl)) ?_))
  · have ej : j = f.length := by simp only at hlt; omega
    subst ej
    rw [List.take_length] at hs
    conv => whnf
    repeat ((first | refine zT ?_ | refine zF ?_ | refine zL hX hL ?_ | refine zB hX hL ?_ | (refine zS hX hL ?_; clear hL; intro w hL) | refine zI ?_ | refine zG hX ?_ | refine zO ?_); conv => whnf)
    refine LoopReq.inv hX (fun s : Nat × Nat => [(5, .int .i64 s.1), (26, .int .i64 s.2)]) [0, 1, 25]
      (fun s w => (s.2 ≤ n2 ∧ s.1 = sz f + sz (g.take s.2) ∧ s.1 ≤ 300) ∧ Ev.Loc m [] w0 m [] w) (fun s => n2 - s.2) (s, 0)
      ⟨⟨by simp, by simp [sz] at hs ⊢; omega, by simpa using hs3⟩, hL⟩ ⟨rfl, rfl, trivial⟩ ?_
    clear hL hs hs3
    rintro ⟨s, j⟩ w e ⟨⟨hj, hs, hs3⟩, hL⟩
    simp only at hj hs hs3
    conv => whnf
    repeat ((first | refine zT ?_ | refine zF ?_ | refine zL hX hL ?_ | refine zB hX hL ?_ | (refine zS hX hL ?_; clear hL; intro w hL) | refine zI ?_ | refine zG hX ?_ | refine zO ?_); conv => whnf)
    refine BrReq.dec (fun hlt2 => ?_) (fun hlt2 => ?_)
    · have hj1 : j < g.length := by simp only at hlt2; omega
      obtain ⟨a1, A3, n3, c3, rfl, hx1, hp1⟩ := h2'.at_ hj1
      have hpn := hp1.len.1
      have hpk := k2 _ (List.getElem_mem hj1)
      have hst := sz_take hj1
      conv => whnf
      repeat ((first | refine Idx2Req.mk j a1 rfl (by omega) rfl ?_ | refine LdReq.one hX rfl rfl hL hx1 ?_ | (refine ArReq.i64 (by simp only; omega) (by simp only; omega) ?_) | refine zT ?_ | refine zF ?_ | refine zL hX hL ?_ | refine zB hX hL ?_ | (refine zS hX hL ?_; clear hL; intro w hL) | refine zI ?_ | refine zG hX ?_ | refine zO ?_); conv => whnf)
      refine BrReq.dec (fun hgt => ?_) (fun hgt => ?_)
      · conv => whnf
        repeat ((first | refine zT ?_ | refine zF ?_ | refine zL hX hL ?_ | refine zB hX hL ?_ | (refine zS hX hL ?_; clear hL; intro w hL) | refine zI ?_ | refine zG hX ?_ | refine zO ?_); conv => whnf)
        exact RetReq.mk hL ⟨rfl, _, rfl, fun h => by cases h⟩
      · conv => whnf
        repeat ((first | refine zT ?_ | refine zF ?_ | refine zL hX hL ?_ | refine zB hX hL ?_ | (refine zS hX hL ?_; clear hL; intro w hL) | refine zI ?_ | refine zG hX ?_ | refine zO ?_); conv => whnf)
        refine ⟨(s + 1 + n3, j + 1), ⟨⟨by simp only at hlt2 ⊢; omega, by simp only; omega, by simp only at hgt ⊢; omega⟩, hL⟩, by first | omega | (simp only; omega) | (simp only [List.length_cons, List.length_append]; omega), ?_, ?_⟩
        · repeat (first | exact trivial | (refine And.intro (by (conv => lhs; whnf) <;> (conv => rhs; whnf) <;> (first | rfl)) ?_))
        · repeat (first | exact trivial | (refine And.intro (by (conv => lhs; whnf) <;> (conv => rhs; whnf) <;> (first | rfl)) ?_))
    · have ej : j = g.length := by simp only at hlt2; omega
      subst ej
      rw [List.take_length] at hs
      have hf := sz_le f
      have hg := sz_le g
      conv => whnf
      repeat ((first | refine zT ?_ | refine zF ?_ | refine zL hX hL ?_ | refine zB hX hL ?_ | (refine zS hX hL ?_; clear hL; intro w hL) | refine zI ?_ | refine zG hX ?_ | refine zO ?_); conv => whnf)
      refine NewReq.mk hL ?_
      clear hL
      intro b42 w hL
      conv => whnf
      replace hL : Ev.Loc m [] w0 m ([(b42, .cells (toArr [.slice A1 n1 c1, .slice A2 n2 c2]) 22 (0, 0))] ++ []) w := hL
      obtain ⟨m1, hL1, hle1, hfs⟩ := freeze1 (l := [f, g]) (R := fun u f => FmV m u f) (OwnS.full (n := 2) (by decide) rfl) hL rfl (by
        intro i p hp
        match i, hp with
        | 0, hp => cases hp; exact ⟨_, rfl, h1'⟩
        | 1, hp => cases hp; exact ⟨_, rfl, h2'⟩
        | i + 2, hp => cases hp)
      have hfs' : FsV m1 _ [f, g] := Sl.le hfs (Mem.Le.refl _) fun _ _ _ ⟨u, e, h⟩ => ⟨u, e, h.le hle1⟩
      conv => whnf
      repeat ((first | refine zT ?_ | refine zF ?_ | refine zL hX hL ?_ | refine zB hX hL ?_ | (refine zS hX hL ?_; clear hL; intro w hL) | refine zI ?_ | refine zG hX ?_ | refine zO ?_); conv => whnf)
      refine CallReq.pure (atoms_fn m1 _ _ hfs' (by simp) (fun x hx => by
        rcases List.mem_cons.1 hx with rfl | hx
        · exact ⟨by omega, fun p hp => by have := hf.2 p hp; omega⟩
        · rcases List.mem_cons.1 hx with rfl | hx
          · exact ⟨by omega, fun p hp => by have := hg.2 p hp; omega⟩
          · cases hx)) hL1 ?_
      clear hL hL1
      rintro u m' w hL hle ⟨la, hla, hat⟩
      obtain ⟨A, n, c, rfl, hnl, -⟩ := id hla
      have hin : ∀ x ∈ [f, g], In la x := fun x hx p hp z hz => (hat.mem z).2 (List.mem_flatten.2 ⟨p, List.mem_flatten.2 ⟨x, hx, hp⟩, hz⟩)
      conv => whnf
      repeat ((first | refine zT ?_ | refine zF ?_ | refine zL hX hL ?_ | refine zB hX hL ?_ | (refine zS hX hL ?_; clear hL; intro w hL) | refine zI ?_ | refine zG hX ?_ | refine zO ?_); conv => whnf)
      exact RetReq.mk hL ⟨rfl, _, rfl, fun hb => ⟨by omega, la, by have := of_decide_eq_true hb; omega, hin f (by simp), hin g (by simp)⟩⟩
end Go.Proofs.Ytnpgllgmcdhmcaa.fo
