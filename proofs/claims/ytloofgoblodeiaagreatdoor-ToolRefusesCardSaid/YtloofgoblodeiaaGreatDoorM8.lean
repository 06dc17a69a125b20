/- ToolRefuses: part 8 of 10 of the proof. Conditions: none. -/
import Derived.Test.YtloofgoblodeiaaGreatDoorM7
namespace Go.Proofs.YtloofgoblodeiaaGreatDoor.mach
open Go Go.Ev Go.Proofs
theorem alt2 {A B : Prop} (a : A) (b : B) : AltReq A B := ⟨⟨a, b⟩⟩
theorem exists_least (p : Nat → Bool) : ∀ n, p n = true → ∃ b, b ≤ n ∧ p b = true ∧ ∀ b', b' < b → p b' = false := by
  intro n
  induction n using Nat.strongRecOn with
  | ind n ih =>
    intro h
    by_cases hx : ∃ b', b' < n ∧ p b' = true
    · obtain ⟨b', h1, h2⟩ := hx
      obtain ⟨b, h3, h4⟩ := ih b' h1 h2
      exact ⟨b, by omega, h4⟩
    · exact ⟨n, Nat.le_refl n, h, fun b' hb' => by
        cases hp : p b' with
        | false => rfl
        | true => exact absurd ⟨b', hb', hp⟩ hx⟩
theorem baseR_le (cs : List (Int × Int)) (nd : List Nat) : baseR cs nd ≤ cs.length := by
  obtain ⟨b, h1, h2⟩ := exists_least (fun b => freeB cs b nd) cs.length (freeB_end cs nd _ (Nat.le_refl _))
  rw [baseR_eq (b := b) h2]; exact h1
noncomputable def packTo (sts : List St) : Nat → List (Int × Int) × List Int × List Int
  | 0 => ([], [], [])
  | j + 1 => match sts[j]? with
    | none => packTo sts j
    | some s => (layC j s.next (baseR (packTo sts j).1 (needTo s.next (usR s.next) s.next.length)) (packTo sts j).1 (needTo s.next (usR s.next) s.next.length),
        (packTo sts j).2.1 ++ [(baseR (packTo sts j).1 (needTo s.next (usR s.next) s.next.length) : Int)], (packTo sts j).2.2 ++ [usR s.next])
theorem packTo_succ {sts : List St} {j : Nat} {s : St} (h : sts[j]? = some s) : packTo sts (j + 1) = (layC j s.next (baseR (packTo sts j).1 (needTo s.next (usR s.next) s.next.length)) (packTo sts j).1 (needTo s.next (usR s.next) s.next.length),
        (packTo sts j).2.1 ++ [(baseR (packTo sts j).1 (needTo s.next (usR s.next) s.next.length) : Int)], (packTo sts j).2.2 ++ [usR s.next]) := by
  show (match sts[j]? with | none => _ | some s => _) = _
  rw [h]
theorem packTo_len {sts : List St} (hn : ∀ s ∈ sts, s.next.length ≤ 10000) : ∀ j, j ≤ sts.length → (packTo sts j).1.length ≤ j * 10000 ∧ (packTo sts j).2.1.length = j ∧ (packTo sts j).2.2.length = j := by
  intro j
  induction j with
  | zero => intro _; simp [packTo]
  | succ j ih =>
    intro hj
    obtain ⟨h1, h2, h3⟩ := ih (by omega)
    have hs : sts[j]? = some sts[j] := List.getElem?_eq_getElem (by omega)
    have hl := hn _ (List.getElem_mem (show j < sts.length by omega))
    rw [packTo_succ hs]
    have hB : ∀ B, B = (j + 1) * 10000 → (layC j sts[j].next (baseR (packTo sts j).1 (needTo sts[j].next (usR sts[j].next) sts[j].next.length)) (packTo sts j).1 (needTo sts[j].next (usR sts[j].next) sts[j].next.length)).length ≤ B := by
      intro B hB
      refine layC_len _ _ _ _ _ _ (fun i hi => ?_) (by omega)
      have := needTo_lt i hi
      have := baseR_le (packTo sts j).1 (needTo sts[j].next (usR sts[j].next) sts[j].next.length)
      omega
    exact ⟨hB _ rfl, by simp [h2], by simp [h3]⟩
def bytesW (size : Nat) (l : List Int) : List Int := (l.map (wideR size)).flatten
theorem bytesW_len (size : Nat) (l : List Int) : (bytesW size l).length = l.length * size := by
  induction l with
  | nil => simp [bytesW]
  | cons x l ih => simp only [bytesW, List.map_cons, List.flatten_cons, List.length_append, wideR_len, List.length_cons] at ih ⊢; rw [ih, Nat.add_mul]; omega
theorem bytesW_push (size : Nat) (l : List Int) (x : Int) : bytesW size (l ++ [x]) = bytesW size l ++ wideR size x := by simp [bytesW]
def ruleW (sts : List St) : List Int := (sts.map fun s => s.rule.map (· % 256)).flatten
def headW (bs ds : List Int) : List Int := ((bs.zip ds).map fun x => wideR 4 x.1 ++ wideR 2 x.2).flatten
def cellW (cs : List (Int × Int)) : List Int := (cs.map fun x => wideR 2 x.1 ++ wideR 2 x.2).flatten
theorem cellW_len (cs : List (Int × Int)) : (cellW cs).length = cs.length * 4 := by
  induction cs with
  | nil => simp [cellW]
  | cons x l ih => simp only [cellW, List.map_cons, List.flatten_cons, List.length_append, wideR_len, List.length_cons] at ih ⊢; rw [ih, Nat.add_mul]; omega
theorem headW_len (bs ds : List Int) (h : bs.length = ds.length) : (headW bs ds).length = bs.length * 6 := by
  have : ∀ l : List (Int × Int), ((l.map fun x => wideR 4 x.1 ++ wideR 2 x.2).flatten).length = l.length * 6 := by
    intro l
    induction l with
    | nil => simp
    | cons x l ih => simp only [List.map_cons, List.flatten_cons, List.length_append, wideR_len, List.length_cons, ih]; omega
  unfold headW
  rw [this, List.length_zip, h, Nat.min_self]
noncomputable def bodyR (M : Mc) : List Int :=
  wideR 1 M.looks ++ wideR 2 M.n ++ M.of ++ wideR 2 M.states.length ++ [(M.begins.length : Int) % 256] ++ bytesW 2 M.begins ++ ruleW M.states ++ wideR 4 (packTo M.states M.states.length).1.length ++
    headW (packTo M.states M.states.length).2.1 (packTo M.states M.states.length).2.2 ++ cellW (packTo M.states M.states.length).1
def PkAll (m : Mem) (bp : Nat) (cs : List (Int × Int)) (bs ds : List Int) : Prop := ∃ v1 v2 v3, mcell m ⟨bp, 0, none⟩ = some v1 ∧ mcell m ⟨bp, 1, none⟩ = some v2 ∧ mcell m ⟨bp, 2, none⟩ = some v3 ∧ Sl m 2 isC v1 cs ∧ SlI m .i64 v2 bs ∧ SlI m .i64 v3 ds
theorem PkL.freeze {m0 m : Mem} {S : List Nat} {w0 w : World} {bp : Nat} {cs : List (Int × Int)} {bs ds : List Int} {L : Own} (h : PkL bp cs bs ds L) (hL : Ev.Loc m0 S w0 m L w) :
    ∃ m', Ev.Loc m0 S w0 m' [] w ∧ Mem.Le m m' ∧ PkAll m' bp cs bs ds := by
  obtain ⟨v1, v2, v3, L1, L2, L3, rfl, o1, o2, o3⟩ := h
  have hle := hL.le_add
  have c1 : mcell (m.add bp (.cells (toArr [v1, v2, v3]) 227 (0, 0))) ⟨bp, 0, none⟩ = some v1 := by simp [mcell, Mem.add_same, ocell, toArr]
  have c2 : mcell (m.add bp (.cells (toArr [v1, v2, v3]) 227 (0, 0))) ⟨bp, 1, none⟩ = some v2 := by simp [mcell, Mem.add_same, ocell, toArr]
  have c3 : mcell (m.add bp (.cells (toArr [v1, v2, v3]) 227 (0, 0))) ⟨bp, 2, none⟩ = some v3 := by simp [mcell, Mem.add_same, ocell, toArr]
  obtain ⟨m1, h1, l1, s1⟩ := cells_freeze o1 hL.freeze
  obtain ⟨m2, h2, l2, s2⟩ := o2.freeze h1
  obtain ⟨m3, h3, l3, s3⟩ := o3.freeze (L2 := []) (by simpa using h2)
  exact ⟨m3, h3, ((hle.trans l1).trans l2).trans l3, v1, v2, v3, mcell_le ((l1.trans l2).trans l3) c1, mcell_le ((l1.trans l2).trans l3) c2, mcell_le ((l1.trans l2).trans l3) c3, s1.le' (l2.trans l3), s2.le' l3, s3⟩
theorem byte_cells (l : List Int) : ∀ u ∈ ints .u8 l, u.oneCell' = true := by
  intro u hu
  obtain ⟨z, _, rfl⟩ := List.mem_map.1 hu
  rfl
theorem pm3 (x : Nat × Obj) (a : Ev.Own) : (a ++ [x]).Perm (x :: (a ++ [])) := by
  rw [List.append_nil]; exact List.perm_append_comm (l₁ := a) (l₂ := [x])
theorem pm4 (x : Nat × Obj) (a b : Ev.Own) : (x :: (a ++ (b ++ []))).Perm (a ++ (b ++ [x])) := by
  rw [List.append_nil]; exact List.perm_middle.symm.trans ((List.perm_append_comm (l₁ := [x]) (l₂ := b)).append_left a)
theorem pm5 (x : Nat × Obj) (a b : Ev.Own) : (a ++ (x :: (b ++ []))).Perm (a ++ (b ++ [x])) := by
  rw [List.append_nil]; exact (List.perm_append_comm (l₁ := [x]) (l₂ := b)).append_left a
theorem bytesW_take {size : Nat} {l : List Int} {j : Nat} (h : j < l.length) : bytesW size (l.take (j + 1)) = bytesW size (l.take j) ++ wideR size l[j] := by
  rw [List.take_succ_eq_append_getElem h, bytesW_push]
theorem ruleW_take {l : List St} {j : Nat} (h : j < l.length) : ruleW (l.take (j + 1)) = ruleW (l.take j) ++ (l[j].rule.map (· % 256)) := by
  rw [List.take_succ_eq_append_getElem h]; unfold ruleW; rw [List.map_append, List.flatten_append]; simp only [List.map_cons, List.map_nil, List.flatten_cons, List.flatten_nil, List.append_nil]
theorem ruleW_len {l : List St} (h : ∀ s ∈ l, s.rule.length ≤ 16) : (ruleW l).length ≤ l.length * 16 := by
  induction l with
  | nil => simp [ruleW]
  | cons s l ih =>
    have h1 := h s (by simp)
    have h2 := ih fun x hx => h x (by simp [hx])
    simp only [ruleW, List.map_cons, List.flatten_cons, List.length_append, List.length_map, List.length_cons] at h2 ⊢
    omega
theorem headW_take {bs ds : List Int} {j : Nat} (h : j < bs.length) (k : j < ds.length) : headW (bs.take (j + 1)) (ds.take (j + 1)) = headW (bs.take j) (ds.take j) ++ wideR 4 bs[j] ++ wideR 2 ds[j] := by
  rw [List.take_succ_eq_append_getElem h, List.take_succ_eq_append_getElem k]
  unfold headW
  rw [List.zip_append (by simp; omega)]
  simp
theorem cellW_take {cs : List (Int × Int)} {j : Nat} (h : j < cs.length) : cellW (cs.take (j + 1)) = cellW (cs.take j) ++ wideR 2 cs[j].1 ++ wideR 2 cs[j].2 := by
  rw [List.take_succ_eq_append_getElem h]; unfold cellW; rw [List.map_append, List.flatten_append]; simp only [List.map_cons, List.map_nil, List.flatten_cons, List.flatten_nil, List.append_nil, List.append_assoc]
set_option maxHeartbeats 8000000 in
set_option maxRecDepth 100000 in
theorem body_fn (m : Mem) (cs : List Value) (M : Mc) (hM : McV m cs M) (hst : M.states.length ≤ 2000) (hbe : M.begins.length ≤ 255) (hnx : ∀ s ∈ M.states, 0 < s.next.length ∧ s.next.length ≤ 10000) (hru : ∀ s ∈ M.states, s.rule.length ≤ 16) :
    FnO 49 [.agg (toArr cs)] m 5 1 (ints .u8 (bodyR M)) := by
  have hmx : maxLen = 9223372036854775807 := rfl
  have hlen := hM.len
  refine Fn.enter (N := 144) hX Tryz.func49 rfl rfl (by show _ ≤ _; simp) (fun w0 hL => ?_)
  conv => whnf
  refine NewReq.mk hL ?_
  clear hL
  intro b1 w hL
  replace hL : Ev.Loc m [] w0 m [(b1, .cells (toArr cs) 48 (0, 0))] w := hL
  have hle := hL.le_add
  have hB := McB.freeze hM hL
  replace hL := hL.freeze
  generalize Mem.add m b1 _ = m1 at hL hB hle
  obtain ⟨st, be, hsts, hbes, c1, c2, c3, c4, hcl, -⟩ := hB.at_
  have hsts' := hsts
  have hbes' := hbes
  obtain ⟨A1, n1, k1, rfl, hn1, hk1, hm1, -⟩ := hsts'
  obtain ⟨A2, n2, k2, rfl, hn2, hk2, hm2, -⟩ := hbes'
  have hest := hsts.elem
  have hebe := hbes.cell.2
  conv => whnf
  refine go ?_;try(clear hL;intro w hL)
  refine NewReq.mk hL ?_
  clear hL
  intro bp w hL
  replace hL : Ev.Loc m [] w0 m1 [(bp, .cells (toArr [.slice none 0 0, .slice none 0 0, .slice none 0 0]) 227 (0, 0))] w := hL
  conv => whnf
  repeat ((first | (refine LdReq.one hX rfl rfl hL (by rw [addr_add]; exact c3) ?_) | (refine go1 ?_;try(clear hL;intro w hL))); conv => whnf)
  have hpl := packTo_len (fun s hs => (hnx s hs).2)
  refine LoopReq.inv hX (fun j : Nat => [(21, .int .i64 j)]) [1, 3, 19, 20]
    (fun j w => j ≤ n1 ∧ ∃ L, PkL bp (packTo M.states j).1 (packTo M.states j).2.1 (packTo M.states j).2.2 L ∧ Ev.Loc m [] w0 m1 L w) (fun j => n1 - j) 0
    ⟨by omega, _, PkL.nil bp, hL⟩ ⟨rfl, trivial⟩ ?_
  clear hL
  rintro j w f ⟨hj, L, hP, hL⟩
  obtain ⟨hp1, hp2, hp3⟩ := hpl j (by omega)
  refine go ?_;try(clear hL;intro w hL)
  refine BrReq.dec (fun hlt => ?_) (fun hlt => ?_)
  · have hlt' : j < M.states.length := by omega
    obtain ⟨a, ss, rfl, hl2, hcells, nx, ru, rfl, hsn, hsr⟩ := hest j _ (List.getElem?_eq_getElem hlt')
    have hsn' := hsn
    have hsr' := hsr
    obtain ⟨A3, n3, k3, rfl, -⟩ := hsn'
    obtain ⟨A4, n4, k4, rfl, -⟩ := hsr'
    have hs0 := hnx _ (List.getElem_mem hlt')
    have hstep := packTo_succ (List.getElem?_eq_getElem hlt')
    conv => whnf
    repeat ((first | refine Idx2Req.mk j a rfl (by omega) rfl ?_ | refine LdReq.agg hX rfl rfl hL hl2 hcells ?_ | (refine go1 ?_;try(clear hL;intro w hL))); conv => whnf)
    refine NewReq.mk hL ?_
    clear hL
    intro b5 w hL
    conv => whnf
    refine go ?_;try(clear hL;intro w hL)
    refine CallReq.mk (L1 := L) (L2 := [(b5, .cells (toArr [.slice A3 n3 k3, .slice A4 n4 k4]) 123 (0, 0))]) (lay_fn m1 bp _ _ _ j _ _ L hsn hs0.1 hs0.2 (by omega) (by omega) (by omega) hP) (Loc.back (L1 := [_]) hL) ?_
    clear hL
    rintro v m2 L' w hL - ⟨rfl, rfl, hP'⟩
    replace hL := (Loc.back hL).drop
    have hP2 : PkL bp (packTo M.states (j + 1)).1 (packTo M.states (j + 1)).2.1 (packTo M.states (j + 1)).2.2 L' := by rw [hstep]; exact hP'
    refine go ?_;try(clear hL;intro w hL)
    exact rnd (j + 1) ⟨by omega, L', hP2, hL⟩
  · have ej : j = n1 := by omega
    rw [ej] at hP hp1 hp2 hp3
    clear ej hlt hj
    generalize hpk : packTo M.states n1 = pk at *
    obtain ⟨pc, pb, pd⟩ := pk
    simp only at hP hp1 hp2 hp3
    obtain ⟨m2, hL, hm2', v1, v2, v3, hv1, hv2, hv3, hsc, hsb, hsd⟩ := hP.freeze hL
    have hsc' := hsc
    have hsb' := hsb
    have hsd' := hsd
    obtain ⟨A5, n5, k5, rfl, hn5, -⟩ := hsc'
    obtain ⟨A6, n6, k6, rfl, hn6, -⟩ := hsb'
    obtain ⟨A7, n7, k7, rfl, hn7, -⟩ := hsd'
    have hesc := hsc.elem
    have hesb := hsb.cell.2
    have hesd := hsd.cell.2
    replace c1 := mcell_le hm2' c1
    replace c2 := mcell_le hm2' c2
    replace c3 := mcell_le hm2' c3
    replace c4 := mcell_le hm2' c4
    replace hcl := hcl.le hm2'
    replace hbes : SlI m2 .i64 (.slice A2 n2 k2) M.begins := hbes.le' hm2'
    replace hebe := hbes.cell.2
    replace hsts := hsts.le (R' := stV m2) hm2' fun _ _ _ h => h.le hm2'
    replace hest := hsts.elem
    refine go ?_;try(clear hL;intro w hL)
    refine DrawReq.plan hX (.fst 0 (.fst 1 (.fst 3 (.fst 4 (.fst 5 (.alt 2 (.alt 6 (.alt 7 (.fst 8 (.done)) (.stop)) (.stop)) (.stop))))))) [] (by kernel_rfl) (by kernel_rfl) hL id ?_
    clear hL
    intro w hL
    conv => whnf
    repeat ((first | (refine QLdReq.one hX rfl rfl (by rw [addr_add]; exact c2) ?_) | (refine QLdReq.one hX rfl rfl (by rw [addr_add, addr_add]; exact c1) ?_) | (refine goq1 ?_;try(clear hL;intro w hL))); conv => whnf)
    refine callO (wide_fn m2 _ 1 (by omega)) hL ?_
    clear hL
    intro A8 n8 k8 L1 w hn8 ho1 hL
    conv => whnf
    repeat ((first | refine SReq.mk (hL.sublist (List.nil_sublist _)) ?_ | (refine goq1 ?_;try(clear hL;intro w hL))); conv => whnf)
    refine callO (wide_fn m2 _ 2 (by omega)) hL ?_
    clear hL
    intro A9 n9 k9 L2 w hn9 ho2 hL
    conv => whnf
    repeat ((first | refine SReq.mk (hL.sublist (List.nil_sublist _)) ?_ | (refine goq1 ?_;try(clear hL;intro w hL))); conv => whnf)
    refine RunReq.cat hX 27 5 rfl rfl rfl rfl rfl ho1 ho2 hL (byte_cells _) (by simp [ints, wideR_len]) rfl ?_
    clear hL ho1 ho2
    intro A10 n10 k10 L1 w hn10 ho1 hL
    rw [← ints_append] at ho1
    conv => whnf
    repeat ((first | refine SReq.mk (hL.sublist (List.nil_sublist _)) ?_ | (refine goq1 ?_;try(clear hL;intro w hL))); conv => whnf)
    conv => whnf
    repeat ((first | refine UGenReq.arrAll hX rfl rfl rfl rfl rfl rfl ?_ | (refine go1 ?_;try(clear hL;intro w hL))); conv => whnf)
    refine RunReq.append hX 27 5 rfl rfl rfl rfl rfl ho1 hL (k := 256) (news := ints .u8 M.of) (by simp [ints, hlen]) (fun j u hu => ⟨_, rfl, hL.cell (by
      have := hcl j u (by rw [List.getElem?_append_left (List.getElem?_eq_some_iff.1 hu).1]; exact hu)
      simpa only [addr_add, Nat.zero_add, Nat.add_zero] using this)⟩) (byte_cells _) (by simp [ints, wideR_len, hlen]) rfl ?_
    clear hL ho1
    intro A11 n11 k11 L1 w hn11 ho1 hL
    rw [← ints_append] at ho1
    generalize hx0 : wideR 1 M.looks ++ wideR 2 M.n ++ M.of = x0 at ho1
    have hl0 : x0.length = 259 := by rw [← hx0]; simp [wideR_len, hlen]
    refine go ?_;try(clear hL;intro w hL)
    refine DrawReq.cut (fun u : Value => [(6, u)]) [1, 3] (fun u w => ∃ L, OwnS 5 1 u (ints .u8 (x0 ++ wideR 2 M.states.length ++ [(M.begins.length : Int) % 256])) L ∧ Ev.Loc m [] w0 m2 (L ++ []) w) ?_ ?_
    · refine DrawReq.plan hX (.fst 0 (.fst 1 (.fst 2 (.fst 3 (.fst 6 (.fst 7 (.fst 8 (.fst 9 (.alt 4 (.alt 5 (.alt 10 (.alt 11 (.fst 12 (.done)) (.stop)) (.stop)) (.alt 10 (.alt 5 (.alt 11 (.fst 12 (.done)) (.stop)) (.stop)) (.stop))) (.alt 10 (.alt 4 (.alt 5 (.alt 11 (.fst 12 (.done)) (.stop)) (.stop)) (.stop)) (.stop))))))))))) [] (by kernel_rfl) (by kernel_rfl) hL (fun h => h.sublist (List.nil_sublist _)) ?_
      clear hL
      intro w hL
      conv => whnf
      repeat ((first | (refine QLdReq.one hX rfl rfl (by rw [addr_add]; exact c3) ?_) | (refine QLdReq.one hX rfl rfl (by rw [addr_add]; exact c4) ?_) | refine ArReq.as (wrap_u8 _) ?_ | (refine goq1 ?_;try(clear hL;intro w hL))); conv => whnf)
      refine alt2 ?_ ?_
      · conv => whnf
        refine callO (wide_fn m2 _ 2 (by omega)) hL ?_
        clear hL
        intro Aw nw kw Lw w hnw how hL
        conv => whnf
        repeat ((first | refine SReq.mk (hL.sublist (List.nil_sublist _)) ?_ | (refine goq1 ?_;try(clear hL;intro w hL))); conv => whnf)
        refine alt2 ?_ ?_
        · conv => whnf
          refine RunReq.cat hX 27 5 rfl rfl rfl rfl rfl ho1 how hL (byte_cells _) (by simp [ints, wideR_len, hl0]) rfl ?_
          clear hL ho1 how
          intro A12 n12 k12 L1 w hn12 ho1 hL
          rw [← ints_append] at ho1
          conv => whnf
          repeat ((first | refine SReq.mk (hL.sublist (List.nil_sublist _)) ?_ | (refine goq1 ?_;try(clear hL;intro w hL))); conv => whnf)
          refine NewReq.mk hL ?_
          clear hL
          intro g w hL
          conv => whnf
          conv => whnf
          repeat ((first | refine SReq.mk (hL.sublist (List.nil_sublist _)) ?_ | (refine goq1 ?_;try(clear hL;intro w hL))); conv => whnf)
          refine RunReq.push hX 27 5 rfl rfl rfl rfl rfl ho1 hL rfl rfl (by simp [ints, wideR_len, hl0]) rfl ?_
          clear hL
          intro A13 n13 k13 L1 w hn13 ho2 hL
          replace ho2 : OwnS 5 1 (.slice A13 n13 k13) (ints .u8 (x0 ++ wideR 2 n1) ++ ints .u8 [(n2 : Int) % 256]) L1 := ho2
          rw [← ints_append, hn1, hn2] at ho2
          conv => whnf
          repeat ((first | refine SReq.mk (hL.sublist (List.nil_sublist _)) ?_ | (refine goq1 ?_;try(clear hL;intro w hL))); conv => whnf)
          refine ⟨_, ⟨_, ho2, hL⟩, ?_, ?_⟩
          · repeat (first | exact trivial | (refine And.intro (by (conv => lhs; whnf) <;> (conv => rhs; whnf) <;> (first | rfl)) ?_))
          · repeat (first | exact trivial | (refine And.intro (by (conv => lhs; whnf) <;> (conv => rhs; whnf) <;> (first | rfl)) ?_))
        · conv => whnf
          refine AltReq.one ?_
          conv => whnf
          refine NewReq.mk hL ?_
          clear hL
          intro g w hL
          conv => whnf
          conv => whnf
          repeat ((first | refine SReq.mk (hL.sublist (List.nil_sublist _)) ?_ | (refine goq1 ?_;try(clear hL;intro w hL))); conv => whnf)
          refine RunReq.cat hX 27 5 rfl rfl rfl rfl rfl ho1 how (hL.perm (pm4 _ _ _)) (byte_cells _) (by simp [ints, wideR_len, hl0]) rfl ?_
          clear hL ho1 how
          intro A12 n12 k12 L1 w hn12 ho1 hL
          rw [← ints_append] at ho1
          conv => whnf
          repeat ((first | refine SReq.mk (hL.sublist (List.nil_sublist _)) ?_ | (refine goq1 ?_;try(clear hL;intro w hL))); conv => whnf)
          refine RunReq.push hX 27 5 rfl rfl rfl rfl rfl ho1 (hL.perm (pm3 _ _)) rfl rfl (by simp [ints, wideR_len, hl0]) rfl ?_
          clear hL
          intro A13 n13 k13 L1 w hn13 ho2 hL
          replace ho2 : OwnS 5 1 (.slice A13 n13 k13) (ints .u8 (x0 ++ wideR 2 n1) ++ ints .u8 [(n2 : Int) % 256]) L1 := ho2
          rw [← ints_append, hn1, hn2] at ho2
          conv => whnf
          repeat ((first | refine SReq.mk (hL.sublist (List.nil_sublist _)) ?_ | (refine goq1 ?_;try(clear hL;intro w hL))); conv => whnf)
          refine ⟨_, ⟨_, ho2, hL⟩, ?_, ?_⟩
          · repeat (first | exact trivial | (refine And.intro (by (conv => lhs; whnf) <;> (conv => rhs; whnf) <;> (first | rfl)) ?_))
          · repeat (first | exact trivial | (refine And.intro (by (conv => lhs; whnf) <;> (conv => rhs; whnf) <;> (first | rfl)) ?_))
      · conv => whnf
        refine AltReq.one ?_
        conv => whnf
        refine NewReq.mk hL ?_
        clear hL
        intro g w hL
        conv => whnf
        conv => whnf
        repeat ((first | refine SReq.mk (hL.sublist (List.nil_sublist _)) ?_ | (refine goq1 ?_;try(clear hL;intro w hL))); conv => whnf)
        refine callO (wide_fn m2 _ 2 (by omega)) hL ?_
        clear hL
        intro Aw nw kw Lw w hnw how hL
        conv => whnf
        repeat ((first | refine SReq.mk (hL.sublist (List.nil_sublist _)) ?_ | (refine goq1 ?_;try(clear hL;intro w hL))); conv => whnf)
        refine RunReq.cat hX 27 5 rfl rfl rfl rfl rfl ho1 how (hL.perm (pm5 _ _ _)) (byte_cells _) (by simp [ints, wideR_len, hl0]) rfl ?_
        clear hL ho1 how
        intro A12 n12 k12 L1 w hn12 ho1 hL
        rw [← ints_append] at ho1
        conv => whnf
        repeat ((first | refine SReq.mk (hL.sublist (List.nil_sublist _)) ?_ | (refine goq1 ?_;try(clear hL;intro w hL))); conv => whnf)
        refine RunReq.push hX 27 5 rfl rfl rfl rfl rfl ho1 (hL.perm (pm3 _ _)) rfl rfl (by simp [ints, wideR_len, hl0]) rfl ?_
        clear hL
        intro A13 n13 k13 L1 w hn13 ho2 hL
        replace ho2 : OwnS 5 1 (.slice A13 n13 k13) (ints .u8 (x0 ++ wideR 2 n1) ++ ints .u8 [(n2 : Int) % 256]) L1 := ho2
        rw [← ints_append, hn1, hn2] at ho2
        conv => whnf
        repeat ((first | refine SReq.mk (hL.sublist (List.nil_sublist _)) ?_ | (refine goq1 ?_;try(clear hL;intro w hL))); conv => whnf)
        refine ⟨_, ⟨_, ho2, hL⟩, ?_, ?_⟩
        · repeat (first | exact trivial | (refine And.intro (by (conv => lhs; whnf) <;> (conv => rhs; whnf) <;> (first | rfl)) ?_))
        · repeat (first | exact trivial | (refine And.intro (by (conv => lhs; whnf) <;> (conv => rhs; whnf) <;> (first | rfl)) ?_))
    · clear hL ho1
      rintro u w f2 ⟨L1, ho1, hL⟩
      obtain ⟨A12, n12, k12, rfl, hn12⟩ := ho1.slice
      generalize hx1 : x0 ++ wideR 2 M.states.length ++ [(M.begins.length : Int) % 256] = x1 at ho1
      have hl1 : x1.length = 262 := by rw [← hx1]; simp [wideR_len, hl0]
      have hrl := ruleW_len hru
      clear hl0
      conv => whnf
      repeat ((first | (refine LdReq.one hX rfl rfl hL (by rw [addr_add]; exact c4) ?_) | (refine go1 ?_;try(clear hL;intro w hL))); conv => whnf)
      refine LoopReq.inv hX (fun s : Nat × Value => [(6, s.2), (60, .int .i64 s.1)]) [1, 3, 58, 59]
        (fun s w => s.1 ≤ n2 ∧ ∃ L, OwnS 5 1 s.2 (ints .u8 (x1 ++ bytesW 2 (M.begins.take s.1))) L ∧ Ev.Loc m [] w0 m2 (L ++ []) w) (fun s => n2 - s.1) (0, .slice A12 n12 k12)
        ⟨by omega, L1, by simpa [bytesW] using ho1, hL⟩ ⟨rfl, rfl, trivial⟩ ?_
      clear hL ho1 hn12
      rintro ⟨j, u⟩ w f3 ⟨hj, L1, ho1, hL⟩
      simp only at hj ho1 hL
      obtain ⟨A12, n12, k12, rfl, hn12⟩ := ho1.slice
      refine go ?_;try(clear hL;intro w hL)
      refine BrReq.dec (fun hlt => ?_) (fun hlt => ?_)
      · have hlt' : j < M.begins.length := by simp only at hlt; omega
        obtain ⟨a, rfl, hcell⟩ := hebe j _ (List.getElem?_eq_getElem hlt')
        conv => whnf
        repeat ((first | (refine Idx2Req.mk j a rfl (by simp only at hlt; omega) rfl ?_) | (refine LdReq.one hX rfl rfl hL (by rw [scale_eq, Nat.mul_one]; exact hcell) ?_) | (refine go1 ?_;try(clear hL;intro w hL))); conv => whnf)
        refine callO (wide_fn m2 _ 2 (by omega)) hL ?_
        clear hL
        intro Aw nw kw Lw w hnw how hL
        refine go ?_;try(clear hL;intro w hL)
        refine RunReq.cat hX 27 5 rfl rfl rfl rfl rfl ho1 how hL (byte_cells _) (by simp [ints, wideR_len, hl1, bytesW_len]; omega) rfl ?_
        clear hL ho1 how
        intro A13 n13 k13 L1 w hn13 ho1 hL
        rw [← ints_append, List.append_assoc, ← bytesW_take hlt'] at ho1
        refine go ?_;try(clear hL;intro w hL)
        exact rnd (j + 1, Value.slice A13 n13 k13) ⟨by simp only at hlt ⊢; omega, L1, ho1, hL⟩
      · have ej : j = M.begins.length := by simp only at hlt; omega
        rw [ej, List.take_length] at ho1
        generalize hx2 : x1 ++ bytesW 2 M.begins = x2 at ho1
        have hl2 : x2.length ≤ 1000 := by rw [← hx2]; simp [bytesW_len, hl1]; omega
        clear hl1 hn12
        conv => whnf
        repeat ((first | (refine LdReq.one hX rfl rfl hL (by rw [addr_add]; exact c3) ?_) | (refine go1 ?_;try(clear hL;intro w hL))); conv => whnf)
        refine LoopReq.inv hX (fun s : Nat × Value => [(6, s.2), (72, .int .i64 s.1)]) [1, 3, 70, 71]
          (fun s w => s.1 ≤ n1 ∧ ∃ L, OwnS 5 1 s.2 (ints .u8 (x2 ++ ruleW (M.states.take s.1))) L ∧ Ev.Loc m [] w0 m2 (L ++ []) w) (fun s => n1 - s.1) (0, .slice A12 n12 k12)
          ⟨by omega, L1, by simpa [ruleW] using ho1, hL⟩ ⟨rfl, rfl, trivial⟩ ?_
        clear hL ho1 ej hlt hj
        rintro ⟨j, u⟩ w f4 ⟨hj, L1, ho1, hL⟩
        simp only at hj ho1 hL
        obtain ⟨A12, n12, k12, rfl, hn12⟩ := ho1.slice
        refine go ?_;try(clear hL;intro w hL)
        refine BrReq.dec (fun hlt => ?_) (fun hlt => ?_)
        · have hlt' : j < M.states.length := by simp only at hlt; omega
          obtain ⟨a, ss, rfl, hl2', hcells, nx, ru, rfl, hsn, hsr⟩ := hest j _ (List.getElem?_eq_getElem hlt')
          have hsn' := hsn
          have hsr' := hsr
          obtain ⟨A3, n3, k3, rfl, -⟩ := hsn'
          obtain ⟨A4, n4, k4, rfl, hn4, -⟩ := hsr'
          have hesr := hsr.cell.2
          have hr16 := hru _ (List.getElem_mem hlt')
          have htk := ruleW_take hlt'
          have hrj := ruleW_len (l := M.states.take j) fun s hs => hru s (List.mem_of_mem_take hs)
          rw [List.length_take] at hrj
          conv => whnf
          repeat ((first | (refine Idx2Req.mk j a rfl (by simp only at hlt; omega) rfl ?_) | refine LdReq.agg hX rfl rfl hL hl2' hcells ?_ | (refine go1 ?_;try(clear hL;intro w hL))); conv => whnf)
          refine NewReq.mk hL ?_
          clear hL
          intro b10 w hL
          conv => whnf
          refine go ?_;try(clear hL;intro w hL)
          replace hL := hL.drop
          refine LoopReq.inv hX (fun s : Nat × Value => [(6, s.2), (79, .int .i64 s.1)]) [1, 3, 70, 71, 72, 77, 78]
            (fun s w => s.1 ≤ n4 ∧ ∃ L, OwnS 5 1 s.2 (ints .u8 (x2 ++ ruleW (M.states.take j) ++ (M.states[j].rule.take s.1).map (· % 256))) L ∧ Ev.Loc m [] w0 m2 (L ++ []) w) (fun s => n4 - s.1) (0, .slice A12 n12 k12)
            ⟨by omega, L1, by simpa using ho1, hL⟩ ⟨rfl, rfl, trivial⟩ ?_
          clear hL ho1 hn12
          rintro ⟨i, u⟩ w f5 ⟨hi, L1, ho1, hL⟩
          simp only at hi ho1 hL
          obtain ⟨A12, n12, k12, rfl, hn12⟩ := ho1.slice
          refine go ?_;try(clear hL;intro w hL)
          refine BrReq.dec (fun hlt2 => ?_) (fun hlt2 => ?_)
          · have hlt2' : i < M.states[j].rule.length := by simp only at hlt2; omega
            obtain ⟨a4, rfl, hcell⟩ := hesr i _ (List.getElem?_eq_getElem hlt2')
            conv => whnf
            repeat ((first | (refine Idx2Req.mk i a4 rfl (by simp only at hlt2; omega) rfl ?_) | (refine LdReq.one hX rfl rfl hL (by rw [scale_eq, Nat.mul_one]; exact hcell) ?_) | refine ArReq.as (wrap_u8 _) ?_ | (refine go1 ?_;try(clear hL;intro w hL))); conv => whnf)
            refine NewReq.mk hL ?_
            clear hL
            intro g w hL
            conv => whnf
            refine go ?_;try(clear hL;intro w hL)
            refine RunReq.push hX 27 5 rfl rfl rfl rfl rfl ho1 hL rfl rfl (by simp [ints]; omega) rfl ?_
            clear hL
            intro A13 n13 k13 L1 w hn13 ho2 hL
            replace ho2 : OwnS 5 1 (.slice A13 n13 k13) (ints .u8 (x2 ++ ruleW (M.states.take j) ++ (M.states[j].rule.take i).map (· % 256)) ++ ints .u8 ([M.states[j].rule[i]].map (· % 256))) L1 := ho2
            rw [← ints_append, List.append_assoc, ← List.map_append, ← List.take_succ_eq_append_getElem hlt2'] at ho2
            refine go ?_;try(clear hL;intro w hL)
            exact rnd (i + 1, Value.slice A13 n13 k13) ⟨by simp only at hlt2 ⊢; omega, L1, ho2, hL⟩
          · have ei : i = M.states[j].rule.length := by simp only at hlt2; omega
            rw [ei, List.take_length, List.append_assoc, ← htk] at ho1
            refine go ?_;try(clear hL;intro w hL)
            exact rnd (j + 1, Value.slice A12 n12 k12) ⟨by simp only at hlt ⊢; omega, L1, ho1, hL⟩
        · have ej : j = M.states.length := by simp only at hlt; omega
          rw [ej, List.take_length] at ho1
          clear ej hlt hj hn12
          generalize hx3 : x2 ++ ruleW M.states = x3 at ho1
          have hl3 : x3.length ≤ 40000 := by rw [← hx3, List.length_append]; omega
          conv => whnf
          repeat ((first | (refine LdReq.one hX rfl rfl hL (by rw [addr_add]; exact hv1) ?_) | (refine go1 ?_;try(clear hL;intro w hL))); conv => whnf)
          refine callO (wide_fn m2 _ 4 (by omega)) hL ?_
          clear hL
          intro Aw nw kw Lw w hnw how hL
          refine go ?_;try(clear hL;intro w hL)
          refine RunReq.cat hX 27 5 rfl rfl rfl rfl rfl ho1 how hL (byte_cells _) (by simp [ints, wideR_len]; omega) rfl ?_
          clear hL ho1 how
          intro A13 n13 k13 L1 w hn13 ho1 hL
          rw [← ints_append, hn5] at ho1
          generalize hx4 : x3 ++ wideR 4 pc.length = x4 at ho1
          have hl4 : x4.length ≤ 40004 := by rw [← hx4, List.length_append, wideR_len]; omega
          conv => whnf
          repeat ((first | (refine LdReq.one hX rfl rfl hL (by rw [addr_add]; exact c3) ?_) | (refine go1 ?_;try(clear hL;intro w hL))); conv => whnf)
          refine LoopReq.inv hX (fun s : Nat × Value => [(6, s.2), (101, .int .i64 s.1)]) [3, 100]
            (fun s w => s.1 ≤ n1 ∧ ∃ L, OwnS 5 1 s.2 (ints .u8 (x4 ++ headW (pb.take s.1) (pd.take s.1))) L ∧ Ev.Loc m [] w0 m2 (L ++ []) w) (fun s => n1 - s.1) (0, .slice A13 n13 k13)
            ⟨by omega, L1, by simpa [headW] using ho1, hL⟩ ⟨rfl, rfl, trivial⟩ ?_
          clear hL ho1 hn13
          rintro ⟨j, u⟩ w f5 ⟨hj, L1, ho1, hL⟩
          simp only at hj ho1 hL
          obtain ⟨A12, n12, k12, rfl, hn12⟩ := ho1.slice
          have hhl : (headW (pb.take j) (pd.take j)).length = j * 6 := by rw [headW_len _ _ (by simp; omega), List.length_take]; congr 1; omega
          refine go ?_;try(clear hL;intro w hL)
          refine BrReq.dec (fun hlt => ?_) (fun hlt => ?_)
          · have hltb : j < pb.length := by simp only at hlt; omega
            have hltd : j < pd.length := by simp only at hlt; omega
            obtain ⟨a6, rfl, hcb⟩ := hesb j _ (List.getElem?_eq_getElem hltb)
            obtain ⟨a7, rfl, hcd⟩ := hesd j _ (List.getElem?_eq_getElem hltd)
            have htk := headW_take hltb hltd
            refine go ?_;try(clear hL;intro w hL)
            refine DrawReq.plan hX (.fst 0 (.fst 1 (.fst 2 (.fst 3 (.fst 4 (.fst 5 (.fst 6 (.fst 7 (.fst 10 (.fst 11 (.fst 12 (.fst 13 (.fst 14 (.fst 15 (.fst 16 (.alt 8 (.alt 9 (.alt 17 (.alt 18 (.fst 19 (.done)) (.stop)) (.stop)) (.stop)) (.stop))))))))))))))))) [] (by kernel_rfl) (by kernel_rfl) hL (fun h => h.sublist (List.nil_sublist _)) ?_
            clear hL
            intro w hL
            conv => whnf
            repeat ((first | (refine QLdReq.one hX rfl rfl (by rw [addr_add]; exact hv2) ?_) | (refine QLdReq.one hX rfl rfl (by rw [addr_add]; exact hv3) ?_) | (refine Idx2Req.mk j a6 rfl (by simp only at hlt; omega) rfl ?_) | (refine Idx2Req.mk j a7 rfl (by simp only at hlt; omega) rfl ?_) | (refine QLdReq.one hX rfl rfl (by rw [scale_eq, Nat.mul_one]; exact hcb) ?_) | (refine QLdReq.one hX rfl rfl (by rw [scale_eq, Nat.mul_one]; exact hcd) ?_) | (refine goq1 ?_;try(clear hL;intro w hL))); conv => whnf)
            refine callO (wide_fn m2 _ 4 (by omega)) hL ?_
            clear hL
            intro Aw nw kw Lw w hnw how hL
            conv => whnf
            repeat ((first | refine SReq.mk (hL.sublist (List.nil_sublist _)) ?_ | (refine goq1 ?_;try(clear hL;intro w hL))); conv => whnf)
            refine RunReq.cat hX 27 5 rfl rfl rfl rfl rfl ho1 how hL (byte_cells _) (by simp [ints, wideR_len, hhl]; omega) rfl ?_
            clear hL ho1 how
            intro A13 n13 k13 L1 w hn13 ho1 hL
            rw [← ints_append] at ho1
            conv => whnf
            repeat ((first | refine SReq.mk (hL.sublist (List.nil_sublist _)) ?_ | (refine goq1 ?_;try(clear hL;intro w hL))); conv => whnf)
            refine callO (wide_fn m2 _ 2 (by omega)) hL ?_
            clear hL
            intro Aw nw kw Lw w hnw how hL
            conv => whnf
            repeat ((first | refine SReq.mk (hL.sublist (List.nil_sublist _)) ?_ | (refine goq1 ?_;try(clear hL;intro w hL))); conv => whnf)
            refine RunReq.cat hX 27 5 rfl rfl rfl rfl rfl ho1 how hL (byte_cells _) (by simp [ints, wideR_len, hhl]; omega) rfl ?_
            clear hL ho1 how
            intro A14 n14 k14 L1 w hn14 ho1 hL
            rw [← ints_append, List.append_assoc, List.append_assoc, ← List.append_assoc (headW _ _), ← htk] at ho1
            conv => whnf
            repeat ((first | refine SReq.mk (hL.sublist (List.nil_sublist _)) ?_ | (refine goq1 ?_;try(clear hL;intro w hL))); conv => whnf)
            refine go ?_;try(clear hL;intro w hL)
            exact rnd (j + 1, Value.slice A14 n14 k14) ⟨by simp only at hlt ⊢; omega, L1, ho1, hL⟩
          · have ej : j = n1 := by simp only at hlt; omega
            rw [ej] at ho1 hhl
            rw [List.take_of_length_le (by omega), List.take_of_length_le (by omega)] at ho1 hhl
            clear ej hlt hj hn12
            generalize hx5 : x4 ++ headW pb pd = x5 at ho1
            have hl5 : x5.length ≤ 60000 := by rw [← hx5, List.length_append]; omega
            conv => whnf
            repeat ((first | (refine LdReq.one hX rfl rfl hL (by rw [addr_add]; exact hv1) ?_) | (refine go1 ?_;try(clear hL;intro w hL))); conv => whnf)
            refine LoopReq.inv hX (fun s : Nat × Value => [(6, s.2), (129, .int .i64 s.1)]) [127, 128]
              (fun s w => s.1 ≤ n5 ∧ ∃ L, OwnS 5 1 s.2 (ints .u8 (x5 ++ cellW (pc.take s.1))) L ∧ Ev.Loc m [] w0 m2 (L ++ []) w) (fun s => n5 - s.1) (0, .slice A12 n12 k12)
              ⟨by omega, L1, by simpa [cellW] using ho1, hL⟩ ⟨rfl, rfl, trivial⟩ ?_
            clear hL ho1
            rintro ⟨j, u⟩ w f6 ⟨hj, L1, ho1, hL⟩
            simp only at hj ho1 hL
            obtain ⟨A12, n12, k12, rfl, hn12⟩ := ho1.slice
            have hhl2 : (cellW (pc.take j)).length = j * 4 := by rw [cellW_len, List.length_take]; congr 1; omega
            refine go ?_;try(clear hL;intro w hL)
            refine BrReq.dec (fun hlt => ?_) (fun hlt => ?_)
            · have hltc : j < pc.length := by simp only at hlt; omega
              obtain ⟨a5, cc, rfl, hl2', hcells, rfl⟩ := hesc j _ (List.getElem?_eq_getElem hltc)
              have htk := cellW_take hltc
              conv => whnf
              repeat ((first | (refine Idx2Req.mk j a5 rfl (by simp only at hlt; omega) rfl ?_) | refine LdReq.agg hX rfl rfl hL hl2' hcells ?_ | (refine go1 ?_;try(clear hL;intro w hL))); conv => whnf)
              refine NewReq.mk hL ?_
              clear hL
              intro b15 w hL
              conv => whnf
              refine go ?_;try(clear hL;intro w hL)
              replace hL : Ev.Loc m [] w0 m2 ((b15, .cells (toArr [.int .i64 pc[j].1, .int .i64 pc[j].2]) 230 (0, 0)) :: (L1 ++ [])) w := hL
              refine DrawReq.plan hX (.fst 0 (.fst 1 (.fst 2 (.fst 5 (.fst 6 (.alt 3 (.alt 4 (.alt 7 (.alt 8 (.fst 9 (.done)) (.stop)) (.stop)) (.stop)) (.stop))))))) [(b15, .cells (toArr [.int .i64 pc[j].1, .int .i64 pc[j].2]) 230 (0, 0))] (by kernel_rfl) (by kernel_rfl) hL (fun h => h.one 0 rfl) ?_
              clear hL
              intro w hL
              refine goq ?_;try(clear hL;intro w hL)
              refine callO (wide_fn m2 _ 2 (by omega)) hL ?_
              clear hL
              intro Aw nw kw Lw w hnw how hL
              conv => whnf
              repeat ((first | refine SReq.mk (hL.dropN.one 0 rfl) ?_ | (refine goq1 ?_;try(clear hL;intro w hL))); conv => whnf)
              refine RunReq.cat hX 27 5 rfl rfl rfl rfl rfl ho1 how (L2 := [_]) (hL.perm (pm5 _ _ _)) (byte_cells _) (by simp [ints, wideR_len, hhl2]; omega) rfl ?_
              clear hL ho1 how
              intro A13 n13 k13 L1 w hn13 ho1 hL
              rw [← ints_append] at ho1
              conv => whnf
              repeat ((first | refine SReq.mk hL.dropN ?_ | (refine goq1 ?_;try(clear hL;intro w hL))); conv => whnf)
              refine callO (wide_fn m2 _ 2 (by omega)) hL ?_
              clear hL
              intro Aw nw kw Lw w hnw how hL
              conv => whnf
              repeat ((first | refine SReq.mk hL.dropN.dropN ?_ | (refine goq1 ?_;try(clear hL;intro w hL))); conv => whnf)
              refine RunReq.cat hX 27 5 rfl rfl rfl rfl rfl ho1 how hL (byte_cells _) (by simp [ints, wideR_len, hhl2]; omega) rfl ?_
              clear hL ho1 how
              intro A14 n14 k14 L1 w hn14 ho1 hL
              rw [← ints_append, List.append_assoc, List.append_assoc, ← List.append_assoc (cellW _), ← htk] at ho1
              conv => whnf
              repeat ((first | refine SReq.mk hL.dropN ?_ | (refine goq1 ?_;try(clear hL;intro w hL))); conv => whnf)
              replace hL := (hL.perm (pm3 _ _)).drop
              refine go ?_;try(clear hL;intro w hL)
              exact rnd (j + 1, Value.slice A14 n14 k14) ⟨by simp only at hlt ⊢; omega, L1, ho1, hL⟩
            · have ej : j = pc.length := by simp only at hlt; omega
              rw [ej, List.take_length] at ho1
              have hfin : x5 ++ cellW pc = bodyR M := by
                unfold bodyR
                rw [← hn1, hpk, ← hx5, ← hx4, ← hx3, ← hx2, ← hx1, ← hx0, hn1]
              rw [hfin] at ho1
              refine go ?_;try(clear hL;intro w hL)
              rw [List.append_nil] at hL
              exact RetReq.mk (hL.weaken (hle.trans hm2') (Mem.Le.refl m)) ⟨rfl, ho1⟩
end Go.Proofs.YtloofgoblodeiaaGreatDoor.mach
namespace Go.Proofs.YtloofgoblodeiaaGreatDoor.mach
open Go Go.Ev Go.Proofs Go.Proofs.YtloofgoblodeiaaGreatDoor.crc
def okM (M : Mc) : Bool := rightM M && (decide (M.states.length ≤ 2000) && decide (M.begins.length ≤ 255))
noncomputable def sealR (b : List Int) : List Int := [66, 76, 84, 49] ++ wideR 4 (12 + b.length) ++ wideR 4 (crcR b : Nat) ++ b
noncomputable def packR (M : Mc) : List Int := sealR (bodyR M)
theorem clsGo_pos : ∀ (l : List Int) (n : Int), 0 < l.length → (∀ z ∈ l, 0 ≤ z) → clsGo l 0 = some n → 1 ≤ n
  | [], _, h, _, _ => by simp at h
  | x :: l, n, _, hb, h => by
    have h0 := hb x (by simp)
    simp only [clsGo] at h
    split at h
    · cases h
    · rw [if_pos (by omega)] at h
      have := clsGo_lt l _ _ h
      omega
structure Fits (M : Mc) : Prop where
  looks : 0 ≤ M.looks ∧ M.looks ≤ 4
  n : 1 ≤ M.n ∧ M.n ≤ 256
  states : 1 ≤ M.states.length ∧ M.states.length ≤ 2000
  begins : 1 ≤ M.begins.length ∧ M.begins.length ≤ 255
  next : ∀ s ∈ M.states, (s.next.length : Int) = 2 ^ M.looks.toNat * M.n ∧ 0 < s.next.length ∧ s.next.length ≤ 10000
  rule : ∀ s ∈ M.states, (s.rule.length : Int) = 2 ^ M.looks.toNat ∧ s.rule.length ≤ 16
  rules : ∀ s ∈ M.states, ∀ r ∈ s.rule, -1 ≤ r ∧ r < 30
  nexts : ∀ s ∈ M.states, ∀ k ∈ s.next, 0 ≤ k ∧ k < 2000
  begin_ : ∀ k ∈ M.begins, 0 ≤ k ∧ k < 2000
theorem Fits.of {M : Mc} (hlen : M.of.length = 256) (hb : ∀ z ∈ M.of, 0 ≤ z ∧ z ≤ 255) (h : okM M = true) : Fits M := by
  unfold okM rightM at h
  simp only [Bool.and_eq_true, decide_eq_true_eq, List.all_eq_true] at h
  obtain ⟨⟨⟨⟨h1, h2, h3⟩, h4, h5⟩, h6, h7⟩, h8, h9⟩ := h
  have hc := of_decide_eq_true h1
  have hn1 := clsGo_pos _ _ (by omega) (fun z hz => (hb z hz).1) hc
  have hn2 := clsGo_lt _ _ _ hc
  obtain ⟨p1, p2, -⟩ := pow_looks h2 h3
  generalize hpw : (2 : Int) ^ M.looks.toNat = pw at p1 p2
  have hm1 : 1 * 1 ≤ pw * M.n := Int.mul_le_mul p1 hn1 (by omega) (by omega)
  have hm2 : pw * M.n ≤ 16 * 256 := Int.mul_le_mul p2 (by omega) (by omega) (by omega)
  have hs : ∀ s ∈ M.states, ((s.rule.length : Int) = pw ∧ (s.next.length : Int) = pw * M.n) ∧ (∀ r ∈ s.rule, -1 ≤ r ∧ r < 30) ∧ ∀ k ∈ s.next, 0 ≤ k ∧ k < (M.states.length : Int) := by
    intro s hs
    have := h6 s hs
    unfold rightSt at this
    simp only [Bool.and_eq_true, decide_eq_true_eq, List.all_eq_true, hpw] at this
    exact this
  refine ⟨⟨h2, h3⟩, ⟨hn1, by omega⟩, ⟨h4, h8⟩, ⟨h5, h9⟩, fun s hs' => ?_, fun s hs' => ?_, fun s hs' => (hs s hs').2.1, fun s hs' k hk => ?_, fun k hk => ?_⟩
  · obtain ⟨⟨a, b⟩, _⟩ := hs s hs'
    rw [hpw]
    exact ⟨b, by omega, by omega⟩
  · obtain ⟨⟨a, b⟩, _⟩ := hs s hs'
    rw [hpw]
    exact ⟨a, by omega⟩
  · have := (hs s hs').2.2 k hk; omega
  · have := h7 k hk; omega
theorem mem_flat_byte {α : Type} {l : List α} {f : α → List Int} (h : ∀ x ∈ l, ∀ z ∈ f x, 0 ≤ z ∧ z ≤ 255) : ∀ z ∈ (l.map f).flatten, 0 ≤ z ∧ z ≤ 255 := by
  intro z hz
  obtain ⟨r, hr, hz⟩ := List.mem_flatten.1 hz
  obtain ⟨x, hx, rfl⟩ := List.mem_map.1 hr
  exact h x hx z hz
theorem two_bytes {a b : List Int} (h : ∀ z ∈ a, 0 ≤ z ∧ z ≤ 255) (k : ∀ z ∈ b, 0 ≤ z ∧ z ≤ 255) : ∀ z ∈ a ++ b, 0 ≤ z ∧ z ≤ 255 := fun z hz => (List.mem_append.1 hz).elim (h z) (k z)
theorem bodyR_byte (M : Mc) (hb : ∀ z ∈ M.of, 0 ≤ z ∧ z ≤ 255) : ∀ z ∈ bodyR M, 0 ≤ z ∧ z ≤ 255 := by
  unfold bodyR
  refine two_bytes (two_bytes (two_bytes (two_bytes (two_bytes (two_bytes (two_bytes (two_bytes (two_bytes (wideR_byte _ _) (wideR_byte _ _)) hb) (wideR_byte _ _)) ?_) ?_) ?_) (wideR_byte _ _)) ?_) ?_
  · intro z hz; simp only [List.mem_singleton] at hz; omega
  · exact mem_flat_byte fun x _ => wideR_byte 2 x
  · refine mem_flat_byte fun s _ z hz => ?_
    obtain ⟨r, _, rfl⟩ := List.mem_map.1 hz
    omega
  · exact mem_flat_byte fun x _ => two_bytes (wideR_byte _ _) (wideR_byte _ _)
  · exact mem_flat_byte fun x _ => two_bytes (wideR_byte _ _) (wideR_byte _ _)
theorem bodyR_len (M : Mc) (hl : M.of.length = 256) (h : Fits M) : (bodyR M).length ≤ 100000000 := by
  obtain ⟨h1, h2, h3⟩ := packTo_len (fun s hs => (h.next s hs).2.2) M.states.length (Nat.le_refl _)
  have h4 := ruleW_len fun s hs => (h.rule s hs).2
  have h5 := h.states
  have h6 := h.begins
  unfold bodyR
  simp only [List.length_append, wideR_len, bytesW_len, cellW_len, headW_len _ _ (h2.trans h3.symm), hl, List.length_cons, List.length_nil]
  rw [h2]
  omega
theorem crcR_range (l : List Int) (h : ∀ z ∈ l, 0 ≤ z ∧ z ≤ 255) : crcR l < 4294967296 := by
  unfold crcR
  exact Nat.xor_lt_two_pow (n := 32) (fold_lt l _ (by decide) h) (by decide)
set_option maxHeartbeats 2000000 in
set_option maxRecDepth 100000 in
theorem pack_fn (m : Mem) (cs : List Value) (M : Mc) (hM : McV m cs M) :
    Ev.Fn Tryz.prog 20 [.agg (toArr cs)] m [] fun m' L' u => m' = m ∧ ((okM M = true ∧ ∃ v, u = .tuple (toArr [v, .int .i64 0]) ∧ OwnS 5 1 v (ints .u8 (packR M)) L') ∨ (okM M = false ∧ u = .tuple (toArr [.slice none 0 0, .int .i64 1]) ∧ L' = [])) := by
  have hmx : maxLen = 9223372036854775807 := rfl
  have hlen := hM.len
  have hsz := hM.size
  refine Fn.enter (N := 39) hX Tryz.func20 rfl rfl (by show _ ≤ _; simp) (fun w0 hL => ?_)
  conv => whnf
  refine NewReq.mk hL ?_
  clear hL
  intro b1 w hL
  replace hL : Ev.Loc m [] w0 m [(b1, .cells (toArr cs) 48 (0, 0))] w := hL
  have hle := hL.le_add
  have hB := McB.freeze hM hL
  replace hL := hL.freeze
  generalize Mem.add m b1 _ = m1 at hL hB hle
  obtain ⟨st, be, hsts, hbes, c1, c2, c3, c4, hcl, hMv, hMc⟩ := hB.at_
  obtain ⟨A1, n1, k1, rfl, hn1, hk1, hm1, -⟩ := hsts
  obtain ⟨A2, n2, k2, rfl, hn2, hk2, hm2, -⟩ := hbes
  conv => whnf
  conv => whnf
  repeat ((first | refine LdReq.agg hX rfl rfl hL hMv.size hMc ?_ | (refine go1 ?_;try(clear hL;intro w hL))); conv => whnf)
  refine CallReq.val (right_fn m1 _ M hMv) hL ?_
  clear hL
  intro w hL
  refine go ?_;try(clear hL;intro w hL)
  have bad : okM M = false → RetReq m [] w0 (fun m' L' u => m' = m ∧ ((okM M = true ∧ ∃ v, u = .tuple (toArr [v, .int .i64 0]) ∧ OwnS 5 1 v (ints .u8 (packR M)) L') ∨ (okM M = false ∧ u = .tuple (toArr [.slice none 0 0, .int .i64 1]) ∧ L' = []))) (.tuple (toArr [.slice none 0 0, .int .i64 1])) w :=
    fun h => RetReq.mk (hL.weaken hle (Mem.Le.refl m)) ⟨rfl, .inr ⟨h, rfl, rfl⟩⟩
  refine BrReq.not ?_
  refine BrReq.bool (fun h1 => ?_) (fun h1 => ?_)
  · conv => whnf
    repeat ((first | (refine LdReq.one hX rfl rfl hL (by rw [addr_add]; exact c3) ?_) | (refine go1 ?_;try(clear hL;intro w hL))); conv => whnf)
    refine BrReq.dec (fun h2 => ?_) (fun h2 => ?_)
    · refine go ?_;try(clear hL;intro w hL)
      exact bad (by unfold okM; rw [h1, decide_eq_false (show ¬ M.states.length ≤ 2000 by omega)]; rfl)
    · conv => whnf
      repeat ((first | (refine LdReq.one hX rfl rfl hL (by rw [addr_add]; exact c4) ?_) | (refine go1 ?_;try(clear hL;intro w hL))); conv => whnf)
      refine BrReq.dec (fun h3 => ?_) (fun h3 => ?_)
      · refine go ?_;try(clear hL;intro w hL)
        exact bad (by unfold okM; rw [h1, decide_eq_false (show ¬ M.begins.length ≤ 255 by omega), Bool.and_false]; rfl)
      · have hok : okM M = true := by unfold okM; rw [h1, decide_eq_true (show M.states.length ≤ 2000 by omega), decide_eq_true (show M.begins.length ≤ 255 by omega)]; rfl
        have hF := Fits.of hlen hM.byt hok
        have hbl := bodyR_len M hlen hF
        have hbb := bodyR_byte M hM.byt
        have hcr := crcR_range _ hbb
        clear bad
        conv => whnf
        repeat ((first | refine LdReq.agg hX rfl rfl hL hMv.size hMc ?_ | (refine go1 ?_;try(clear hL;intro w hL))); conv => whnf)
        refine callO (body_fn m1 _ M hMv hF.states.2 hF.begins.2 (fun s hs => (hF.next s hs).2) (fun s hs => (hF.rule s hs).2)) hL ?_
        clear hL
        intro A3 n3 k3 L1 w hn3 ho1 hL
        have hn3' : n3 = (bodyR M).length := by simp [ints] at hn3; omega
        obtain ⟨m2, hL, hm2', hsb⟩ := ho1.freeze hL
        refine go ?_;try(clear hL;intro w hL)
        refine NewReq.mk hL ?_
        clear hL
        intro g w hL
        conv => whnf
        replace hL : Ev.Loc m [] w0 m2 [(g, .cells (toArr (ints .u8 [66, 76, 84, 49])) 5 (0, 0))] w := hL
        refine go ?_;try(clear hL;intro w hL)
        refine RunReq.bytesConst hX rfl rfl rfl rfl 0 hL rfl ?_
        clear hL
        intro w hL
        replace hL : Ev.Loc m [] w0 m2 [(g, .cells (toArr (ints .u8 [66, 76, 84, 49])) 5 (4, 5))] w := hL
        refine go ?_;try(clear hL;intro w hL)
        refine callO (wide_fn m2 _ 4 (by omega)) hL ?_
        clear hL
        intro Aw nw kw Lw w hnw how hL
        rw [show (ints .u8 (wideR 4 _)).length = 4 from by simp [ints, wideR_len]] at hnw
        refine go ?_;try(clear hL;intro w hL)
        refine RunReq.appendNew hX (t := 27) (te := 5) rfl rfl rfl rfl rfl rfl hL (olds := ints .u8 [66, 76, 84, 49]) rfl (fun j u hu => by
            obtain ⟨a, e, h⟩ := hL.dropN.src 0 rfl j u hu
            cases e; exact h) (by simp [ints, wideR_len]; omega) (how.src hL) (by omega) (by omega) (by omega) ?_
        clear hL
        intro A4 n4 k4 L1 w hn4 ho1 hL
        replace hL := (Loc.back hL).dropN
        rw [← ints_append] at ho1
        refine go ?_;try(clear hL;intro w hL)
        refine CallReq.val (CRC_fn m2 _ _ hsb hbb) hL ?_
        clear hL
        intro w hL
        refine go ?_;try(clear hL;intro w hL)
        refine callO (wide_fn m2 _ 4 (by omega)) hL ?_
        clear hL
        intro Ax nx kx Lx w hnx hox hL
        rw [← List.append_nil L1] at hL
        refine go ?_;try(clear hL;intro w hL)
        refine RunReq.cat hX 27 5 rfl rfl rfl rfl rfl ho1 hox hL (byte_cells _) (by simp [ints, wideR_len]) rfl ?_
        clear hL ho1 hox
        intro A5 n5 k5 L1 w hn5 ho1 hL
        rw [← ints_append] at ho1
        refine go ?_;try(clear hL;intro w hL)
        refine RunReq.append hX 27 5 rfl rfl rfl rfl rfl ho1 hL (k := n3) (news := ints .u8 (bodyR M)) (by simp [ints]; omega) (hsb.src hL).2 (byte_cells _) (by simp [ints, wideR_len]; omega) rfl ?_
        clear hL ho1
        intro A6 n6 k6 L1 w hn6 ho1 hL
        rw [← ints_append, hn3'] at ho1
        rw [List.append_nil] at hL
        refine go ?_;try(clear hL;intro w hL)
        exact RetReq.mk (hL.weaken (hle.trans hm2') (Mem.Le.refl m)) ⟨rfl, .inl ⟨hok, _, rfl, ho1⟩⟩
  · refine go ?_;try(clear hL;intro w hL)
    exact bad (by unfold okM; rw [h1]; rfl)
end Go.Proofs.YtloofgoblodeiaaGreatDoor.mach
namespace Go.Ev
open Go
theorem CallReq.lendFn {P : Program} {m0 m : Mem} {S : List Nat} {w0 w : World} {L : Own} {f : Nat} {args : List Value} {Post : Mem → Own → Value → Prop} {K : Value → World → Prop} {mm : Mem} (h : Fn P f args mm [] Post) (hmm : ∀ b o, mm b = some o → w.heap[b]? = some o) (hL : Loc m0 S w0 m L w)
    (k : ∀ v m' L' w', Post m' L' v → Loc m0 S w0 m (L' ++ L) w' → K v w') : CallReq P f (toArr args) w K := by
  constructor
  have hp : Pre mm [] w := ⟨hmm, fun b o _ hm => by simp [keys] at hm, fun x hx => by simp at hx, by simp [keys]⟩
  refine (h w hp).mono fun e w' ⟨v, m', L', he, hl, hq⟩ => ?_
  subst he
  have hsame : ∀ b, b < w.heap.size → w'.heap[b]? = w.heap[b]? := fun b hb => hl.fr b hb (by simp [keys])
  have hnew : ∀ b ∈ keys L', w.heap.size ≤ b := fun b hb => (hl.new b hb).resolve_right (by simp [keys])
  refine k v m' L' w' hq ⟨hl.os.trans hL.os, hl.tape.trans hL.tape, hl.output.trans hL.output, Nat.le_trans hL.size hl.size, fun q hq hs => ?_, fun b o hb => ?_, fun b o hb hc => ?_, fun x hx => ?_, ?_, fun b hb => ?_, hL.le, hL.mnew⟩
  · rw [hsame q (Nat.lt_of_lt_of_le hq hL.size)]; exact hL.fr q hq hs
  · have := hL.sub b o hb
    rw [hsame b (heap_lt this)]; exact this
  · rw [keys_append] at hc
    rcases List.mem_append.1 hc with hc | hc
    · have h1 := hnew b hc
      have h2 := heap_lt (hL.sub b o hb)
      omega
    · exact hL.apart b o hb hc
  · rcases List.mem_append.1 hx with hx | hx
    · exact hl.own x hx
    · have := hL.own x hx
      rw [hsame _ (heap_lt this)]; exact this
  · rw [keys_append, List.nodup_append]
    refine ⟨hl.nodup, hL.nodup, fun a ha b hb => ?_⟩
    rintro rfl
    have h1 := hnew a ha
    obtain ⟨o, ho⟩ := mem_keys.1 hb
    have h2 := heap_lt (hL.own _ ho)
    dsimp only at h2
    omega
  · rw [keys_append] at hb
    rcases List.mem_append.1 hb with hb | hb
    · exact .inl (Nat.le_trans hL.size (hnew b hb))
    · exact hL.new b hb
end Go.Ev
namespace Go.Proofs.YtloofgoblodeiaaGreatDoor.am
open Go Go.Ev Go.Proofs Go.Proofs.YtloofgoblodeiaaGreatDoor.co
noncomputable section
def memH (w : World) : Mem := fun b => w.heap[b]?
def exI (M : Mm) (v : Value) (k : List Int → Bool) : Bool := match v with
  | .slice none 0 0 => k []
  | .slice (some ⟨g, 0, none⟩) n 0 => match M.get (pth g) with
    | some (.cs _ _ cells _ _) => takeK n cells fun l => toI .i64 l k
    | _ => false
  | _ => false
theorem lend_at {m0 : Mem} {S : List Nat} {w0 : World} {c : Cf} (h : Ok m0 S w0 c) {g b kb ty sz st : Nat} {cells : List Value} {opn : Bool} (hι : c.ι g = some (b, kb)) (hg : c.M.get (pth g) = some (.cs ty sz cells opn st)) :
    kb ≤ maxLen ∧ ∃ pre, VRL c.ι cells pre ∧ ∀ (j : Nat) (u : Value), pre[j]? = some u → mcell (memH c.w) ⟨b, j, none⟩ = some u := by
  obtain ⟨pre, rest, p1, p2, p3, p4, p5⟩ := own_at h hι hg
  refine ⟨p4, pre, p1, fun j u hu => ?_⟩
  have := h.loc.own _ p5
  unfold mcell memH
  rw [this]
  simp only [ocell, toArr, List.getElem?_toArray]
  rw [List.getElem?_append_left (List.getElem?_eq_some_iff.1 hu).1]
  exact hu
theorem exI_out {m0 : Mem} {S : List Nat} {w0 : World} {c : Cf} (h : Ok m0 S w0 c) {v v' : Value} {k : List Int → Bool} (hv : VR c.ι v v') (he : exI c.M v k = true) : ∃ xs, k xs = true ∧ SlI (memH c.w) .i64 v' xs := by
  unfold exI at he
  split at he
  · obtain ⟨-, -, rfl⟩ := hv.slc_nil
    exact ⟨[], he, Sl.nil _ _ _⟩
  · rename_i g n
    obtain ⟨b, kb, hι, -, hdn, rfl⟩ := hv.slc_out rfl
    split at he
    case h_2 => cases he
    rename_i ty sz cells opn st hg
    obtain ⟨q1, q2⟩ := takeK_out he
    obtain ⟨xs, q3, q4⟩ := toI_out q2
    obtain ⟨hk, pre, p1, p2⟩ := lend_at h hι hg
    have hxl : xs.length = n := by have := congrArg List.length q4; rw [List.length_take, Nat.min_eq_left q1] at this; simpa [ints] using this.symm
    refine ⟨xs, q3, some ⟨b, 0, none⟩, n, kb, rfl, hxl.symm, by omega, hk, fun i x hi => ⟨_, [.int .i64 x], rfl, rfl, fun j u hj => ?_, rfl⟩⟩
    have hj0 : j = 0 ∧ u = .int .i64 x := by cases j <;> simp_all
    obtain ⟨rfl, rfl⟩ := hj0
    have hil := (List.getElem?_eq_some_iff.1 hi).1
    rw [scale_eq, Nat.mul_one, addr_add, addr_add, Nat.zero_add, Nat.add_zero]
    have hc : cells[i]? = some (.int .i64 x) := by
      have : (cells.take n)[i]? = some (.int .i64 x) := by rw [q4]; unfold ints; rw [List.getElem?_map, hi]; rfl
      rw [List.getElem?_take_of_lt (by omega)] at this
      exact this
    obtain ⟨u, h1, h2⟩ := p1.get hc
    rw [h2.int] at h1
    exact p2 i _ h1
  · cases he
def msB : Nat → Mm → List Value → (List mach.St → Bool) → Bool
  | 0, _, l, k => match l with | [] => k [] | _ :: _ => false
  | n + 1, M, l, k => match l with
    | nx :: ru :: r => exI M nx fun a => exI M ru fun b => msB n M r fun l => k (⟨a, b⟩ :: l)
    | _ => false
theorem msB_out {m0 : Mem} {S : List Nat} {w0 : World} {c : Cf} (h : Ok m0 S w0 c) : ∀ (n : Nat) {l l' : List Value} {k : List mach.St → Bool}, VRL c.ι l l' → msB n c.M l k = true →
    ∃ ss, k ss = true ∧ ss.length = n ∧ l.length = 2 * n ∧ ∀ (i : Nat) (s : mach.St), ss[i]? = some s → ∃ nx ru, l'[2 * i]? = some nx ∧ l'[2 * i + 1]? = some ru ∧ SlI (memH c.w) .i64 nx s.next ∧ SlI (memH c.w) .i64 ru s.rule
  | 0, l, l', k, hl, he => by
    unfold msB at he
    split at he
    · exact ⟨[], he, rfl, rfl, fun i s hi => by simp at hi⟩
    · cases he
  | n + 1, l, l', k, hl, he => by
    unfold msB at he
    split at he
    case h_2 => cases he
    rename_i nx ru r
    match l', hl with
    | nx' :: ru' :: r', .cons h1 (.cons h2 h3) =>
    obtain ⟨a, h4, h5⟩ := exI_out h h1 he
    obtain ⟨b, h6, h7⟩ := exI_out h h2 h4
    obtain ⟨ss, h8, h9, h10, h11⟩ := msB_out h n h3 h6
    refine ⟨⟨a, b⟩ :: ss, h8, by simp [h9], by simp; omega, fun i s hi => ?_⟩
    cases i with
    | zero => simp at hi; subst hi; exact ⟨nx', ru', rfl, rfl, h5, h7⟩
    | succ i =>
      obtain ⟨x, y, g1, g2, g3⟩ := h11 i s (by simpa using hi)
      exact ⟨x, y, by rw [show 2 * (i + 1) = 2 * i + 1 + 1 by omega]; simpa using g1, by rw [show 2 * (i + 1) + 1 = 2 * i + 1 + 1 + 1 by omega]; simpa using g2, g3⟩
def mcB (M : Mm) (cs : List Value) (k : mach.Mc → Bool) : Bool := takeK 256 cs fun l => toI .u8 l fun of => match of.all isByte with
  | true => match dropL 256 cs with
    | [.int .i64 n, .int .i64 lk, st, be] => exI M be fun bg => match st with
      | .slice (some ⟨g, 0, none⟩) q 0 => match M.get (pth g) with
        | some (.cs _ _ cells _ _) => takeK (Nat.mul 2 q) cells fun l => msB q M l fun ss => k ⟨of, n, lk, ss, bg⟩
        | _ => false
      | _ => false
    | _ => false
  | false => false
theorem mcB_out {m0 : Mem} {S : List Nat} {w0 : World} {c : Cf} (h : Ok m0 S w0 c) {cs cs' : List Value} {k : mach.Mc → Bool} (hv : VRL c.ι cs cs') (he : mcB c.M cs k = true) : ∃ mc, k mc = true ∧ mach.McV (memH c.w) cs' mc := by
  unfold mcB at he
  obtain ⟨q1, q2⟩ := takeK_out he
  obtain ⟨of, q3, q4⟩ := toI_out q2
  cases hb : of.all isByte with
  | false => rw [hb] at q3; cases q3
  | true =>
  rw [hb] at q3
  dsimp only at q3
  rw [dropL_eq] at q3
  split at q3
  case h_2 => cases q3
  rename_i n lk st be hd
  obtain ⟨bg, q5, q6⟩ : ∃ bg, (match st with
      | .slice (some ⟨g, 0, none⟩) q 0 => match c.M.get (pth g) with
        | some (.cs _ _ cells _ _) => takeK (Nat.mul 2 q) cells fun l => msB q c.M l fun ss => k ⟨of, n, lk, ss, bg⟩
        | _ => false
      | _ => false) = true ∧ ∃ be', VR c.ι be be' ∧ cs'.drop 256 = [.int .i64 n, .int .i64 lk] ++ [(cs'.drop 256)[2]?.getD undef, be'] ∧ SlI (memH c.w) .i64 be' bg ∧ VR c.ι st ((cs'.drop 256)[2]?.getD undef) := by
    have hdr := hv.drop 256
    rw [hd] at hdr
    generalize cs'.drop 256 = t at hdr
    match t, hdr with
    | [n', lk', st', be'], .cons r1 (.cons r2 (.cons r3 (.cons r4 .nil))) =>
    obtain ⟨bg, g1, g2⟩ := exI_out h r4 q3
    rw [r1.int, r2.int]
    exact ⟨bg, g1, be', r4, rfl, g2, r3⟩
  obtain ⟨be', r4, r5, r6, r7⟩ := q6
  generalize (cs'.drop 256)[2]?.getD undef = st' at r5 r7
  split at q5
  case h_2 => cases q5
  rename_i g q
  obtain ⟨b, kb, hι, -, hdn, rfl⟩ := r7.slc_out rfl
  split at q5
  case h_2 => cases q5
  rename_i ty sz cells opn stp hg
  obtain ⟨f1, f2⟩ := takeK_out q5
  obtain ⟨hk, pre, p1, p2⟩ := lend_at h hι hg
  obtain ⟨ss, g1, g2, g3, g4⟩ := msB_out h q (p1.take (Nat.mul 2 q)) f2
  have h256 : of.length = 256 := by have := congrArg List.length q4; rw [List.length_take, Nat.min_eq_left q1] at this; simpa [ints] using this.symm
  refine ⟨⟨of, n, lk, ss, bg⟩, g1, ⟨⟨.slice (some ⟨b, 0, none⟩) q (kb - 0), be', ?_, ⟨some ⟨b, 0, none⟩, q, kb, rfl, g2.symm, by omega, hk, fun i s hi => ?_⟩, r6⟩, h256, fun z hz => ?_⟩⟩
  · have e1 : cs'.take 256 = ints .u8 of := by
      have := hv.take 256
      rw [q4] at this
      exact this.flat (ints_flat _ _)
    rw [← e1]
    have := List.take_append_drop 256 cs'
    rw [r5] at this
    exact this.symm
  · obtain ⟨nx, ru, z1, z2, z3, z4⟩ := g4 i s hi
    have hiq : i < q := by rw [← g2]; exact (List.getElem?_eq_some_iff.1 hi).1
    have e2q : Nat.mul 2 q = 2 * q := rfl
    rw [e2q] at z1 z2
    rw [List.getElem?_take_of_lt (by omega)] at z1 z2
    refine ⟨_, [nx, ru], rfl, rfl, fun j u hj => ?_, nx, ru, rfl, z3, z4⟩
    rw [scale_eq, addr_add, addr_add, Nat.zero_add]
    match j, hj with
    | 0, hj => simp at hj; subst hj; rw [show i * 2 + 0 = 2 * i by omega]; exact p2 _ _ z1
    | 1, hj => simp at hj; subst hj; rw [show i * 2 + 1 = 2 * i + 1 by omega]; exact p2 _ _ z2
    | j + 2, hj => simp at hj
  · have := List.all_eq_true.1 hb z hz
    unfold isByte at this
    split at this
    · rename_i q
      have : q < 256 := by simpa [Nat.blt_eq] using this
      constructor
      · exact Int.natCast_nonneg q
      · show (q : Int) ≤ 255; omega
    · cases this
def sPack : Sm := fun args nx M k => match args with
  | [.agg cs] => mcB M cs.toList fun mc => match mach.okM mc with
    | true => k (.tuple (toArr [.float .f32 0, .int .i64 0])) nx M
    | false => false
  | _ => false
theorem sPack_ok {m0 : Mem} : SmOne m0 20 sPack := by
  intro S w0 args args' c k K h hv ha hK
  unfold sPack at ha
  split at ha
  case h_2 => cases ha
  rename_i cs
  match args', hv with
  | [x'], .cons hx .nil =>
  obtain ⟨l', rfl, r1⟩ := hx.agg_out
  obtain ⟨mc, q1, q2⟩ := mcB_out h r1 ha
  cases hok : mach.okM mc with
  | false => rw [hok] at q1; cases q1
  | true =>
  rw [hok] at q1
  refine CallReq.lendFn (mach.pack_fn (memH c.w) l' mc q2) (fun b o hb => hb) h.loc ?_
  rintro u m' L' w' ⟨-, ⟨-, v, rfl, ho⟩ | ⟨hc, -⟩⟩ hL
  · obtain ⟨k1, k2⟩ := h.move (Mem.Le.refl _) hL fun i ab b k o _ _ _ hm => List.mem_append_right _ hm
    have hmx : maxLen = 9223372036854775807 := rfl
    obtain ⟨A, n, cc, rfl, hn⟩ : ∃ A n cc, v = .slice A n cc ∧ n ≤ 9223372036854775807 := by
      obtain ⟨n, -, ⟨rfl, -, -⟩ | ⟨g, cap, cur, rfl, -, e1, e2, -⟩⟩ := ho
      · exact ⟨_, 0, _, rfl, Nat.zero_le _⟩
      · exact ⟨_, n, _, rfl, by omega⟩
    exact hK _ ⟨c.ι, c.nx, c.M, c.m, L' ++ c.L, w'⟩ _ q1 k2 k1 (VR.tup (.cons (.opq hn) (.cons (.same rfl) .nil)))
  · rw [hok] at hc; cases hc
def smP : List (Nat × Sm) := (20, sPack) :: smF
theorem smP_ok {m0 : Mem} (hm : Laid m0) : ∀ x ∈ smP, SmOne m0 x.1 x.2 := by
  intro x hx
  rcases List.mem_cons.1 hx with rfl | hx
  · exact sPack_ok
  · exact smF_ok hm x hx
end
end Go.Proofs.YtloofgoblodeiaaGreatDoor.am
namespace Go.Proofs.YtloofgoblodeiaaGreatDoor.am
open Go Go.Ev Go.Proofs Go.Proofs.YtloofgoblodeiaaGreatDoor.co
noncomputable section
def eqA (a b : Option Addr) : Bool := match a, b with
  | none, none => true
  | some ⟨i, o, none⟩, some ⟨j, p, none⟩ => match Nat.beq i j with | true => Nat.beq o p | false => false
  | _, _ => false
theorem eqA_out {a b : Option Addr} (h : eqA a b = true) : a = b := by
  unfold eqA at h
  split at h
  · rfl
  · split at h
    · rename_i hb
      rw [Nat.eq_of_beq_eq_true hb, Nat.eq_of_beq_eq_true h]
    · cases h
  · cases h
def eqS (a b : Value) : Bool := match flat1 a with
  | true => match flat1 b with | true => vEq a b | false => false
  | false => match a with
    | .pointer x => match b with | .pointer y => eqA x y | _ => false
    | .slice x n d => match b with | .slice y n2 d2 => (match eqA x y with | true => (match Nat.beq n n2 with | true => Nat.beq d d2 | false => false) | false => false) | _ => false
    | .float k x => match b with | .float k2 y => decide (k = k2 ∧ x = y) | _ => false
    | _ => false
theorem flatV_of1 {v : Value} (h : flat1 v = true) : flatV v = true := by
  cases v <;> first | exact h | cases h
theorem eqS_out {a b : Value} (h : eqS a b = true) : a = b := by
  unfold eqS at h
  split at h
  · rename_i ha
    split at h
    · rename_i hb
      exact (vEq_iff (flatV_of1 ha) (flatV_of1 hb)).1 h
    · cases h
  · split at h
    · split at h
      · rw [eqA_out h]
      · cases h
    · split at h
      · split at h
        · rename_i h1
          split at h
          · rename_i h2
            rw [eqA_out h1, Nat.eq_of_beq_eq_true h2, Nat.eq_of_beq_eq_true h]
          · cases h
        · cases h
      · cases h
    · split at h
      · obtain ⟨rfl, rfl⟩ := of_decide_eq_true h
        rfl
      · cases h
    · cases h
def eqL (a : List Value) : List Value → Bool :=
  List.rec (motive := fun _ => List Value → Bool) (fun b => match b with | [] => true | _ :: _ => false) (fun x _ ih b => match b with | [] => false | y :: b => match eqS x y with | true => ih b | false => false) a
theorem eqL_out : ∀ {a b : List Value}, eqL a b = true → a = b
  | [], [], _ => rfl
  | [], _ :: _, h => by cases h
  | _ :: _, [], h => by cases h
  | x :: a, y :: b, h => by
    have h : (match eqS x y with | true => eqL a b | false => false) = true := h
    split at h
    · rename_i h1
      rw [eqS_out h1, eqL_out h]
    · cases h
def mT : List (Nat × List Value) := [
  (17, [.string (bs [109, 97, 105, 110])]),
  (24, [.int .i64 0]),
  (111, []),
  (120, [.slice (some ⟨24, 0, none⟩) 1 0, .int .i64 2, .int .u64 0, .int .u64 8589934592, .int .u64 0, .int .u64 0, .slice (some ⟨111, 0, none⟩) 0 0, .int .i64 0, .int .i64 0, .bool false, .int .i64 0, .int .i64 0]),
  (1246, [.int .i64 (-1)]),
  (1253, [.int .i64 1, .int .i64 2]),
  (1259, [.int .i64 (-1)]),
  (1266, [.int .i64 1, .int .i64 1]),
  (1272, [.int .i64 0]),
  (1279, [.int .i64 1, .int .i64 1]),
  (1282, [.slice (some ⟨1253, 0, none⟩) 2 0, .slice (some ⟨1246, 0, none⟩) 1 0, .slice (some ⟨1266, 0, none⟩) 2 0, .slice (some ⟨1259, 0, none⟩) 1 0, .slice (some ⟨1279, 0, none⟩) 2 0, .slice (some ⟨1272, 0, none⟩) 1 0]),
  (1285, [.int .i64 0]),
  (1290, [.slice (some ⟨17, 0, none⟩) 1 0, .slice (some ⟨120, 0, none⟩) 1 0, .slice none 0 0] ++ List.replicate 97 (.int .u8 0) ++ [.int .u8 1] ++ List.replicate 158 (.int .u8 0) ++ [.int .i64 2, .int .i64 0, .slice (some ⟨1282, 0, none⟩) 3 0, .slice (some ⟨1285, 0, none⟩) 1 0, .int .i64 10, .int .i64 3, .float .f32 0])]
def putA (M : Mm) (l : List (Nat × List Value)) : Mm := List.rec (motive := fun _ => Mm → Mm) (fun M => M) (fun x _ ih M => ih (T.put (pth x.1) M (some (.gl x.2 0)))) l M
def MT : Mm := putA M00 mT
theorem putA_get : ∀ (l : List (Nat × List Value)) (M : Mm) (i : Nat) (ab : AB), (putA M l).get (pth i) = some ab → M.get (pth i) = some ab ∨ ∃ x ∈ l, x.1 = i ∧ ab = .gl x.2 0
  | [], _, _, _, h => .inl h
  | x :: l, M, i, ab, h => by
    rcases putA_get l (T.put (pth x.1) M (some (.gl x.2 0))) i ab h with h | ⟨y, h1, h2⟩
    · rw [get_putN] at h
      split at h
      · rename_i e; exact .inr ⟨x, List.mem_cons_self, e.symm, (Option.some.inj h).symm⟩
      · exact .inl h
    · exact .inr ⟨y, List.mem_cons_of_mem _ h1, h2⟩
def froB (M : Mm) (l : List (Nat × List Value)) : Bool := List.rec (motive := fun _ => Bool) true (fun x _ ih => match M.get (pth x.1) with
  | some (.cs _ _ cells _ _) => (match eqL cells x.2 with | true => ih | false => false)
  | _ => false) l
theorem froB_out : ∀ {l : List (Nat × List Value)} {M : Mm}, froB M l = true → ∀ x ∈ l, ∃ ty sz opn st, M.get (pth x.1) = some (.cs ty sz x.2 opn st)
  | [], _, _, _, hx => by cases hx
  | y :: l, M, h, x, hx => by
    have h : (match M.get (pth y.1) with
      | some (.cs _ _ cells _ _) => (match eqL cells y.2 with | true => froB M l | false => false)
      | _ => false) = true := h
    split at h
    · rename_i ty sz cells opn st hg
      split at h
      · rename_i he
        rcases List.mem_cons.1 hx with rfl | hx
        · exact ⟨ty, sz, opn, st, by rw [hg, eqL_out he]⟩
        · exact froB_out h x hx
      · cases h
    · cases h
structure FT (ι : At) (Q : Nat → Obj → Prop) : Prop where
  gl : Gl ι
  fresh : ∀ i, 1291 ≤ i → ι i = none
  blk : ∀ x ∈ mT, ∃ b k o, ι x.1 = some (b, k) ∧ AR ι k (.gl x.2 0) o ∧ Q b o
theorem FT.mono {ι : At} {Q Q' : Nat → Obj → Prop} (h : FT ι Q) (hq : ∀ b o, Q b o → Q' b o) : FT ι Q' :=
  ⟨h.gl, h.fresh, fun x hx => by
    obtain ⟨b, k, o, h1, h2, h3⟩ := h.blk x hx
    exact ⟨b, k, o, h1, h2, hq _ _ h3⟩⟩
theorem FT.ok {ι : At} {m0 m : Mem} {S : List Nat} {w0 w : World} {L : Own} (h : FT ι (fun b o => m b = some o)) (hL : Ev.Loc m0 S w0 m L w) (hm : Laid m) : Ok m0 S w0 ⟨ι, 1291, MT, m, L, w⟩ := by
  obtain ⟨-, t, f, h4⟩ := hm
  have hg : ∀ i ab, MT.get (pth i) = some ab → (i = 4 ∧ ab = .gl bitV 0) ∨ ∃ x ∈ mT, x.1 = i ∧ ab = .gl x.2 0 := fun i ab hi => by
    rcases putA_get mT M00 i ab hi with h | h
    · unfold M00 at h
      rw [get_putN] at h
      split at h
      · rename_i e; exact .inl ⟨e, (Option.some.inj h).symm⟩
      · cases h
    · exact .inr h
  refine ⟨h.gl, (by decide : 16 ≤ 1291), fun i hi => h.fresh i hi, hL, fun i ab hi => ?_, fun i j ab ab' b k k' h1 h2 => ?_⟩
  · rcases hg i ab hi with ⟨rfl, rfl⟩ | ⟨x, hx, rfl, rfl⟩
    · refine ⟨(show (0 : Nat) < 1291 by decide), 4, 0, .cells (toArr bitV) t f, h.gl 4 (by decide), ?_, h4⟩
      have := AR.gl (ι := ι) (c := 0) (ty := t) (fz := f) (cells := bitV) (rest := []) (st := 0) (flatL_out (by decide +kernel))
      rwa [List.append_nil] at this
    · obtain ⟨b, k, o, q1, q2, q3⟩ := h.blk x hx
      exact ⟨(show (0 : Nat) < 1291 by decide), b, k, o, q1, q2, q3⟩
  · rcases hg i ab h1 with ⟨rfl, rfl⟩ | ⟨x, hx, rfl, rfl⟩ <;> cases h2
def kNew (v : Value) (nx : Nat) (M : Mm) : Bool := match v with
  | .tuple cs => match cs.toList with
    | [p, a, b] => match eqS p (.pointer (some ⟨1290, 0, none⟩)) with
      | true => match eqS a (.int .i64 0) with
        | true => match eqS b (.int .i64 0) with
          | true => match Nat.ble nx 1291 with | true => froB M mT | false => false
          | false => false
        | false => false
      | false => false
    | _ => false
  | _ => false
set_option maxRecDepth 100000 in
theorem new_run : run (smOf smP) 60 8 [.string (bs [42, 32, 97]), .int .i64 10] 16 M00 kNew = true := by kernel_rfl
theorem new_fn {m : Mem} (hm : Laid m) : Ev.Fn Tryz.prog 8 [.string (bs [42, 32, 97]), .int .i64 10] m [] fun _ L v => ∃ ι b k, ι 1290 = some (b, k) ∧ FT ι (fun b o => (b, o) ∈ L) ∧ v = .tuple (toArr [.pointer (some ⟨b, 0, none⟩), .int .i64 0, .int .i64 0]) := by
  intro w hp
  have hL := loc_of_pre hp
  have h := run_ok keys_ok (smOf_ok (smP_ok hm)) 60 (S := []) (w0 := w) _ _ _ ⟨ι0, 16, M00, m, [], w⟩ kNew (fun v w' => ∃ m' L, Ev.Loc m [] w m' L w' ∧ ∃ ι b k, ι 1290 = some (b, k) ∧ FT ι (fun b o => (b, o) ∈ L) ∧ v = .tuple (toArr [.pointer (some ⟨b, 0, none⟩), .int .i64 0, .int .i64 0])) (base_ok hL hm)
    (.cons (.same rfl) (.cons (.same rfl) .nil)) new_run fun u c' u' h1 h2 h3 h4 => by
    unfold kNew at h1
    split at h1
    case h_2 => cases h1
    rename_i cs
    obtain ⟨l', rfl, r1⟩ := h4.tup_out
    split at h1
    case h_2 => cases h1
    rename_i p a b hcs
    rw [hcs] at r1
    split at h1
    case h_2 => cases h1
    rename_i e1
    split at h1
    case h_2 => cases h1
    rename_i e2
    split at h1
    case h_2 => cases h1
    rename_i e3
    split at h1
    case h_2 => cases h1
    rename_i e4
    match l', r1 with
    | [x, y, z], .cons g1 (.cons g2 (.cons g3 .nil)) =>
    rw [eqS_out e1] at g1
    rw [eqS_out e2] at g2
    rw [eqS_out e3] at g3
    obtain ⟨bb, kk, hι, -, rfl⟩ := g1.ptr_out
    refine ⟨c'.m, c'.L, h3.loc, c'.ι, bb, kk, hι, ⟨h3.gl, fun i hi => h3.fresh i (Nat.le_trans (Nat.le_of_ble_eq_true e4) hi), fun x hx => ?_⟩, by rw [g2.int, g3.int]⟩
    obtain ⟨ty, sz, opn, st, hg⟩ := froB_out h1 x hx
    obtain ⟨-, b, k, o, q1, q2, q3⟩ := h3.blk _ _ hg
    cases q2 with
    | cs a1 a2 a3 a4 => exact ⟨b, k, _, q1, .gl a1, q3⟩
  refine h.out.mono fun e w' he => ?_
  cases e with
  | returned u => obtain ⟨m', L, h1, h2⟩ := he; exact ⟨u, m', L, rfl, h1, h2⟩
  | _ => exact he.elim
end
end Go.Proofs.YtloofgoblodeiaaGreatDoor.am
namespace Go.Proofs.YtloofgoblodeiaaGreatDoor.am
open Go Go.Ev Go.Proofs Go.Proofs.YtloofgoblodeiaaGreatDoor.co
noncomputable section
def kTup (vs : List Value) (v : Value) (_ : Nat) (_ : Mm) : Bool := match v with
  | .tuple cs => match flatL cs.toList with | true => eqL cs.toList vs | false => false
  | _ => false
theorem ftT_run {l : List (Nat × Sm)} {d f : Nat} {args args' : List Value} {vs : List Value} {m : Mem} {ι : At} (hft : FT ι (fun b o => m b = some o)) (hm : Laid m) (hl : ∀ x ∈ l, SmOne m x.1 x.2) (hargs : VRL ι args args')
    (hrun : run (smOf l) d f args 1291 MT (kTup vs) = true) : FnV Tryz.prog f args' m (.tuple (toArr vs)) := by
  intro w hp
  have hL := loc_of_pre hp
  have h := run_ok keys_ok (smOf_ok hl) d (S := []) (w0 := w) f args args' ⟨ι, 1291, MT, m, [], w⟩ (kTup vs) (fun u w' => u = .tuple (toArr vs) ∧ Ev.Loc m [] w m [] w') (hft.ok hL hm) hargs hrun fun u c' u' h1 h2 h3 h4 => by
    unfold kTup at h1
    split at h1
    case h_2 => cases h1
    rename_i cs
    obtain ⟨l', rfl, r1⟩ := h4.tup_out
    split at h1
    case h_2 => cases h1
    rename_i hf
    rw [r1.flat hf, eqL_out h1]
    exact ⟨rfl, (h3.loc.sublist (List.nil_sublist _)).weaken h2.m (Mem.Le.refl m)⟩
  refine h.out.mono fun e w' he => ?_
  cases e with
  | returned u => exact ⟨u, m, [], rfl, he.2, rfl, he.1⟩
  | _ => exact he.elim
set_option maxRecDepth 100000 in
theorem print_run : run (smOf smP) 60 5 [.pointer (some ⟨1290, 0, none⟩), .string (bs [112, 114, 105, 110, 116])] 1291 MT (kTup [.string (bs [37, 115, 116, 97, 114, 116, 32, 109, 97, 105, 110, 10, 109, 97, 105, 110, 32, 91, 92, 120, 54, 49, 93, 10]), .int .i64 0]) = true := by kernel_rfl
set_option maxRecDepth 100000 in
theorem meets_run : run (smOf smP) 60 5 [.pointer (some ⟨1290, 0, none⟩), .string (bs [109, 101, 101, 116, 115])] 1291 MT (kTup [.string (bs []), .int .i64 0]) = true := by kernel_rfl
end
end Go.Proofs.YtloofgoblodeiaaGreatDoor.am
namespace Go.Proofs.YtloofgoblodeiaaGreatDoor.am
open Go Go.Ev Go.Proofs Go.Proofs.YtloofgoblodeiaaGreatDoor.co
noncomputable section
def mA : List Value := List.replicate 97 (.int .u8 0) ++ [.int .u8 1] ++ List.replicate 158 (.int .u8 0) ++ [.int .i64 2, .int .i64 0, .slice (some ⟨1282, 0, none⟩) 3 0, .slice (some ⟨1285, 0, none⟩) 1 0]
def sA : List Value := [.slice (some ⟨17, 0, none⟩) 1 0, .slice (some ⟨120, 0, none⟩) 1 0]
def pA : List Value := [.slice none 0 0]
def kV (v : Value) (u : Value) (_ : Nat) (_ : Mm) : Bool := match flatV u with | true => vEq u v | false => false
theorem ftV_run {l : List (Nat × Sm)} {d f : Nat} {args args' : List Value} {v : Value} {m : Mem} {ι : At} (hft : FT ι (fun b o => m b = some o)) (hm : Laid m) (hl : ∀ x ∈ l, SmOne m x.1 x.2) (hargs : VRL ι args args') (hv : flatV v = true)
    (hrun : run (smOf l) d f args 1291 MT (kV v) = true) : FnV Tryz.prog f args' m v := by
  intro w hp
  have hL := loc_of_pre hp
  have h := run_ok keys_ok (smOf_ok hl) d (S := []) (w0 := w) f args args' ⟨ι, 1291, MT, m, [], w⟩ (kV v) (fun u w' => u = v ∧ Ev.Loc m [] w m [] w') (hft.ok hL hm) hargs hrun fun u c' u' h1 h2 h3 h4 => by
    unfold kV at h1
    cases hf : flatV u with
    | false => rw [hf] at h1; cases h1
    | true =>
      rw [hf] at h1
      rw [h4.flat hf]
      exact ⟨(vEq_iff hf hv).1 h1, (h3.loc.sublist (List.nil_sublist _)).weaken h2.m (Mem.Le.refl m)⟩
  refine h.out.mono fun e w' he => ?_
  cases e with
  | returned u => exact ⟨u, m, [], rfl, he.2, rfl, he.1⟩
  | _ => exact he.elim
def nextA (s b : Nat) : Int := match s with | 0 => (match Nat.beq b 97 with | true => 2 | false => 1) | _ => 1
def ruleA (s : Nat) : Int := match s with | 2 => 0 | _ => -1
def deadA (s : Nat) : Bool := Nat.beq s 1
set_option maxRecDepth 100000 in
theorem rule_run : ((List.range 3).all fun s => run (smOf smP) 20 442 [.agg (toArr mA), .int .i64 s, .int .u8 0] 1291 MT (kV (.int .i64 (ruleA s)))) = true := by kernel_rfl
set_option maxRecDepth 100000 in
theorem dead_run : ((List.range 3).all fun s => run (smOf smP) 20 441 [.agg (toArr mA), .int .i64 s] 1291 MT (kV (.bool (deadA s)))) = true := by kernel_rfl
set_option maxRecDepth 100000 in
theorem begin_run : run (smOf smP) 20 440 [.agg (toArr mA), .int .i64 0] 1291 MT (kV (.int .i64 0)) = true := by kernel_rfl
set_option maxRecDepth 100000 in
theorem right_run : run (smOf smP) 60 75 [.agg (toArr sA), .agg (toArr mA), .agg (toArr pA)] 1291 MT (kV (.bool true)) = true := by kernel_rfl
set_option maxRecDepth 100000 in
theorem tright_run : run (smOf smP) 60 144 [.agg (toArr pA)] 1291 MT (kV (.bool true)) = true := by kernel_rfl
set_option maxRecDepth 100000 in
theorem top_run : run (smOf smP) 20 222 [.agg (toArr [.slice none 0 0, .int .i64 0])] 1291 MT (kV (.int .i64 0)) = true := by kernel_rfl
theorem rule_fn {m : Mem} {ι : At} {l : List Value} (hft : FT ι (fun b o => m b = some o)) (hm : Laid m) (hl : VRL ι mA l) {s : Nat} (hs : s < 3) :
    FnV Tryz.prog 442 [.agg (toArr l), .int .i64 s, .int .u8 0] m (.int .i64 (ruleA s)) :=
  ftV_run hft hm (smP_ok hm) (.cons (.agg hl) (.cons (.same rfl) (.cons (.same rfl) .nil))) rfl (List.all_eq_true.1 rule_run s (List.mem_range.2 hs))
theorem dead_fn {m : Mem} {ι : At} {l : List Value} (hft : FT ι (fun b o => m b = some o)) (hm : Laid m) (hl : VRL ι mA l) {s : Nat} (hs : s < 3) :
    FnV Tryz.prog 441 [.agg (toArr l), .int .i64 s] m (.bool (deadA s)) :=
  ftV_run hft hm (smP_ok hm) (.cons (.agg hl) (.cons (.same rfl) .nil)) rfl (List.all_eq_true.1 dead_run s (List.mem_range.2 hs))
theorem begin_fn {m : Mem} {ι : At} {l : List Value} (hft : FT ι (fun b o => m b = some o)) (hm : Laid m) (hl : VRL ι mA l) :
    FnV Tryz.prog 440 [.agg (toArr l), .int .i64 0] m (.int .i64 0) :=
  ftV_run hft hm (smP_ok hm) (.cons (.agg hl) (.cons (.same rfl) .nil)) rfl begin_run
theorem right_fn {m : Mem} {ι : At} {s l p : List Value} (hft : FT ι (fun b o => m b = some o)) (hm : Laid m) (hs : VRL ι sA s) (hl : VRL ι mA l) (hp : VRL ι pA p) :
    FnV Tryz.prog 75 [.agg (toArr s), .agg (toArr l), .agg (toArr p)] m (.bool true) :=
  ftV_run hft hm (smP_ok hm) (.cons (.agg hs) (.cons (.agg hl) (.cons (.agg hp) .nil))) rfl right_run
theorem tright_fn {m : Mem} {ι : At} {p : List Value} (hft : FT ι (fun b o => m b = some o)) (hm : Laid m) (hp : VRL ι pA p) : FnV Tryz.prog 144 [.agg (toArr p)] m (.bool true) :=
  ftV_run hft hm (smP_ok hm) (.cons (.agg hp) .nil) rfl tright_run
theorem top_fn {m : Mem} {ι : At} (hft : FT ι (fun b o => m b = some o)) (hm : Laid m) : FnV Tryz.prog 222 [.agg (toArr [.slice none 0 0, .int .i64 0])] m (.int .i64 0) :=
  ftV_run hft hm (smP_ok hm) (.cons (flatV_out rfl) .nil) rfl top_run
end
end Go.Proofs.YtloofgoblodeiaaGreatDoor.am
namespace Go.Proofs.YtloofgoblodeiaaGreatDoor.am
open Go Go.Ev Go.Proofs Go.Proofs.YtloofgoblodeiaaGreatDoor.co
noncomputable section
def stepB (s lo : Nat) : Bool := (List.range 64).all fun j => run (smOf smP) 20 443 [.agg (toArr mA), .int .i64 s, .int .u8 (Nat.add lo j : Nat), .int .u8 0] 1291 MT (kTup [.int .i64 (nextA s (Nat.add lo j)), .int .i64 0])
set_option maxRecDepth 100000 in
theorem step_run00 : stepB 0 0 = true := by kernel_rfl
set_option maxRecDepth 100000 in
theorem step_run01 : stepB 0 64 = true := by kernel_rfl
set_option maxRecDepth 100000 in
theorem step_run02 : stepB 0 128 = true := by kernel_rfl
set_option maxRecDepth 100000 in
theorem step_run03 : stepB 0 192 = true := by kernel_rfl
set_option maxRecDepth 100000 in
theorem step_run10 : stepB 1 0 = true := by kernel_rfl
set_option maxRecDepth 100000 in
theorem step_run11 : stepB 1 64 = true := by kernel_rfl
set_option maxRecDepth 100000 in
theorem step_run12 : stepB 1 128 = true := by kernel_rfl
set_option maxRecDepth 100000 in
theorem step_run13 : stepB 1 192 = true := by kernel_rfl
set_option maxRecDepth 100000 in
theorem step_run20 : stepB 2 0 = true := by kernel_rfl
set_option maxRecDepth 100000 in
theorem step_run21 : stepB 2 64 = true := by kernel_rfl
set_option maxRecDepth 100000 in
theorem step_run22 : stepB 2 128 = true := by kernel_rfl
set_option maxRecDepth 100000 in
theorem step_run23 : stepB 2 192 = true := by kernel_rfl
theorem stepB_out {s lo b : Nat} (h : stepB s lo = true) (h1 : lo ≤ b) (h2 : b < lo + 64) : run (smOf smP) 20 443 [.agg (toArr mA), .int .i64 s, .int .u8 b, .int .u8 0] 1291 MT (kTup [.int .i64 (nextA s b), .int .i64 0]) = true := by
  obtain ⟨j, rfl⟩ : ∃ j, b = lo + j := ⟨b - lo, by omega⟩
  unfold stepB at h
  exact List.all_eq_true.1 h j (List.mem_range.2 (by omega))
attribute [irreducible] stepB
theorem step_run {s b : Nat} (hs : s < 3) (hb : b < 256) : run (smOf smP) 20 443 [.agg (toArr mA), .int .i64 s, .int .u8 b, .int .u8 0] 1291 MT (kTup [.int .i64 (nextA s b), .int .i64 0]) = true := by
  have sc : s = 0 ∨ s = 1 ∨ s = 2 := by omega
  have bc : (0 ≤ b ∧ b < 0 + 64) ∨ (64 ≤ b ∧ b < 64 + 64) ∨ (128 ≤ b ∧ b < 128 + 64) ∨ (192 ≤ b ∧ b < 192 + 64) := by omega
  rcases sc with rfl | rfl | rfl <;> rcases bc with h | h | h | h
  · exact stepB_out step_run00 h.1 h.2
  · exact stepB_out step_run01 h.1 h.2
  · exact stepB_out step_run02 h.1 h.2
  · exact stepB_out step_run03 h.1 h.2
  · exact stepB_out step_run10 h.1 h.2
  · exact stepB_out step_run11 h.1 h.2
  · exact stepB_out step_run12 h.1 h.2
  · exact stepB_out step_run13 h.1 h.2
  · exact stepB_out step_run20 h.1 h.2
  · exact stepB_out step_run21 h.1 h.2
  · exact stepB_out step_run22 h.1 h.2
  · exact stepB_out step_run23 h.1 h.2
theorem step_fn {m : Mem} {ι : At} {l : List Value} (hft : FT ι (fun b o => m b = some o)) (hm : Laid m) (hl : VRL ι mA l) {s b : Nat} (hs : s < 3) (hb : b < 256) :
    FnV Tryz.prog 443 [.agg (toArr l), .int .i64 s, .int .u8 b, .int .u8 0] m (.tuple (toArr [.int .i64 (nextA s b), .int .i64 0])) :=
  ftT_run hft hm (smP_ok hm) (.cons (.agg hl) (.cons (.same rfl) (.cons (.same rfl) (.cons (.same rfl) .nil)))) (step_run hs hb)
end
end Go.Proofs.YtloofgoblodeiaaGreatDoor.am
namespace Go.Ev
open Go
section
variable {P : Program} {X : Tab}
theorem run_nilAhead_val {t f : Nat} {name : String} {v : Value} (h : mth P t name = some f) (n : Nat) (w : World) : (nilAhead (n + 1) t v name).run P w = .ok (some false) w := by
  unfold mth at h
  split at h
  · rename_i i fs hi hu
    split at h
    · rename_i m hm
      split at h
      · rename_i g h1 h2
        unfold nilAhead
        have hti : (typeInfo t).run P w = .ok i w := by simp [typeInfo, hi]
        simp [hti, hm, h1, h2, followBlind, run_underlying hu]
      · cases h
    · cases h
  · cases h
theorem UGenReq.nilMethod {o : Oper} {ρ : Operand → Value} {x : Operand} {t f : Nat} {v : Value} {name : String} {K : Value → Prop} (ho : o.op = .nilCheck x) (hx : ρ x = .func (.method name) (toArr [.iface t v]) (toArr [])) (hm : mth P t name = some f)
    (h : K (.func (.method name) (toArr [.iface t v]) (toArr []))) : UGenReq P o ρ K := by
  have hn : ∃ n, P.types.size + Made.depth = n + 1 := ⟨P.types.size + (Made.depth - 1), by unfold Made.depth; omega⟩
  obtain ⟨n, hn⟩ := hn
  refine ⟨⟨_, fun w => ?_, h⟩⟩
  simp only [execOp, ho, hx]
  simp [Sem.run_bind, run_program, Result.andThen_ok, hn, run_nilAhead_val hm n w, toArr]
end
end Go.Ev
namespace Go.Proofs.YtloofgoblodeiaaGreatDoor.tlr
open Go Go.Ev Go.Proofs Go.Proofs.YtloofgoblodeiaaGreatDoor.co Go.Proofs.YtloofgoblodeiaaGreatDoor.am
set_option maxHeartbeats 4000000
set_option maxRecDepth 10000
theorem nextA_lt (s b : Nat) : 0 ≤ nextA s b ∧ nextA s b < 3 := by
  unfold nextA
  split
  · split <;> decide
  · decide
theorem ruleA_is (s : Nat) : ruleA s = -1 ∨ ruleA s = 0 := by
  unfold ruleA
  split
  · exact .inr rfl
  · exact .inl rfl
theorem longest_fn {m : Mem} {ι : At} {l : List Value} {wv bv : Value} {xs : List Int} {k : Nat} (hft : FT ι (fun b o => m b = some o)) (hm : Laid m) (hl : VRL ι mA l) (hw : SlI m .u8 wv xs) (hb : SlI m .u8 bv (List.replicate (xs.length + 1) 0))
    (hx : ∀ x ∈ xs, 0 ≤ x ∧ x < 256) (hn : xs.length ≤ 1000) (hk : k < xs.length) :
    Ev.Fn Tryz.prog 149 [.iface 261 (.agg (toArr l)), .int .i64 0, wv, bv, .int .i64 k] m [] fun m' L u => m' = m ∧ L = [] ∧ ∃ (rule : Int) (qt : Nat), u = .tuple (toArr [.int .i64 rule, .int .i64 qt, .int .i64 0]) ∧
      (rule = -1 ∨ (rule = 0 ∧ k < qt)) ∧ k ≤ qt ∧ qt ≤ xs.length := by
  obtain ⟨A, na, ca, rfl, _⟩ := id hw
  obtain ⟨B, nb, cb, rfl, _⟩ := id hb
  obtain ⟨la, la1, la2⟩ := hw.len
  obtain ⟨lb, lb1, lb2⟩ := hb.len
  obtain ⟨hl1, hcw⟩ := hw.cell
  obtain ⟨hl2, hcb⟩ := hb.cell
  rw [List.length_replicate] at lb
  refine Fn.enter (N := 96) hX Tryz.func149 rfl rfl (by show _ ≤ _; simp) (fun w0 hL => ?_)
  conv => whnf
  refine GenReq.invoke hX rfl rfl rfl rfl (f := 440) (args := [.int .i64 0]) (by kernel_rfl) rfl ?_
  refine CallReq.val (begin_fn hft hm hl) hL ?_
  clear hL
  intro w hL
  refine go ?_;try(clear hL;intro w hL)
  refine BrReq.dec (fun hc => absurd hc (by rw [List.length_replicate] at *; simp; omega)) (fun hc => ?_)
  refine go ?_;try(clear hL;intro w hL)
  refine BrReq.dec (fun hc => absurd hc (by omega)) (fun hc => ?_)
  refine go ?_;try(clear hL;intro w hL)
  refine LoopReq.inv hX (fun s : Nat × Int × Nat × Nat => [(13, .int .i64 s.1), (14, .int .i64 s.2.1), (15, .int .i64 s.2.2.1), (16, .int .i64 s.2.2.2)]) [0, 2, 3]
    (fun s w => (s.1 < 3 ∧ (s.2.1 = -1 ∨ (s.2.1 = 0 ∧ k < s.2.2.1)) ∧ k ≤ s.2.2.1 ∧ s.2.2.1 ≤ s.2.2.2 ∧ k ≤ s.2.2.2 ∧ s.2.2.2 ≤ xs.length) ∧ Ev.Loc m [] w0 m [] w) (fun s => xs.length - s.2.2.2) (0, -1, k, k)
    ⟨⟨(by decide : 0 < 3), .inl rfl, Nat.le_refl _, Nat.le_refl _, Nat.le_refl _, Nat.le_of_lt hk⟩, hL⟩ ?_ ?_
  · exact ⟨rfl, rfl, rfl, rfl, trivial⟩
  clear hL
  rintro ⟨st, rule, qt, pos⟩ w f ⟨⟨h1, h2, h3, h4, h5, h6⟩, hL⟩
  dsimp only at h1 h2 h3 h4 h5 h6
  refine go ?_;try(clear hL;intro w hL)
  refine BrReq.dec (fun hlt => ?_) (fun hlt => ?_)
  · have hlt' : pos < xs.length := by dsimp only at hlt; omega
    have hx1 := hx _ (List.getElem_mem hlt')
    obtain ⟨b, hbz, hbb⟩ : ∃ b : Nat, xs[pos] = b ∧ b < 256 := ⟨xs[pos].toNat, by omega, by omega⟩
    obtain ⟨a1, ha1, hc1⟩ := hcw pos _ (List.getElem?_eq_getElem hlt')
    obtain ⟨a2, ha2, hc2⟩ := hcb pos 0 (by rw [List.getElem?_replicate, if_pos (by omega)])
    obtain ⟨a3, ha3, hc3⟩ := hcb (pos + 1) 0 (by rw [List.getElem?_replicate, if_pos (by omega)])
    rw [ha2] at ha3
    cases ha3
    subst ha1 ha2
    rw [hbz] at hc1
    refine go ?_;try(clear hL;intro w hL)
    refine GenReq.invoke hX rfl rfl rfl rfl (f := 441) (args := [.int .i64 st]) (by kernel_rfl) rfl ?_
    refine CallReq.val (dead_fn hft hm hl h1) hL ?_
    clear hL
    intro w hL
    refine go ?_;try(clear hL;intro w hL)
    refine BrReq.not ?_
    refine BrReq.bool (fun hd => ?_) (fun hd => ?_)
    · refine go ?_;try(clear hL;intro w hL)
      exact RetReq.mk hL ⟨rfl, rfl, rule, qt, rfl, h2, h3, Nat.le_trans h4 h6⟩
    · refine go ?_;try(clear hL;intro w hL)
      refine DrawReq.plan hX (.fst 0 (.fst 1 (.fst 2 (.fst 3 (.fst 4 (.fst 5 (.fst 6 (.fst 7 (.fst 8 (.fst 9 (.fst 10 (.fst 11 (.fst 12 (.alt 13 (.fst 14 (.fst 15 (.fst 16 (.fst 17 (.fst 18 (.done)))))) (.stop))))))))))))))) [] (by kernel_rfl) (by kernel_rfl) hL (fun h => h.sublist (List.nil_sublist _)) ?_
      clear hL
      intro w hL
      conv => whnf
      repeat ((first | refine Idx2Req.mk pos a1 rfl (by omega) rfl ?_ | refine Idx2Req.mk pos a2 rfl (by omega) rfl ?_ | refine QLdReq.one hX rfl rfl hc1 ?_ | refine QLdReq.one hX rfl rfl hc2 ?_ | refine UGenReq.nilMethod (t := 261) (f := 443) rfl rfl (by kernel_rfl) ?_ | (refine goq1 ?_;try(clear hL;intro w hL))); conv => whnf)
      refine GenReq.invoke hX rfl rfl rfl rfl (f := 443) (args := [.int .i64 st, .int .u8 b, .int .u8 0]) (by kernel_rfl) rfl ?_
      refine CallReq.val (step_fn hft hm hl h1 hbb) hL ?_
      clear hL
      intro w hL
      refine SReq.mk (hL.sublist (List.nil_sublist _)) ?_
      conv => whnf
      repeat ((first | refine SReq.mk (hL.sublist (List.nil_sublist _)) ?_ | (refine goq1 ?_;try(clear hL;intro w hL))); conv => whnf)
      obtain ⟨nx, hnx, hnx3⟩ : ∃ nx : Nat, nextA st b = nx ∧ nx < 3 := ⟨(nextA st b).toNat, by have := nextA_lt st b; omega, by have := nextA_lt st b; omega⟩
      rw [hnx]
      refine go ?_;try(clear hL;intro w hL)
      refine DrawReq.plan hX (.fst 0 (.fst 1 (.fst 2 (.fst 3 (.fst 4 (.fst 5 (.fst 6 (.fst 7 (.fst 8 (.fst 9 (.alt 10 (.fst 11 (.done)) (.stop)))))))))))) [] (by kernel_rfl) (by kernel_rfl) hL (fun h => h.sublist (List.nil_sublist _)) ?_
      clear hL
      intro w hL
      conv => whnf
      repeat ((first | refine ArReq.i64 (by omega) (by omega) ?_ | refine Idx2Req.mk (pos + 1) a2 rfl (by omega) rfl ?_ | refine QLdReq.one hX rfl rfl hc3 ?_ | refine UGenReq.nilMethod (t := 261) (f := 442) rfl rfl (by kernel_rfl) ?_ | (refine goq1 ?_;try(clear hL;intro w hL))); conv => whnf)
      refine GenReq.invoke hX rfl rfl rfl rfl (f := 442) (args := [.int .i64 nx, .int .u8 0]) (by kernel_rfl) rfl ?_
      refine CallReq.val (rule_fn hft hm hl hnx3) hL ?_
      clear hL
      intro w hL
      refine SReq.mk (hL.sublist (List.nil_sublist _)) ?_
      conv => whnf
      repeat ((first | refine SReq.mk (hL.sublist (List.nil_sublist _)) ?_ | (refine goq1 ?_;try(clear hL;intro w hL))); conv => whnf)
      rcases ruleA_is nx with hr | hr
      · rw [hr]
        refine go ?_;try(clear hL;intro w hL)
        exact rnd (nx, rule, qt, pos + 1) ⟨⟨hnx3, h2, h3, Nat.le_succ_of_le h4, Nat.le_succ_of_le h5, hlt'⟩, hL⟩
      · rw [hr]
        refine go ?_;try(clear hL;intro w hL)
        exact rnd (nx, 0, pos + 1, pos + 1) ⟨⟨hnx3, .inr ⟨rfl, Nat.lt_succ_of_le h5⟩, Nat.le_succ_of_le h5, Nat.le_refl _, Nat.le_succ_of_le h5, hlt'⟩, hL⟩
  · refine go ?_;try(clear hL;intro w hL)
    exact RetReq.mk hL ⟨rfl, rfl, rule, qt, rfl, h2, h3, Nat.le_trans h4 h6⟩
end Go.Proofs.YtloofgoblodeiaaGreatDoor.tlr
namespace Go.Proofs.YtloofgoblodeiaaGreatDoor.tlr
open Go Go.Ev Go.Proofs Go.Proofs.YtloofgoblodeiaaGreatDoor.co Go.Proofs.YtloofgoblodeiaaGreatDoor.am
set_option maxHeartbeats 4000000
set_option maxRecDepth 10000
theorem trusted_fn {m : Mem} {ι : At} {l : List Value} {wv bv : Value} {xs : List Int} {k : Nat} (hft : FT ι (fun b o => m b = some o)) (hm : Laid m) (hl : VRL ι mA l) (hw : SlI m .u8 wv xs) (hb : SlI m .u8 bv (List.replicate (xs.length + 1) 0))
    (hx : ∀ x ∈ xs, 0 ≤ x ∧ x < 256) (hn : xs.length ≤ 1000) (hk : k < xs.length) :
    Ev.Fn Tryz.prog 79 [.agg (toArr l), .int .i64 0, wv, bv, .int .i64 k] m [] fun m' L u => m' = m ∧ L = [] ∧ ∃ (rule : Int) (qt : Nat), u = .tuple (toArr [.int .i64 rule, .int .i64 qt, .int .i64 0]) ∧
      (rule = -1 ∨ (rule = 0 ∧ k < qt)) ∧ k ≤ qt ∧ qt ≤ xs.length := by
  have hw' := hw
  have hb' := hb
  obtain ⟨A, na, ca, rfl, _⟩ := hw'
  obtain ⟨B, nb, cb, rfl, _⟩ := hb'
  have hlen : l.length = 260 := by rw [hl.len]; rfl
  refine Fn.enter (N := 24) hX Tryz.func79 rfl rfl (by show _ ≤ _; simp) (fun w0 hL => ?_)
  conv => whnf
  refine NewReq.mk hL ?_
  clear hL
  intro b0 w hL
  conv => whnf
  refine go ?_;try(clear hL;intro w hL)
  refine LdReq.whole hX rfl rfl 0 hL rfl hlen ?_
  refine go ?_;try(clear hL;intro w hL)
  rw [show (Value.agg (toArr l)).cells.size = 260 from hlen]
  refine go ?_;try(clear hL;intro w hL)
  refine GenReq.iface hX rfl rfl rfl rfl ?_
  refine go ?_;try(clear hL;intro w hL)
  have e1 : ∀ z : List Value, z.length = 260 → spliceL z 0 l = l := fun z hz => by
    have := splice_zero l z [] (by omega)
    rwa [List.append_nil, List.append_nil] at this
  have e2 : VRL ι mA (spliceL (List.replicate 256 (Value.int IntKind.u8 0) ++ [Value.int IntKind.i64 0, Value.int IntKind.i64 0, Value.slice none 0 0, Value.slice none 0 0]) 0 l) := by
    rw [e1 _ (by simp)]; exact hl
  refine CallReq.mk (L1 := []) (L2 := [_]) (longest_fn hft hm e2 hw hb hx hn hk) hL ?_
  clear hL
  rintro u mx L2 w hL - ⟨hmx, rfl, rule, qt, rfl, h1, h2, h3⟩
  rw [hmx] at hL
  refine go ?_;try(clear hL;intro w hL)
  exact RetReq.mk hL.drop ⟨rfl, rfl, rule, qt, rfl, h1, h2, h3⟩
theorem find_fn {m : Mem} {ι : At} {l : List Value} {wv bv : Value} {xs : List Int} {k bm : Nat} (hft : FT ι (fun b o => m b = some o)) (hm : Laid m) (hl : VRL ι mA l) (hw : SlI m .u8 wv xs) (hb : SlI m .u8 bv (List.replicate (xs.length + 1) 0))
    (hx : ∀ x ∈ xs, 0 ≤ x ∧ x < 256) (hn : xs.length ≤ 1000) (hk : k < xs.length) :
    Ev.Fn Tryz.prog 78 [.int .i64 0, wv, bv, .int .i64 k, .pointer (some ⟨bm, 0, none⟩)] m [(bm, .cells (toArr l) 48 (0, 0))] fun m' L u => m' = m ∧ L = [(bm, .cells (toArr l) 48 (0, 0))] ∧ ∃ (rule : Int) (qt : Nat), u = .tuple (toArr [.int .i64 rule, .int .i64 qt, .int .i64 0]) ∧
      (rule = -1 ∨ (rule = 0 ∧ k < qt)) ∧ k ≤ qt ∧ qt ≤ xs.length := by
  have hw' := hw
  have hb' := hb
  obtain ⟨A, na, ca, rfl, _⟩ := hw'
  obtain ⟨B, nb, cb, rfl, _⟩ := hb'
  have hlen : l.length = 260 := by rw [hl.len]; rfl
  refine Fn.enter (N := 21) hX Tryz.func78 rfl rfl (by show _ ≤ _; simp) (fun w0 hL => ?_)
  conv => whnf
  refine go ?_;try(clear hL;intro w hL)
  refine LdReq.whole hX rfl rfl 0 hL rfl hlen ?_
  refine go ?_;try(clear hL;intro w hL)
  refine CallReq.mk (L1 := []) (L2 := [_]) (trusted_fn hft hm hl hw hb hx hn hk) hL ?_
  clear hL
  rintro u mx L2 w hL - ⟨hmx, rfl, rule, qt, rfl, h1, h2, h3⟩
  rw [hmx] at hL
  refine go ?_;try(clear hL;intro w hL)
  exact RetReq.mk hL ⟨rfl, rfl, rule, qt, rfl, h1, h2, h3⟩
end Go.Proofs.YtloofgoblodeiaaGreatDoor.tlr
namespace Go.Proofs.YtloofgoblodeiaaGreatDoor.tlr
open Go Go.Ev Go.Proofs Go.Proofs.YtloofgoblodeiaaGreatDoor.co Go.Proofs.YtloofgoblodeiaaGreatDoor.am
theorem vrl_split {ι : At} : ∀ {a b c : List Value}, VRL ι (a ++ b) c → ∃ a' b', c = a' ++ b' ∧ VRL ι a a' ∧ VRL ι b b'
  | [], b, c, h => ⟨[], c, rfl, .nil, h⟩
  | x :: a, b, _, .cons h1 h2 => by
    obtain ⟨a', b', rfl, g1, g2⟩ := vrl_split h2
    exact ⟨_ :: a', b', rfl, .cons h1 g1, g2⟩
theorem ft_cells {m : Mem} {ι : At} (hft : FT ι (fun b o => m b = some o)) {i : Nat} {cs : List Value} (hx : (i, cs) ∈ mT) : ∃ b k cs', ι i = some (b, k) ∧ VRL ι cs cs' ∧ Cells m ⟨b, 0, none⟩ cs' := by
  obtain ⟨b, k, o, h1, h2, h3⟩ := hft.blk _ hx
  cases h2 with
  | gl hv =>
    rename_i ty fz pre rest
    refine ⟨b, k, pre, h1, hv, fun j v hj => ?_⟩
    have hlt : j < pre.length := (List.getElem?_eq_some_iff.1 hj).1
    rw [addr_add]
    show ocell (m b) (0 + j) = some v
    rw [h3, Nat.zero_add]
    show (toArr (pre ++ rest))[j]? = some v
    rw [show (toArr (pre ++ rest))[j]? = (pre ++ rest)[j]? from List.getElem?_toArray, List.getElem?_append_left hlt]
    exact hj
theorem cells_l {m : Mem} {a : Addr} {x y : List Value} (h : Cells m a (x ++ y)) : Cells m a x := fun j v hj => h j v (by rw [List.getElem?_append_left (List.getElem?_eq_some_iff.1 hj).1]; exact hj)
theorem cells_r {m : Mem} {b o : Nat} {x y : List Value} (h : Cells m ⟨b, o, none⟩ (x ++ y)) : Cells m ⟨b, o + x.length, none⟩ y := fun j v hj => by
  have := h (x.length + j) v (by rw [List.getElem?_append_right (Nat.le_add_right _ _), Nat.add_sub_cancel_left]; exact hj)
  rw [addr_add] at this ⊢
  rw [Nat.add_assoc]
  exact this
theorem vrl_cons {ι : At} {x : Value} {l c : List Value} (h : VRL ι (x :: l) c) : ∃ y c', c = y :: c' ∧ VR ι x y ∧ VRL ι l c' := by
  cases h with
  | cons h1 h2 => exact ⟨_, _, rfl, h1, h2⟩
theorem vrl_nil {ι : At} {c : List Value} (h : VRL ι [] c) : c = [] := by cases h; rfl
theorem ft_spec {m : Mem} {ι : At} {s : List Value} (hft : FT ι (fun b o => m b = some o)) (hs : VRL ι sA s) : ∃ b1 b2 c1 c2 A0 k0 A6 k6, s = [.slice (some ⟨b1, 0, none⟩) 1 c1, .slice (some ⟨b2, 0, none⟩) 1 c2] ∧ Cells m ⟨b1, 0, none⟩ [.string (bs [109, 97, 105, 110])] ∧
    Cells m ⟨b2, 0, none⟩ [.slice A0 1 k0, .int .i64 2, .int .u64 0, .int .u64 8589934592, .int .u64 0, .int .u64 0, .slice A6 0 k6, .int .i64 0, .int .i64 0, .bool false, .int .i64 0, .int .i64 0] := by
  obtain ⟨b1, k1, cs1, e1, r1, q1⟩ := ft_cells hft (i := 17) (List.mem_of_getElem? (show mT[0]? = some (17, [.string (bs [109, 97, 105, 110])]) from rfl))
  obtain ⟨b2, k2, cs2, e2, r2, q2⟩ := ft_cells hft (i := 120) (List.mem_of_getElem? (show mT[3]? = some (120, [.slice (some ⟨24, 0, none⟩) 1 0, .int .i64 2, .int .u64 0, .int .u64 8589934592, .int .u64 0, .int .u64 0, .slice (some ⟨111, 0, none⟩) 0 0, .int .i64 0, .int .i64 0, .bool false, .int .i64 0, .int .i64 0]) from rfl))
  match s, hs with
  | [x, y], .cons h1 (.cons h2 .nil) =>
  obtain ⟨c1, rfl⟩ : ∃ c, x = .slice (some ⟨b1, 0, none⟩) 1 c := by
    cases h1 with
    | same h => cases h
    | slc h g => rw [e1] at h; cases h; exact ⟨_, rfl⟩
    | slx h g _ => omega
  obtain ⟨c2, rfl⟩ : ∃ c, y = .slice (some ⟨b2, 0, none⟩) 1 c := by
    cases h2 with
    | same h => cases h
    | slc h g => rw [e2] at h; cases h; exact ⟨_, rfl⟩
    | slx h g _ => omega
  obtain ⟨z, _, rfl, g1, r1⟩ := vrl_cons r1
  obtain rfl := vrl_nil r1
  obtain ⟨w0, _, rfl, a0, r2⟩ := vrl_cons r2
  obtain ⟨w1, _, rfl, a1, r2⟩ := vrl_cons r2
  obtain ⟨w2, _, rfl, a2, r2⟩ := vrl_cons r2
  obtain ⟨w3, _, rfl, a3, r2⟩ := vrl_cons r2
  obtain ⟨w4, _, rfl, a4, r2⟩ := vrl_cons r2
  obtain ⟨w5, _, rfl, a5, r2⟩ := vrl_cons r2
  obtain ⟨w6, _, rfl, a6, r2⟩ := vrl_cons r2
  obtain ⟨w7, _, rfl, a7, r2⟩ := vrl_cons r2
  obtain ⟨w8, _, rfl, a8, r2⟩ := vrl_cons r2
  obtain ⟨w9, _, rfl, a9, r2⟩ := vrl_cons r2
  obtain ⟨w10, _, rfl, a10, r2⟩ := vrl_cons r2
  obtain ⟨w11, _, rfl, a11, r2⟩ := vrl_cons r2
  obtain rfl := vrl_nil r2
  rw [g1.str] at q1
  rw [a1.int, a2.int, a3.int, a4.int, a5.int, a7.int, a8.int, a9.bool, a10.int, a11.int] at q2
  obtain ⟨A0, k0, rfl, -⟩ := a0.slc_any
  obtain ⟨A6, k6, rfl, -⟩ := a6.slc_any
  exact ⟨b1, b2, c1, c2, A0, k0, A6, k6, rfl, q1, q2⟩
theorem ft_tool {m : Mem} {ι : At} (hft : FT ι (fun b o => m b = some o)) {b k : Nat} (hι : ι 1290 = some (b, k)) : ∃ s p l a n c, VRL ι sA s ∧ VRL ι pA p ∧ VRL ι mA l ∧ n ≤ 9223372036854775807 ∧ Cells m ⟨b, 0, none⟩ (s ++ (p ++ (l ++ [.int .i64 10, .int .i64 3, .slice a n c]))) := by
  have hx : (1290, [.slice (some ⟨17, 0, none⟩) 1 0, .slice (some ⟨120, 0, none⟩) 1 0, .slice none 0 0] ++ List.replicate 97 (.int .u8 0) ++ [.int .u8 1] ++ List.replicate 158 (.int .u8 0) ++ [.int .i64 2, .int .i64 0, .slice (some ⟨1282, 0, none⟩) 3 0, .slice (some ⟨1285, 0, none⟩) 1 0, .int .i64 10, .int .i64 3, .float .f32 0]) ∈ mT := by
    unfold mT
    exact List.Mem.tail _ (List.Mem.tail _ (List.Mem.tail _ (List.Mem.tail _ (List.Mem.tail _ (List.Mem.tail _ (List.Mem.tail _ (List.Mem.tail _ (List.Mem.tail _ (List.Mem.tail _ (List.Mem.tail _ (List.Mem.tail _ (List.Mem.head _))))))))))))
  have e : [.slice (some ⟨17, 0, none⟩) 1 0, .slice (some ⟨120, 0, none⟩) 1 0, .slice none 0 0] ++ List.replicate 97 (.int .u8 0) ++ [.int .u8 1] ++ List.replicate 158 (.int .u8 0) ++ [.int .i64 2, .int .i64 0, .slice (some ⟨1282, 0, none⟩) 3 0, .slice (some ⟨1285, 0, none⟩) 1 0, .int .i64 10, .int .i64 3, .float .f32 0] = sA ++ (pA ++ (mA ++ [.int .i64 10, .int .i64 3, .float .f32 0])) := by
    unfold sA pA mA
    generalize List.replicate 97 (Value.int .u8 0) = r1
    generalize List.replicate 158 (Value.int .u8 0) = r2
    simp only [List.append_assoc, List.cons_append, List.nil_append]
  obtain ⟨b1, k1, cs1, e1, r1, q1⟩ := ft_cells hft (Eq.mp (congrArg (fun z => (1290, z) ∈ mT) e) hx)
  clear hx e
  rw [hι] at e1
  cases e1
  obtain ⟨s, r, rfl, h1, r1⟩ := vrl_split r1
  obtain ⟨p, r, rfl, h2, r1⟩ := vrl_split r1
  obtain ⟨l, r, rfl, h3, r1⟩ := vrl_split r1
  obtain ⟨x, _, rfl, g1, r1⟩ := vrl_cons r1
  obtain ⟨y, _, rfl, g2, r1⟩ := vrl_cons r1
  obtain ⟨z, _, rfl, g3, r1⟩ := vrl_cons r1
  obtain rfl := vrl_nil r1
  obtain rfl := g1.int
  obtain rfl := g2.int
  cases g3 with
  | same h => exact absurd h (by unfold flat1; simp)
  | opq hn => exact ⟨s, p, l, _, _, _, h1, h2, h3, hn, q1⟩
end Go.Proofs.YtloofgoblodeiaaGreatDoor.tlr
namespace Go.Proofs.YtloofgoblodeiaaGreatDoor.tlr
open Go Go.Ev Go.Proofs Go.Proofs.YtloofgoblodeiaaGreatDoor.co
def plc : List Int → Nat × Nat × Nat → Nat × Nat × Nat
  | [], p => p
  | b :: l, (a, i, c) => if b = 10 then plc l (a + 1, i + 1, 1) else plc l (a + 1, i, c + 1)
theorem plc_append (l r : List Int) : ∀ p, plc (l ++ r) p = plc r (plc l p) := by
  induction l with
  | nil => intro ⟨a, i, c⟩; simp [plc]
  | cons x l ih => intro ⟨a, i, c⟩; simp only [List.cons_append, plc]; split <;> exact ih _
theorem plc_snoc (l : List Int) (b : Int) (p : Nat × Nat × Nat) : plc (l ++ [b]) p = if b = 10 then ((plc l p).1 + 1, (plc l p).2.1 + 1, 1) else ((plc l p).1 + 1, (plc l p).2.1, (plc l p).2.2 + 1) := by
  rw [plc_append]; simp only [plc]
theorem plc_bound (l : List Int) : ∀ p, (plc l p).1 = p.1 + l.length ∧ (plc l p).2.1 ≤ p.2.1 + l.length ∧ (plc l p).2.2 ≤ p.2.2 + l.length + 1 := by
  induction l with
  | nil => intro ⟨a, i, c⟩; simp [plc]
  | cons x l ih =>
    intro ⟨a, i, c⟩; simp only [plc]
    split
    · have := ih (a + 1, i + 1, 1); simp at *; omega
    · have := ih (a + 1, i, c + 1); simp at *; omega
def pv (p : Nat × Nat × Nat) : List Value := [.int .i64 p.1, .int .i64 p.2.1, .int .i64 p.2.2]
theorem behind_fn (m : Mem) (p : Nat × Nat × Nat) (v : Value) (zs : List Int) (hr : SlI m .u8 v zs)
   (h1 : p.1 ≤ 1000000) (h2 : p.2.1 ≤ 1000000) (h3 : p.2.2 ≤ 1000000) (h4 : zs.length ≤ 1000000) :
    FnV Tryz.prog 223 [.agg (toArr (pv p)), v] m (.agg (toArr (pv (plc zs p)))) := by
  obtain ⟨A, len, cap, rfl, _⟩ := id hr
  obtain ⟨hl, hcell⟩ := hr.cell
  refine Fn.enter (N := 30) hX Tryz.func223 rfl rfl (by show _ ≤ _; simp) (fun w0 hL => ?_)
  conv => whnf
  refine NewReq.mk hL ?_
  clear hL
  intro b0 w hL
  conv => whnf
  refine NewReq.mk hL ?_
  clear hL
  intro b1 w hL
  conv => whnf
  refine SeqReq.go hX ?_
  conv => whnf
  refine LoopReq.inv hX (fun k : Nat => [(9, .int .i64 k)]) [2, 4, 7, 8]
    (fun k w => k ≤ len ∧ Ev.Loc m [] w0 m [(b1, .cells (toArr (pv (0, 0, 0))) 171 (0, 0)), (b0, .cells (toArr (pv (plc (zs.take k) p))) 171 (0, 0))] w) (fun k => len - k) 0 ⟨by omega, hL⟩ ⟨rfl, trivial⟩ ?_
  clear hL
  rintro k w f ⟨hk, hL⟩
  have hb1 := plc_bound (zs.take k) p
  have hl1 : (zs.take k).length ≤ k := List.length_take_le _ _
  refine go ?_;try(clear hL;intro w hL)
  refine BrReq.dec (fun hlt => ?_) (fun hlt => ?_)
  · have hlt' : k < len := by omega
    have hz : zs[k]? = some zs[k] := List.getElem?_eq_getElem (by omega)
    have e : zs.take (k + 1) = zs.take k ++ [zs[k]] := List.take_succ_eq_append_getElem (by omega)
    have hp := plc_snoc (zs.take k) zs[k] p
    rw [← e] at hp
    obtain ⟨a, rfl, hc⟩ := hcell k _ hz
    conv => whnf
    repeat ((first | refine Idx2Req.mk k a rfl hlt' rfl ?_ | refine LdReq.one hX rfl rfl hL hc ?_ | (refine go1 ?_;try(clear hL;intro w hL))); conv => whnf)
    refine BrReq.dec (fun h10 => ?_) (fun h10 => ?_)
    · rw [if_pos h10] at hp
      refine go ?_;try(clear hL;intro w hL)
      refine ⟨k + 1, ⟨by omega, ?_⟩, by omega, ⟨rfl, trivial⟩, rfl, rfl, rfl, rfl, trivial⟩
      rw [hp]
      exact hL
    · rw [if_neg h10] at hp
      refine go ?_;try(clear hL;intro w hL)
      refine ⟨k + 1, ⟨by omega, ?_⟩, by omega, ⟨rfl, trivial⟩, rfl, rfl, rfl, rfl, trivial⟩
      rw [hp]
      exact hL
  · have : k = zs.length := by omega
    subst this
    rw [List.take_length] at hL
    refine go ?_;try(clear hL;intro w hL)
    exact RetReq.mk hL.drop.drop ⟨rfl, rfl⟩
end Go.Proofs.YtloofgoblodeiaaGreatDoor.tlr
namespace Go.Proofs.YtloofgoblodeiaaGreatDoor.tlr
open Go Go.Ev Go.Proofs Go.Proofs.YtloofgoblodeiaaGreatDoor.co Go.Proofs.YtloofgoblodeiaaGreatDoor.am
set_option maxHeartbeats 4000000
set_option maxRecDepth 10000
def scC (x0 x1 : Value) (bm : Nat) (p : Nat × Nat × Nat) : List Value := [x0, x1, .slice none 0 0, .int .i64 0, .int .i64 p.1, .int .i64 p.2.1, .int .i64 p.2.2, .func (.func 78) (toArr []) (toArr [.pointer (some ⟨bm, 0, none⟩)])]
def tkC (rule : Int) (p : Nat × Nat × Nat) (q : Nat) : List Value := [.int .i64 rule, .int .i64 p.1, .int .i64 q, .int .i64 p.2.1, .int .i64 p.2.2]
theorem do_fn (m : Mem) : FnV Tryz.prog 224 [.agg (toArr [.slice none 0 0, .int .i64 0]), .int .i64 0, .int .i64 0] m (.tuple (toArr [.agg (toArr [.slice none 0 0, .int .i64 0]), .int .i64 0])) := by
  refine Fn.enter (N := 61) hX Tryz.func224 rfl rfl (by show _ ≤ _; simp) (fun w0 hL => ?_)
  conv => whnf
  refine NewReq.mk hL ?_
  clear hL
  intro b3 w hL
  conv => whnf
  refine NewReq.mk hL ?_
  clear hL
  intro b6 w hL
  conv => whnf
  refine go ?_;try(clear hL;intro w hL)
  exact RetReq.mk hL.drop.drop ⟨rfl, rfl⟩
theorem one_fn {m : Mem} {ι : At} {l : List Value} {x0 x1 wv bv : Value} {xs : List Int} {k bx bm : Nat} {p : Nat × Nat × Nat} (hft : FT ι (fun b o => m b = some o)) (hm : Laid m) (hs : VRL ι sA [x0, x1]) (hl : VRL ι mA l) (hw : SlI m .u8 wv xs) (hb : SlI m .u8 bv (List.replicate (xs.length + 1) 0))
    (hx : ∀ x ∈ xs, 0 ≤ x ∧ x < 256) (hn : xs.length ≤ 1000) (hk : k < xs.length) (hp : p.1 = k) (hp1 : p.2.1 ≤ 1 + k) (hp2 : p.2.2 ≤ 1 + 2 * k) :
    Ev.Fn Tryz.prog 150 [.pointer (some ⟨bx, 0, none⟩), wv, bv, .int .i64 k] m [(bx, .cells (toArr (scC x0 x1 bm p)) 177 (0, 0)), (bm, .cells (toArr l) 48 (0, 0))] fun m' L u => m' = m ∧ ∃ (rule : Int) (q : Nat × Nat × Nat),
      L = [(bx, .cells (toArr (scC x0 x1 bm q)) 177 (0, 0)), (bm, .cells (toArr l) 48 (0, 0))] ∧ u = .tuple (toArr [.agg (toArr (tkC rule p q.1)), .bool true, .int .i64 0]) ∧ (rule = -1 ∨ rule = 0) ∧ k < q.1 ∧ q.1 ≤ xs.length ∧ q.2.1 ≤ 1 + q.1 ∧ q.2.2 ≤ 1 + 2 * q.1 := by
  obtain ⟨A, na, ca, rfl, _⟩ := id hw
  obtain ⟨B, nb, cb, rfl, _⟩ := id hb
  obtain ⟨la, la1, la2⟩ := hw.len
  obtain ⟨s1, s2, c1, c2, A0, k0, A6, k6, e, hc1, hc2⟩ := ft_spec hft hs
  cases e
  refine Fn.enter (N := 103) hX Tryz.func150 rfl rfl (by show _ ≤ _; simp) (fun w0 hL => ?_)
  conv => whnf
  refine NewReq.mk hL ?_
  clear hL
  intro b8 w hL
  conv => whnf
  refine go ?_;try(clear hL;intro w hL)
  refine DrawReq.plan hX (.fst 0 (.fst 1 (.fst 2 (.fst 3 (.fst 4 (.fst 5 (.fst 6 (.fst 7 (.fst 9 (.fst 10 (.fst 11 (.alt 8 (.alt 12 (.fst 13 (.fst 14 (.fst 15 (.fst 16 (.fst 17 (.fst 18 (.fst 19 (.done)))))))) (.stop)) (.stop))))))))))))) [_] (by kernel_rfl) (by kernel_rfl) hL (fun h => h.one 1 rfl) ?_
  clear hL
  intro w hL
  refine goq ?_;try(clear hL;intro w hL)
  refine CallReq.val (top_fn hft hm) hL ?_
  clear hL
  intro w hL
  refine SReq.mk (hL.one 1 rfl) ?_
  refine goq ?_;try(clear hL;intro w hL)
  refine CallReq.mk (L1 := [_]) (L2 := [_, _]) (find_fn hft hm hl hw hb hx hn hk) (hL.perm (List.perm_append_comm (l₁ := [_, _]) (l₂ := [_]))) ?_
  clear hL
  rintro u mx L2 w hL - ⟨hmx, rfl, rule, qt, rfl, h1, h2, h3⟩
  rw [hmx] at hL
  refine SReq.mk (hL.one 2 rfl) ?_
  have hsub : ∀ tt, k < tt → tt ≤ xs.length → ∃ q, plc ((xs.take tt).drop k) p = q ∧ q.1 = tt ∧ q.2.1 ≤ 1 + q.1 ∧ q.2.2 ≤ 1 + 2 * q.1 ∧ ((xs.take tt).drop k).length ≤ 1000000 := fun tt g1 g2 => by
    have hb := plc_bound ((xs.take tt).drop k) p
    have hlen : ((xs.take tt).drop k).length = tt - k := by rw [List.length_drop, List.length_take]; omega
    exact ⟨_, rfl, by omega, by omega, by omega, by omega⟩
  rcases h1 with rfl | ⟨rfl, h1⟩
  · obtain ⟨q, hq, q1, q2, q3, q4⟩ := hsub (k + 1) (by omega) (by omega)
    have hv := behind_fn m p _ _ (hw.sub (lo := k) (hi := k + 1) (by omega) (by omega)) (by omega) (by omega) (by omega) q4
    rw [hq] at hv
    conv => whnf
    repeat ((first | refine SReq.mk (hL.one 2 rfl) ?_ | refine ArReq.i64 (by omega) (by omega) ?_ | (refine goq1 ?_;try(clear hL;intro w hL))); conv => whnf)
    refine NewReq.mk hL ?_
    clear hL
    intro b14 w hL
    conv => whnf
    refine go ?_;try(clear hL;intro w hL)
    refine DrawReq.plan hX (.fst 0 (.fst 1 (.fst 2 (.fst 3 (.fst 4 (.fst 5 (.alt 6 (.fst 7 (.fst 8 (.alt 9 (.done) (.stop)))) (.stop)))))))) [_] (by kernel_rfl) (by kernel_rfl) hL (fun h => h.one 0 rfl) ?_
    clear hL
    intro w hL
    conv => whnf
    repeat ((first | refine SlReq.mk k (k + 1) rfl (by omega) (by omega) (by omega) ?_ | (refine goq1 ?_;try(clear hL;intro w hL))); conv => whnf)
    refine CallReq.val hv hL ?_
    clear hL
    intro w hL
    refine SReq.mk (hL.one 0 rfl) ?_
    conv => whnf
    repeat ((first | refine SReq.mk (hL.one 0 rfl) ?_ | (refine goq1 ?_;try(clear hL;intro w hL))); conv => whnf)
    refine DrawReq.plan hX (.fst 0 (.fst 1 (.fst 2 (.fst 3 (.fst 4 (.fst 5 (.fst 6 (.fst 7 (.fst 8 (.fst 9 (.fst 10 (.fst 11 (.fst 12 (.alt 13 (.alt 14 (.done) (.stop)) (.stop))))))))))))))) [_, _] (by kernel_rfl) (by kernel_rfl) hL (fun h => h.sublist (.cons_cons _ (.cons _ (.cons _ (.cons_cons _ .slnil))))) ?_
    clear hL
    intro w hL
    refine goq ?_;try(clear hL;intro w hL)
    refine NewReq.mk hL ?_
    clear hL
    intro b15 w hL
    conv => whnf
    refine SReq.mk (hL.sublist (.cons _ (.cons_cons _ (.cons _ (.cons _ (.cons_cons _ .slnil)))))) ?_
    conv => whnf
    repeat ((first | refine SReq.mk (hL.sublist (.cons _ (.cons_cons _ (.cons _ (.cons _ (.cons_cons _ .slnil)))))) ?_ | (refine goq1 ?_;try(clear hL;intro w hL))); conv => whnf)
    exact RetReq.mk ((hL.sublist (.cons _ (.cons _ (.cons_cons _ (.cons _ (.cons_cons _ .slnil)))))).perm (List.Perm.swap _ _ _)) ⟨rfl, -1, q, rfl, rfl, .inl rfl, by omega, by omega, q2, q3⟩
  · obtain ⟨q, hq, q1, q2, q3, q4⟩ := hsub (qt) (by omega) (by omega)
    have hv := behind_fn m p _ _ (hw.sub (lo := k) (hi := qt) (by omega) (by omega)) (by omega) (by omega) (by omega) q4
    rw [hq] at hv
    conv => whnf
    repeat ((first | refine SReq.mk (hL.one 2 rfl) ?_ | refine ArReq.i64 (by omega) (by omega) ?_ | (refine goq1 ?_;try(clear hL;intro w hL))); conv => whnf)
    refine NewReq.mk hL ?_
    clear hL
    intro b14 w hL
    conv => whnf
    refine go ?_;try(clear hL;intro w hL)
    refine DrawReq.plan hX (.fst 0 (.fst 1 (.fst 2 (.fst 3 (.fst 4 (.fst 5 (.alt 6 (.fst 7 (.fst 8 (.alt 9 (.done) (.stop)))) (.stop)))))))) [_] (by kernel_rfl) (by kernel_rfl) hL (fun h => h.one 0 rfl) ?_
    clear hL
    intro w hL
    conv => whnf
    repeat ((first | refine SlReq.mk k (qt) rfl (by omega) (by omega) (by omega) ?_ | (refine goq1 ?_;try(clear hL;intro w hL))); conv => whnf)
    refine CallReq.val hv hL ?_
    clear hL
    intro w hL
    refine SReq.mk (hL.one 0 rfl) ?_
    conv => whnf
    repeat ((first | refine SReq.mk (hL.one 0 rfl) ?_ | (refine goq1 ?_;try(clear hL;intro w hL))); conv => whnf)
    refine DrawReq.plan hX (.fst 0 (.fst 1 (.fst 2 (.fst 3 (.fst 4 (.fst 5 (.fst 6 (.fst 7 (.fst 8 (.fst 9 (.fst 10 (.fst 11 (.fst 12 (.alt 13 (.alt 14 (.done) (.stop)) (.stop))))))))))))))) [_, _] (by kernel_rfl) (by kernel_rfl) hL (fun h => h.sublist (.cons_cons _ (.cons _ (.cons _ (.cons_cons _ .slnil))))) ?_
    clear hL
    intro w hL
    refine goq ?_;try(clear hL;intro w hL)
    refine NewReq.mk hL ?_
    clear hL
    intro b15 w hL
    conv => whnf
    refine SReq.mk (hL.sublist (.cons _ (.cons_cons _ (.cons _ (.cons _ (.cons_cons _ .slnil)))))) ?_
    conv => whnf
    repeat ((first | refine SReq.mk (hL.sublist (.cons _ (.cons_cons _ (.cons _ (.cons _ (.cons_cons _ .slnil)))))) ?_ | (refine goq1 ?_;try(clear hL;intro w hL))); conv => whnf)
    refine Idx2Req.mk 0 _ rfl (by decide) rfl ?_
    conv => whnf
    repeat ((first | refine LdReq.agg hX rfl rfl hL rfl hc2 ?_ | (refine go1 ?_;try(clear hL;intro w hL))); conv => whnf)
    refine NewReq.mk hL ?_
    clear hL
    intro b16 w hL
    conv => whnf
    refine go ?_;try(clear hL;intro w hL)
    refine DrawReq.plan hX (.fst 0 (.fst 1 (.fst 2 (.fst 3 (.fst 4 (.fst 5 (.fst 6 (.fst 7 (.alt 8 (.fst 9 (.fst 10 (.fst 11 (.alt 12 (.alt 13 (.fst 14 (.done)) (.stop)) (.stop))))) (.alt 12 (.alt 8 (.fst 9 (.fst 10 (.fst 11 (.alt 13 (.fst 14 (.done)) (.stop))))) (.stop)) (.stop))))))))))) [_, _] (by kernel_rfl) (by kernel_rfl) hL (fun h => h.sublist (.cons_cons _ (.cons _ (.cons _ (.cons _ (.cons _ (.cons_cons _ .slnil))))))) ?_
    clear hL
    intro w hL
    refine goq ?_;try(clear hL;intro w hL)
    refine AltQ.of ⟨?_, ?_⟩
    · refine goq ?_;try(clear hL;intro w hL)
      refine CallReq.val (do_fn m) hL ?_
      clear hL
      intro w hL
      refine SReq.mk (hL.sublist (.cons_cons _ (.cons _ (.cons _ (.cons _ (.cons _ (.cons_cons _ .slnil))))))) ?_
      refine goq ?_;try(clear hL;intro w hL)
      refine NewReq.mk hL ?_
      clear hL
      intro b17 w hL
      conv => whnf
      refine SReq.mk (hL.sublist (.cons _ (.cons_cons _ (.cons _ (.cons _ (.cons _ (.cons _ (.cons_cons _ .slnil)))))))) ?_
      conv => whnf
      repeat ((first | refine SReq.mk (hL.sublist (.cons _ (.cons_cons _ (.cons _ (.cons _ (.cons _ (.cons _ (.cons_cons _ .slnil)))))))) ?_ | (refine goq1 ?_;try(clear hL;intro w hL))); conv => whnf)
      refine DrawReq.plan hX (.fst 0 (.fst 1 (.fst 2 (.fst 3 (.fst 4 (.alt 5 (.fst 6 (.fst 7 (.done))) (.stop))))))) [_, _] (by kernel_rfl) (by kernel_rfl) hL (fun h => h.sublist (.cons _ (.cons_cons _ (.cons_cons _ (.cons _ (.cons _ (.cons _ (.cons _ .slnil)))))))) ?_
      clear hL
      intro w hL
      conv => whnf
      repeat ((first | refine SReq.mk (hL.sublist (.cons _ (.cons_cons _ (.cons_cons _ (.cons _ (.cons _ (.cons _ (.cons _ .slnil)))))))) ?_ | (refine goq1 ?_;try(clear hL;intro w hL))); conv => whnf)
      exact RetReq.mk ((hL.sublist (.cons _ (.cons _ (.cons _ (.cons _ (.cons_cons _ (.cons _ (.cons_cons _ .slnil)))))))).perm (List.Perm.swap _ _ _)) ⟨rfl, 0, q, rfl, rfl, .inr rfl, by omega, by omega, q2, q3⟩
    · refine goq ?_;try(clear hL;intro w hL)
      refine NewReq.mk hL ?_
      clear hL
      intro b17 w hL
      conv => whnf
      refine SReq.mk (hL.sublist (.cons _ (.cons_cons _ (.cons _ (.cons _ (.cons _ (.cons _ (.cons_cons _ .slnil)))))))) ?_
      refine goq ?_;try(clear hL;intro w hL)
      refine CallReq.val (do_fn m) hL ?_
      clear hL
      intro w hL
      refine SReq.mk (hL.sublist (.cons _ (.cons_cons _ (.cons _ (.cons _ (.cons _ (.cons _ (.cons_cons _ .slnil)))))))) ?_
      conv => whnf
      repeat ((first | refine SReq.mk (hL.sublist (.cons _ (.cons_cons _ (.cons _ (.cons _ (.cons _ (.cons _ (.cons_cons _ .slnil)))))))) ?_ | (refine goq1 ?_;try(clear hL;intro w hL))); conv => whnf)
      refine DrawReq.plan hX (.fst 0 (.fst 1 (.fst 2 (.fst 3 (.fst 4 (.alt 5 (.fst 6 (.fst 7 (.done))) (.stop))))))) [_, _] (by kernel_rfl) (by kernel_rfl) hL (fun h => h.sublist (.cons _ (.cons_cons _ (.cons_cons _ (.cons _ (.cons _ (.cons _ (.cons _ .slnil)))))))) ?_
      clear hL
      intro w hL
      conv => whnf
      repeat ((first | refine SReq.mk (hL.sublist (.cons _ (.cons_cons _ (.cons_cons _ (.cons _ (.cons _ (.cons _ (.cons _ .slnil)))))))) ?_ | (refine goq1 ?_;try(clear hL;intro w hL))); conv => whnf)
      exact RetReq.mk ((hL.sublist (.cons _ (.cons _ (.cons _ (.cons _ (.cons_cons _ (.cons _ (.cons_cons _ .slnil)))))))).perm (List.Perm.swap _ _ _)) ⟨rfl, 0, q, rfl, rfl, .inr rfl, by omega, by omega, q2, q3⟩
end Go.Proofs.YtloofgoblodeiaaGreatDoor.tlr
namespace Go.Proofs.YtloofgoblodeiaaGreatDoor.tlr
open Go Go.Ev Go.Proofs Go.Proofs.YtloofgoblodeiaaGreatDoor.co Go.Proofs.YtloofgoblodeiaaGreatDoor.am
set_option maxHeartbeats 4000000
set_option maxRecDepth 10000
def TkOk (r : List Value) : Prop := ∃ a b c d e : Int, r = [.int .i64 a, .int .i64 b, .int .i64 c, .int .i64 d, .int .i64 e] ∧ (-1 ≤ a ∧ a ≤ 100000) ∧ (-1 ≤ b ∧ b ≤ 100000) ∧ (-1 ≤ c ∧ c ≤ 100000) ∧ (-1 ≤ d ∧ d ≤ 100000) ∧ (-1 ≤ e ∧ e ≤ 100000)
theorem tks_len {ts : List (List Value)} (h : ∀ r ∈ ts, TkOk r) : ts.flatten.length = ts.length * 5 := by
  induction ts with
  | nil => rfl
  | cons r ts ih =>
    obtain ⟨a, b, c, d, e, rfl, -⟩ := h r List.mem_cons_self
    rw [List.flatten_cons, List.length_append, ih fun r hr => h r (List.mem_cons_of_mem _ hr)]
    simp
    omega
abbrev stO : Obj := .cells (toArr [.slice none 0 0, .int .i64 0]) 90 (0, 0)
theorem all_fn {m : Mem} {ι : At} {l : List Value} {x0 x1 wv bv : Value} {xs : List Int} {bx bm : Nat} (hft : FT ι (fun b o => m b = some o)) (hm : Laid m) (hs : VRL ι sA [x0, x1]) (hl : VRL ι mA l) (hw : SlI m .u8 wv xs) (hb : SlI m .u8 bv (List.replicate (xs.length + 1) 0))
    (hx : ∀ x ∈ xs, 0 ≤ x ∧ x < 256) (hn : xs.length ≤ 1000) :
    Ev.Fn Tryz.prog 80 [.pointer (some ⟨bx, 0, none⟩), wv, bv] m [(bx, .cells (toArr (scC x0 x1 bm (0, 1, 1))) 177 (0, 0)), (bm, .cells (toArr l) 48 (0, 0))] fun m' L u => m' = m ∧ ∃ (A : Option Addr) (n c : Nat) (ts : List (List Value)) (Lo L2 : Own),
      L = Lo ++ L2 ∧ u = .tuple (toArr [.slice A n c, .agg (toArr [.slice none 0 0, .int .i64 0]), .int .i64 0]) ∧ OwnS 94 5 (.slice A n c) ts.flatten Lo ∧ (∀ r ∈ ts, TkOk r) ∧ ts.length ≤ 1000 := by
  obtain ⟨A, na, ca, rfl, _⟩ := id hw
  obtain ⟨B, nb, cb, rfl, _⟩ := id hb
  obtain ⟨la, la1, la2⟩ := hw.len
  refine Fn.enter (N := 60) hX Tryz.func80 rfl rfl (by show _ ≤ _; simp) (fun w0 hL => ?_)
  conv => whnf
  refine NewReq.mk hL ?_
  clear hL
  intro b7 w hL
  conv => whnf
  refine go ?_;try(clear hL;intro w hL)
  refine LoopReq.inv hX (fun s : (Nat × Nat × Nat) × List (List Value) × Value × Own × Value × Value => [(9, s.2.2.1), (37, s.2.2.2.2.1), (38, s.2.2.2.2.2)]) [0, 1, 2, 7]
    (fun s w => (s.1.1 ≤ xs.length ∧ s.1.2.1 ≤ 1 + s.1.1 ∧ s.1.2.2 ≤ 1 + 2 * s.1.1 ∧ s.2.1.length ≤ s.1.1 ∧ (∀ r ∈ s.2.1, TkOk r) ∧ OwnS 94 5 s.2.2.1 s.2.1.flatten s.2.2.2.1) ∧ Ev.Loc m [bx, bm] w0 m ((b7, stO) :: (bx, .cells (toArr (scC x0 x1 bm s.1)) 177 (0, 0)) :: (bm, .cells (toArr l) 48 (0, 0)) :: s.2.2.2.1) w)
    (fun s => xs.length - s.1.1) ((0, 1, 1), [], .slice none 0 0, [], undef, undef) ⟨⟨Nat.zero_le _, Nat.le_refl _, Nat.le_refl _, Nat.le_refl _, fun _ h => (by cases h), OwnS.nil _ _⟩, hL⟩ ?_ ?_
  · exact ⟨rfl, rfl, rfl, trivial⟩
  clear hL
  rintro ⟨⟨p, p1, p2⟩, ts, v, Lo, u1, u2⟩ w f ⟨⟨h1, h2, h3, h4, h5, ho⟩, hL⟩
  dsimp only at h1 h2 h3 h4 h5 ho hL
  obtain ⟨Ao, no, co, rfl, hno⟩ := ho.slice
  refine go ?_;try(clear hL;intro w hL)
  refine BrReq.dec (fun hlt => ?_) (fun hlt => ?_)
  · have hlt' : p < xs.length := by dsimp only at hlt; omega
    refine go ?_;try(clear hL;intro w hL)
    refine CallReq.mk (L1 := [_, _]) (L2 := _ :: Lo) (one_fn (p := (p, p1, p2)) hft hm hs hl hw hb hx hn hlt' rfl h2 h3) (hL.perm (List.perm_append_comm (l₁ := [_]) (l₂ := [_, _]) |>.append_right Lo)) ?_
    clear hL
    rintro u mx L2 w hL - ⟨hmx, rule, q, rfl, rfl, g1, g2, g3, g4, g5⟩
    rw [hmx] at hL
    replace hL := hL.perm (List.perm_append_comm (l₁ := [_, _]) (l₂ := [_]) |>.append_right Lo)
    refine go ?_;try(clear hL;intro w hL)
    refine NewReq.mk hL ?_
    clear hL
    intro b10 w hL
    conv => whnf
    refine go ?_;try(clear hL;intro w hL)
    refine NewReq.mk hL ?_
    clear hL
    intro g w hL
    conv => whnf
    refine go ?_;try(clear hL;intro w hL)
    replace hL : Ev.Loc m [bx, bm] w0 m ((g, .cells (toArr (tkC rule (p, p1, p2) q.1)) 94 (0, 0)) :: (Lo ++ [(b7, stO), (bx, .cells (toArr (scC x0 x1 bm q)) 177 (0, 0)), (bm, .cells (toArr l) 48 (0, 0))])) w :=
      (hL.sublist (.cons_cons _ (.cons _ (List.Sublist.refl _)))).perm (List.Perm.cons _ (List.perm_append_comm (l₁ := [_, _, _]) (l₂ := Lo)))
    refine RunReq.push hX 88 94 rfl rfl rfl rfl rfl ho hL rfl rfl (by rw [tks_len h5]; show _ + 5 ≤ _; omega) rfl ?_
    clear hL
    intro A2 n2 c2 L2 w hn2 ho2 hL
    replace hL := hL.perm (List.perm_append_comm (l₁ := L2) (l₂ := [_, _, _]))
    rw [show ts.flatten ++ tkC rule (p, p1, p2) q.1 = (ts ++ [tkC rule (p, p1, p2) q.1]).flatten by simp] at ho2
    have h5' : ∀ r ∈ ts ++ [tkC rule (p, p1, p2) q.1], TkOk r := fun r hr => by
      rcases List.mem_append.1 hr with hr | hr
      · exact h5 r hr
      · rw [List.mem_singleton.1 hr]
        dsimp only at g2 g3 g4 g5
        refine ⟨rule, p, q.1, p1, p2, rfl, ?_, ?_, ?_, ?_, ?_⟩ <;> omega
    refine go ?_;try(clear hL;intro w hL)
    exact rnd (q, ts ++ [tkC rule (p, p1, p2) q.1], .slice A2 n2 c2, L2, undef, undef) ⟨⟨g3, g4, g5, by simp; omega, h5', ho2⟩, hL⟩
  · refine go ?_;try(clear hL;intro w hL)
    refine DrawReq.plan hX (.fst 0 (.fst 1 (.fst 2 (.fst 3 (.fst 4 (.fst 5 (.alt 6 (.fst 7 (.done)) (.stop)))))))) [_] (by kernel_rfl) (by kernel_rfl) hL (fun h => h.one 1 rfl) ?_
    clear hL
    intro w hL
    conv => whnf
    repeat ((first | refine SReq.mk (hL.one 1 rfl) ?_ | (refine goq1 ?_;try(clear hL;intro w hL))); conv => whnf)
    exact RetReq.mk (hL.perm (List.perm_append_comm (l₁ := [_, _, _]) (l₂ := Lo))) ⟨rfl, Ao, no, co, ts, Lo, _, rfl, rfl, ho, h5, by omega⟩
end Go.Proofs.YtloofgoblodeiaaGreatDoor.tlr
