/- LazyKeeps, proved: a lazy machine keeps no more than it may, makes nothing twice that it keeps, and forgets all at a flush. Conditions: none beyond the row its own.: part 7 of 13 of the proof. Conditions: none. -/
import Derived.Test.YtaooenndoopgdaaGreatDoorK6
import Derived.Test.YtaooenndoopgdaaGreatDoorK2
import Derived.Test.YtaooenndoopgdaaGreatDoorK1
namespace Go.Proofs.YtaooenndoopgdaaGreatDoor.ar
open Go Go.Ev Go.Proofs
theorem erase_len {l : List Int} {z : Int} : l.length ≤ (l.erase z).length + 1 := by
 rw [List.length_erase]; split <;> omega
theorem nodup_le : ∀ (N : Nat) (l : List Int), l.Nodup → (∀ z ∈ l, 0 ≤ z ∧ z < N) → l.length ≤ N
 | 0, l, _, h => by
   cases l with
   | nil => simp
   | cons a l => have := h a (by simp); omega
 | N + 1, l, hn, h => by
   have := nodup_le N (l.erase N) (hn.erase _) fun z hz => by
    have h1 := h z (List.mem_of_mem_erase hz)
    have h2 : z ≠ N := fun e => by
     rw [e] at hz
     exact (hn.mem_erase_iff.1 hz).1 rfl
    omega
   have := erase_len (l := l) (z := N)
   omega
theorem memF_some {ns : List Nd} (hO : OkA ns) {kd : Int} (hkd : kd = 4 ∨ kd = 5) : ∀ (k : Nat) (st out seen : List Int), (∀ z ∈ st, okId ns z) → (∀ z ∈ seen, okId ns z) → seen.Nodup → st.length + 2 * (ns.length - seen.length) < k → ∃ res, memF ns kd k st out seen = some res := by
 intro k
 induction k with
 | zero => intro st out seen _ _ _ h; omega
 | succ k ih =>
   intro st out seen hst hseen hnd hlt
   cases st with
   | nil => exact ⟨out, rfl⟩
   | cons id st =>
     have hid := hst id (by simp)
     have hst' : ∀ z ∈ st, okId ns z := fun z hz => hst z (by simp [hz])
     rw [memF]
     simp only [List.length_cons] at hlt
     split
     ·exact ih _ _ _ hst' hseen hnd (by omega)
     ·rename_i hns
      have hs2 : ∀ z ∈ seen ++ [id], okId ns z := fun z hz => (List.mem_append.1 hz).elim (hseen z) fun h => (List.mem_singleton.1 h) ▸ hid
      have hnd2 : (seen ++ [id]).Nodup := by
       rw [List.nodup_append]
       exact ⟨hnd, by simp, fun a ha b hb e => hns (by rw [List.mem_singleton.1 hb] at e; exact e ▸ ha)⟩
      have hle := nodup_le ns.length _ hnd2 (fun z hz => hs2 z hz)
      rw [List.length_append] at hle
      simp only [List.length_singleton] at hle
      split
      ·rename_i hk
       have hpt := okId_parts hO hid (by omega)
       refine ih _ _ _ (fun z hz => (List.mem_cons.1 hz).elim (fun h => h ▸ hpt.2) fun h => (List.mem_cons.1 h).elim (fun h => h ▸ hpt.1) fun h => hst' z h) hs2 hnd2 ?_
       simp only [List.length_cons, List.length_append, List.length_nil]; omega
      ·exact ih _ _ _ hst' hs2 hnd2 (by simp only [List.length_append, List.length_singleton]; omega)
def memN (ns : List Nd) (kd : Int) (l : List Int) : List Int := (memF ns kd (l.length + 2 * ns.length + 1) l.reverse [] []).getD []
theorem memN_eq {ns : List Nd} (hO : OkA ns) {kd : Int} (hkd : kd = 4 ∨ kd = 5) {l : List Int} (hl : ∀ z ∈ l, okId ns z) : memF ns kd (l.length + 2 * ns.length + 1) l.reverse [] [] = some (memN ns kd l) := by
 obtain ⟨res, h⟩ := memF_some hO hkd (l.length + 2 * ns.length + 1) l.reverse [] [] (by simpa using hl) (by simp) (by simp) (by simp only [List.length_reverse, List.length_nil]; omega)
 unfold memN
 rw [h]; rfl
theorem memF_ok {ns : List Nd} (hO : OkA ns) {kd : Int} (hkd : kd = 4 ∨ kd = 5) : ∀ (k : Nat) (st out seen res : List Int), (∀ z ∈ st, okId ns z) → (∀ z ∈ out, okId ns z) → memF ns kd k st out seen = some res → ∀ z ∈ res, okId ns z := by
 intro k
 induction k with
 | zero => intro st out seen res _ _ h; cases h
 | succ k ih =>
   intro st out seen res hst hout h
   cases st with
   | nil => rw [memF] at h; cases h; exact hout
   | cons id st =>
     have hid := hst id (by simp)
     have hst' : ∀ z ∈ st, okId ns z := fun z hz => hst z (by simp [hz])
     rw [memF] at h
     split at h
     ·exact ih _ _ _ _ hst' hout h
     split at h
     ·have hpt := okId_parts hO hid (by omega)
      exact ih _ _ _ _ (fun z hz => (List.mem_cons.1 hz).elim (fun h => h ▸ hpt.2) fun h => (List.mem_cons.1 h).elim (fun h => h ▸ hpt.1) fun h => hst' z h) hout h
     ·exact ih _ _ _ _ hst' (fun z hz => (List.mem_append.1 hz).elim (hout z) fun h => (List.mem_singleton.1 h) ▸ hid) h
theorem memN_ok {ns : List Nd} (hO : OkA ns) {kd : Int} (hkd : kd = 4 ∨ kd = 5) {l : List Int} (hl : ∀ z ∈ l, okId ns z) : ∀ z ∈ memN ns kd l, okId ns z :=
 memF_ok hO hkd _ _ _ _ _ (by simpa using hl) (by simp) (memN_eq hO hkd hl)
theorem memF_len {ns : List Nd} {kd : Int} : ∀ (k : Nat) (st out seen res : List Int), memF ns kd k st out seen = some res → res.length ≤ out.length + k := by
 intro k
 induction k with
 | zero => intro st out seen res h; cases h
 | succ k ih =>
   intro st out seen res h
   cases st with
   | nil => rw [memF] at h; cases h; omega
   | cons id st =>
     rw [memF] at h
     split at h
     ·have := ih _ _ _ _ h; omega
     split at h
     ·have := ih _ _ _ _ h; omega
     ·have := ih _ _ _ _ h; simp only [List.length_append, List.length_singleton] at this; omega
theorem memN_len {ns : List Nd} (hO : OkA ns) {kd : Int} (hkd : kd = 4 ∨ kd = 5) {l : List Int} (hl : ∀ z ∈ l, okId ns z) : (memN ns kd l).length ≤ l.length + 2 * ns.length + 1 := by
 have := memF_len _ _ _ _ _ (memN_eq hO hkd hl)
 simpa using this
def ndP (kd a b : Int) : Nd := ⟨kd, 0, 0, 0, 0, a, b, false⟩
def kdG : Bool → Int | true => 5 | false => 4
def nothingN : Bool → List Nd → List Nd × Int | true => allN | false => noneN
def winsN : Bool → List Nd → List Nd × Int | true => noneN | false => allN
def chainN (kd : Int) : List Nd → List Int → Int → List Nd × Int
 | ns, [], out => (ns, out)
 | ns, z :: rest, out => chainN kd (pN ns (ndP kd z out)).1 rest (pN ns (ndP kd z out)).2
def chainR (kd : Int) (ns : List Nd) (no : Int) : List Int → List Nd × Int
 | [] => (ns, no)
 | z :: rest => chainN kd ns rest z
def restN (g : Bool) (ns : List Nd) (l : List Int) (no wi : Int) : List Nd × Int :=
 if wi ∈ l then (ns, wi) else chainR (kdG g) ns no (Lib.compact (sortI (dropI no l))).reverse
def thereN (ns : List Nd) (l : List Int) : Bool := l.all fun id => decide (0 ≤ id ∧ id < ns.length)
def gputN (g : Bool) (ns : List Nd) (l : List Int) : List Nd × Int :=
 if thereN ns l = false then (ns, -1) else
 restN g (gbytesN g (winsN g (nothingN g ns).1).1 (memN (winsN g (nothingN g ns).1).1 (kdG g) l)).1 (gbytesN g (winsN g (nothingN g ns).1).1 (memN (winsN g (nothingN g ns).1).1 (kdG g) l)).2 (nothingN g ns).2 (winsN g (nothingN g ns).1).2
theorem kdG_or (g : Bool) : kdG g = 4 ∨ kdG g = 5 := by cases g; exact .inl rfl; exact .inr rfl
theorem okA_nothing {ns : List Nd} (h : OkA ns) (g : Bool) : OkA (nothingN g ns).1 := by cases g; exact okA_none h; exact okA_all h
theorem okA_wins {ns : List Nd} (h : OkA ns) (g : Bool) : OkA (winsN g ns).1 := by cases g; exact okA_all h; exact okA_none h
theorem inN_P {kd a b : Int} (h : 0 ≤ kd ∧ kd ≤ 8) (ha : i64 a) (hb : i64 b) : InN (ndP kd a b) := ⟨by unfold i64 ndP; simp only; omega, by simp [u64, ndP], by simp [u64, ndP], by simp [u64, ndP], by simp [u64, ndP], ha, hb⟩
theorem pN_i64 {ns : List Nd} (h : OkA ns) (x : Nd) : i64 (pN ns x).2 := putI_i64 ns x h.len
theorem bytesN_i64 {ns : List Nd} (h : OkA ns) (s : S4) : i64 (bytesN ns s).2 := by unfold bytesN; split; exact pN_i64 h _; exact pN_i64 h _
theorem nothing_i64 {ns : List Nd} (h : OkA ns) (g : Bool) : i64 (nothingN g ns).2 := by cases g; exact pN_i64 h _; exact pN_i64 (okA_none h) _
theorem wins_i64 {ns : List Nd} (h : OkA ns) (g : Bool) : i64 (winsN g ns).2 := by cases g; exact pN_i64 (okA_none h) _; exact pN_i64 h _
theorem putN_pre (ns : List Nd) (x : Nd) : ns <+: (putN ns x).1 := by
 unfold putN
 split
 ·exact List.prefix_refl _
 split
 ·exact List.prefix_refl _
 split
 ·exact List.prefix_refl _
 ·exact List.prefix_append _ _
theorem pN_pre (ns : List Nd) (x : Nd) : ns <+: (pN ns x).1 := putN_pre ns x
theorem none_pre (ns : List Nd) : ns <+: (noneN ns).1 := pN_pre _ _
theorem all_pre (ns : List Nd) : ns <+: (allN ns).1 := (pN_pre _ _).trans (pN_pre _ _)
theorem nothing_pre (g : Bool) (ns : List Nd) : ns <+: (nothingN g ns).1 := by cases g; exact none_pre ns; exact all_pre ns
theorem wins_pre (g : Bool) (ns : List Nd) : ns <+: (winsN g ns).1 := by cases g; exact all_pre ns; exact none_pre ns
theorem bytesN_pre (ns : List Nd) (s : S4) : ns <+: (bytesN ns s).1 := by unfold bytesN; split; exact pN_pre _ _; exact pN_pre _ _
theorem okId_pre {ns ns' : List Nd} (h : ns <+: ns') {z : Int} (hz : okId ns z) : okId ns' z := by
 have := h.length_le
 unfold okId at *; omega
theorem split_mem (g : Bool) (ns : List Nd) (l : List Int) : ∀ z ∈ (splitN g ns l).1, z ∈ l := by
 unfold splitN
 suffices h : ∀ (p : List Int × Option S4), ∀ z ∈ (l.foldl (stepS g ns) p).1, z ∈ p.1 ∨ z ∈ l by
  intro z hz
  exact (h ([], none) z hz).elim (fun h => absurd h (by simp)) id
 induction l with
 | nil => intro p z h; exact .inl h
 | cons a l ih =>
   intro p z hz
   have h := ih (stepS g ns p a) z hz
   rcases h with h | h
   ·unfold stepS at h
    split at h
    ·rcases List.mem_append.1 h with h | h
     ·exact .inl h
     ·exact .inr (by rw [List.mem_singleton.1 h]; simp)
    ·split at h <;> exact .inl h
   ·exact .inr (by simp [h])
theorem gbytes_i64 {ns : List Nd} (hO : OkA ns) (g : Bool) {l : List Int} (hl : ∀ z ∈ l, okId ns z) : ∀ z ∈ (gbytesN g ns l).2, i64 z := by
 unfold gbytesN
 have hs := split_mem g ns l
 split
 ·intro z hz; exact okId_i64 hO.len (hl z (hs z hz))
 ·intro z hz
  rcases List.mem_append.1 hz with h | h
  ·exact okId_i64 hO.len (hl z (hs z h))
  ·rw [List.mem_singleton.1 h]; exact bytesN_i64 hO _
theorem gbytes_len (g : Bool) (ns : List Nd) (l : List Int) : (gbytesN g ns l).2.length ≤ l.length + 1 := by
 have := splitN_len g ns l l.length
 rw [List.take_length] at this
 unfold gbytesN
 split
 ·simp only; omega
 ·simp only [List.length_append, List.length_singleton]; omega
theorem compact_mem {l : List Int} {z : Int} (h : z ∈ Lib.compact l) : z ∈ l := by
 unfold Lib.compact Lib.compactUpTo at h
 obtain ⟨j, hj, rfl⟩ := List.mem_map.1 h
 have hj := List.mem_range.1 (List.mem_filter.1 hj).1
 simp [getElem!_pos, hj]
theorem compact_len (l : List Int) : (Lib.compact l).length ≤ l.length := by
 unfold Lib.compact Lib.compactUpTo
 rw [List.length_map]
 have := List.length_filter_le (Lib.keeps l.toArray) (List.range l.length)
 rwa [List.length_range] at this
theorem csd_mem {no : Int} {l : List Int} {z : Int} (h : z ∈ Lib.compact (sortI (dropI no l))) : z ∈ l := by
 have h := compact_mem h
 unfold sortI at h
 rw [List.mem_mergeSort] at h
 exact (List.mem_filter.1 h).1
theorem csd_len (no : Int) (l : List Int) : (Lib.compact (sortI (dropI no l))).length ≤ l.length := by
 have h1 := compact_len (sortI (dropI no l))
 have h2 : (sortI (dropI no l)).length = (dropI no l).length := by unfold sortI; rw [List.length_mergeSort]
 have := dropI_len no l
 omega
theorem okA_chain {kd : Int} (h : 0 ≤ kd ∧ kd ≤ 8) : ∀ (l : List Int) (ns : List Nd) (out : Int), OkA ns → (∀ z ∈ l, i64 z) → i64 out → OkA (chainN kd ns l out).1
 | [], _, _, h, _, _ => h
 | z :: l, ns, out, hO, hl, ho => okA_chain h l _ _ (okA_p hO (inN_P h (hl z (by simp)) ho)) (fun y hy => hl y (by simp [hy])) (pN_i64 hO _)
theorem okA_chainR {kd : Int} (h : 0 ≤ kd ∧ kd ≤ 8) {ns : List Nd} (hO : OkA ns) (no : Int) (l : List Int) (hl : ∀ z ∈ l, i64 z) : OkA (chainR kd ns no l).1 := by
 cases l with
 | nil => exact hO
 | cons z l => exact okA_chain h l ns z hO (fun y hy => hl y (by simp [hy])) (hl z (by simp))
theorem there_ok {ns : List Nd} {l : List Int} (h : ¬ thereN ns l = false) : ∀ z ∈ l, okId ns z := by
 have h : thereN ns l = true := by cases hh : thereN ns l; exact absurd hh h; rfl
 unfold thereN at h
 rw [List.all_eq_true] at h
 exact fun z hz => of_decide_eq_true (p := 0 ≤ z ∧ z < ns.length) (h z hz)
theorem kdG_le (g : Bool) : 0 ≤ kdG g ∧ kdG g ≤ 8 := by cases g <;> decide
theorem okA_gput {ns : List Nd} (hO : OkA ns) (g : Bool) (l : List Int) : OkA (gputN g ns l).1 := by
 unfold gputN
 split
 ·exact hO
 ·rename_i ht
  have ht := there_ok ht
  have h2 := okA_wins (okA_nothing hO g) g
  have hpre := (nothing_pre g ns).trans (wins_pre g (nothingN g ns).1)
  generalize (winsN g (nothingN g ns).1).1 = ns2 at h2 hpre
  have hm := memN_ok h2 (kdG_or g) fun z hz => okId_pre hpre (ht z hz)
  have h3 := okA_gbytes h2 g (memN ns2 (kdG g) l)
  have hi := gbytes_i64 h2 g hm
  unfold restN
  split
  ·exact h3
  ·exact okA_chainR (kdG_le g) h3 _ _ fun z hz => hi z (csd_mem (List.mem_reverse.1 hz))
set_option maxHeartbeats 4000000 in
theorem gputO_fn (m : Mem) (ab : Nat) (ns : List Nd) (L : Own) (hA : Ar ab ns L) (hO : OkA ns) (v : Value) (l : List Int) (hv : SlI m .i64 v l) (hlb : l.length ≤ 20000) :
  Ev.Fn Tryz.prog 178 [.agg (toArr grO), .pointer (some ⟨ab, 0, none⟩), v] m L fun _ L' u => u = .int .i64 (gputN false ns l).2 ∧ Ar ab (gputN false ns l).1 L' := by
 obtain ⟨A, n, c, rfl, -⟩ := id hv
 have hmx : maxLen = 9223372036854775807 := rfl
 refine Fn.enter (N := 70) hX Tryz.func178 rfl rfl (by show _ ≤ _; simp) (fun w0 hL => ?_)
 conv => whnf
 generalize keys L = S0 at hL ⊢
 refine NewReq.mk hL ?_
 clear hL
 intro b3 w hL
 conv => whnf
 replace hL : Ev.Loc m S0 w0 m ((b3, .cells (toArr grO) 248 (0, 0)) :: L) w := hL
 refine go ?_;try(clear hL;intro w hL)
 refine CallReq.li (L1 := L) (there2_fn m ab ns L hA _ l hv) (hL.back (L1 := [_])) ?_
 clear hL
 intro w hL
 have hL := hL.back (L2 := [_])
 unfold gputN
 have eth : (l.all fun id => decide (0 ≤ id ∧ id < ns.length)) = thereN ns l := rfl
 rw [eth]
 cases hth : thereN ns l with
 | false =>
   rw [if_pos rfl]
   refine go ?_;try(clear hL;intro w hL)
   exact RetReq.mk hL.drop ⟨rfl, hA⟩
 | true =>
 rw [if_neg (by decide)]
 refine go ?_;try(clear hL;intro w hL)
 have hid1 := there_ok (show ¬ thereN ns l = false by rw [hth]; decide)
 have hpre := (nothing_pre false ns).trans (wins_pre false (nothingN false ns).1)
 have hO1 := okA_nothing hO false
 have hO2 := okA_wins hO1 false
 have hno : ∀ L, Ar ab ns L → Ev.Fn Tryz.prog 141 [.pointer (some ⟨ab, 0, none⟩)] m L (PutQ ab (nothingN false ns).1 (nothingN false ns).2 m) := fun L hA => None_fn m ab ns L hA hO
 have hwi : ∀ L, Ar ab (nothingN false ns).1 L → Ev.Fn Tryz.prog 177 [.pointer (some ⟨ab, 0, none⟩)] m L (PutQ ab (winsN false (nothingN false ns).1).1 (winsN false (nothingN false ns).1).2 m) := fun L hA => All_fn m ab _ L hA hO1
 have hnoi := nothing_i64 hO false
 have hwii := wins_i64 hO1 false
 generalize hn1 : (nothingN false ns).1 = ns1 at hno hwi hO1 hO2 hpre hwii ⊢
 generalize hno2 : (nothingN false ns).2 = no at hno hnoi ⊢
 generalize hns2 : (winsN false ns1).1 = ns2 at hwi hO2 hpre ⊢
 generalize hwi2 : (winsN false ns1).2 = wi at hwi hwii ⊢
 have hid : ∀ z ∈ l, okId ns2 z := fun z hz => okId_pre hpre (hid1 z hz)
 have hlen2 := hO2.len
 have hmem := memN_eq hO2 (kdG_or false) hid
 have hmok := memN_ok hO2 (kdG_or false) hid
 have hmlen := memN_len hO2 (kdG_or false) hid
 have hbi := gbytes_i64 hO2 false hmok
 have hbl := gbytes_len false ns2 (memN ns2 (kdG false) l)
 have hO3 := okA_gbytes hO2 false (memN ns2 (kdG false) l)
 have hgb := fun m1 L4 hA4 v1 hs1 => gbytesO_fn m1 ab ns2 L4 hA4 hO2 v1 (memN ns2 (kdG false) l) hs1 (by omega)
 generalize hres : memN ns2 (kdG false) l = res at hmem hmok hmlen hbi hbl hO3 hgb ⊢
 generalize hns3 : (gbytesN false ns2 res).1 = ns3 at hO3 hgb ⊢
 generalize hl3 : (gbytesN false ns2 res).2 = l3 at hbi hbl hgb ⊢
 refine DrawReq.cut (fun b7 : Nat => [(7, .pointer (some ⟨b7, 0, none⟩)), (8, .int .i64 wi)]) [1, 2, 3] (fun b7 w => ∃ L4, Ar ab ns2 L4 ∧ Ev.Loc m S0 w0 m ((b7, .cells (toArr [.int .i64 no]) 3 (0, 0)) :: (b3, .cells (toArr grO) 248 (0, 0)) :: L4) w) ?_ ?_
 rotate_left
 ·clear hL
  rintro b7 w f ⟨L4, hA3, hL⟩
  conv => whnf
  refine DrawReq.plan hX (.fst 0 (.fst 1 (.fst 2 (.fst 3 (.fst 4 (.fst 5 (.alt 6 (.alt 7 (.fst 8 (.done)) (.stop)) (.stop)))))))) [(b3, .cells (toArr grO) 248 (0, 0))] (by kernel_rfl) (by kernel_rfl) hL (fun h => h.one 1 rfl) ?_
  clear hL
  intro w hL
  refine goq ?_;try(clear hL;intro w hL)
  refine CallReq.mk (L1 := L4) (L2 := [_, _]) (membersG_fn m ab ns2 L4 hA3 hO2 (kdG false) (kdG_or false) _ l hv hid hlb _ (by omega) res hmem) (Loc.back (L1 := [_, _]) hL) ?_
  clear hL
  rintro u mx Lx w hL - ⟨hmx, Lo, rfl, ho⟩
  rw [hmx] at hL
  clear hmx mx
  have hL := Loc.back (L1 := Lo ++ L4) (L2 := [_, _]) hL
  have hS := hL.one 1 rfl
  have hL := Loc.back (L1 := [_, _]) hL
  rw [List.append_assoc] at hL
  obtain ⟨A1, n1, c1, rfl, hn1⟩ := ho.slice
  obtain ⟨m1, hL1, hm1, hs1⟩ := OwnS.freeze ho hL
  clear hL ho
  have hL := Loc.back (L1 := L4) (L2 := [_, _]) hL1
  clear hL1
  refine SReq.mk hS ?_
  refine goq ?_;try(clear hL;intro w hL)
  refine CallReq.mk (L1 := L4) (L2 := [_, _]) (hgb m1 L4 hA3 _ hs1) (Loc.back (L1 := [_, _]) hL) ?_
  clear hL
  rintro u mx Lx w hL - ⟨hmx, La, Lo2, rfl, hA4, ho2⟩
  rw [hmx] at hL
  clear hmx mx
  have hL := Loc.back (L1 := Lo2 ++ La) (L2 := [_, _]) hL
  have hS := (hL.one 1 rfl).weaken hm1 (Mem.Le.refl _)
  have hL := Loc.back (L1 := [_, _]) hL
  rw [List.append_assoc] at hL
  obtain ⟨A2, n2, c2, rfl, -⟩ := ho2.slice
  refine SReq.mk hS ?_
  refine goq ?_;try(clear hL;intro w hL)
  refine CallReq.li (L1 := Lo2) (containsO_fn m1 A2 n2 c2 l3 Lo2 ho2 wi) hL ?_
  clear hL
  intro w hL
  have hL := Loc.back (L1 := Lo2) hL
  rw [List.append_assoc] at hL
  have hL := Loc.back (L1 := La) hL
  replace hL : Ev.Loc m S0 w0 m1 ((b7, .cells (toArr [.int .i64 no]) 3 (0, 0)) :: (b3, .cells (toArr grO) 248 (0, 0)) :: (Lo2 ++ La)) w := hL
  unfold restN
  by_cases hc : wi ∈ l3
  ·rw [decide_eq_true hc, if_pos hc]
   refine go ?_;try(clear hL;intro w hL)
   exact RetReq.mk (hL.drop.drop.sublist (List.sublist_append_right _ _)) ⟨rfl, hA4⟩
  rw [decide_eq_false hc, if_neg hc]
  refine go ?_;try(clear hL;intro w hL)
  refine CallReq.mk (L1 := (b7, .cells (toArr [.int .i64 no]) 3 (0, 0)) :: Lo2) (L2 := La ++ [_]) (deleteG_fn m1 b7 no A2 n2 c2 l3 Lo2 ho2) (by
   have h := hL.perm (List.Perm.cons _ (List.perm_append_comm (l₁ := [_]) (l₂ := Lo2 ++ La)))
   rw [List.append_assoc] at h; exact h) ?_
  clear hL
  rintro u mx Lx w hL - ⟨hmx, Lo3, rfl, ho3⟩
  rw [hmx] at hL
  clear hmx mx
  obtain ⟨A3, n3, c3, rfl, -⟩ := ho3.slice
  have hdl := dropI_len no l3
  refine go ?_;try(clear hL;intro w hL)
  refine CallReq.mk (L1 := Lo3) (L2 := La ++ [_, _]) (sortG_fn m1 A3 n3 c3 _ Lo3 ho3 (by omega)) (by
   have h : Ev.Loc m S0 w0 m1 ([(b7, .cells (toArr [.int .i64 no]) 3 (0, 0))] ++ (Lo3 ++ (La ++ [(b3, .cells (toArr grO) 248 (0, 0))]))) w := hL
   have h := Loc.back h
   rw [List.append_assoc, List.append_assoc] at h; exact h) ?_
  clear hL
  rintro u mx Lo4 w hL - ⟨hmx, rfl, ho4⟩
  rw [hmx] at hL
  clear hmx mx
  refine go ?_;try(clear hL;intro w hL)
  refine CallReq.mk (L1 := Lo4) (L2 := La ++ [_, _]) (compactG_fn m1 A3 n3 c3 _ Lo4 ho4 (by unfold sortI; rw [List.length_mergeSort]; omega)) hL ?_
  clear hL
  rintro u mx Lo5 w hL - ⟨hmx, ho5⟩
  rw [hmx] at hL
  clear hmx mx
  obtain ⟨A5, n5, c5, rfl, -⟩ := ho5.slice
  have hxi : ∀ z ∈ Lib.compact (sortI (dropI no l3)), i64 z := fun z hz => hbi z (csd_mem hz)
  have hxl := csd_len no l3
  generalize Lib.compact (sortI (dropI no l3)) = xs at ho5 hxi hxl ⊢
  obtain ⟨hn5, hnc5, hm5, hget⟩ := owns_get ho5
  have hL := Loc.back (L1 := Lo5) hL
  rw [List.append_assoc] at hL
  have hL := Loc.back (L1 := La) hL
  replace hL : Ev.Loc m S0 w0 m1 ((b3, .cells (toArr grO) 248 (0, 0)) :: (b7, .cells (toArr [.int .i64 no]) 3 (0, 0)) :: (Lo5 ++ La)) w := hL
  by_cases hx0 : xs = []
  ·subst hx0
   obtain rfl : n5 = 0 := hn5
   refine go ?_;try(clear hL;intro w hL)
   exact RetReq.mk (hL.drop.drop.sublist (List.sublist_append_right _ _)) ⟨rfl, hA4⟩
  obtain ⟨g5, cur, rfl, rfl, hcl, hct, hcg⟩ := hget hx0
  have hx1 : 0 < xs.length := by cases xs; exact absurd rfl hx0; simp
  have hlast := List.getElem?_eq_getElem (l := xs) (i := xs.length - 1) (by omega)
  have hcx := hcg _ _ hlast
  have hrev : xs.reverse = xs[xs.length - 1] :: (xs.take (xs.length - 1)).reverse := by
   conv => lhs; rw [← List.take_length (l := xs), show xs.length = xs.length - 1 + 1 by omega, List.take_succ_eq_append_getElem (by omega), List.reverse_append]
   rfl
  rw [hrev]
  have hxo := hxi _ (List.getElem_mem (l := xs) (n := xs.length - 1) (by omega))
  generalize xs[xs.length - 1] = x0 at hlast hcx hrev hxo ⊢
  have hc0 : ¬ c5 = 0 := by omega
  replace hL : Ev.Loc m S0 w0 m1 ((b3, .cells (toArr grO) 248 (0, 0)) :: (b7, .cells (toArr [.int .i64 no]) 3 (0, 0)) :: (g5, .cells (toArr cur) 3 (0, 0)) :: La) w := hL
  conv => whnf
  repeat ((first | refine BrReq.no (by omega) ?_ | refine Idx2Req.mk (xs.length - 1) _ (by omega) (by omega) rfl ?_ | (refine LdReq.ownC hX rfl rfl hL (.t (.t .h)) (by rw [scale_eq, Nat.zero_add, Nat.mul_one]; exact hcx) ?_) | (refine go1 ?_;try(clear hL;intro w hL))); conv => whnf)
  have hL := (hL.sublist (.cons_cons _ (.cons _ (List.Sublist.refl _))))
  generalize hR : chainR (kdG false) ns3 no (x0 :: (xs.take (xs.length - 1)).reverse) = R
  replace hR : chainN (kdG false) ns3 (xs.take (xs.length - 1)).reverse x0 = R := hR
  refine LoopReq.inv hX (fun s : Nat × Int × Int => [(9, .int .i64 s.2.1), (10, .int .i64 s.2.2)]) [1, 2, 3]
   (fun s w => (s.1 ≤ xs.length - 1 ∧ i64 s.2.1 ∧ s.2.2 = (s.1 : Int) - 1) ∧ ∃ ns' La, (Ar ab ns' La ∧ OkA ns' ∧ chainN (kdG false) ns' (xs.take s.1).reverse s.2.1 = R) ∧ Ev.Loc m S0 w0 m1 ((b3, .cells (toArr grO) 248 (0, 0)) :: (g5, .cells (toArr cur) 3 (0, 0)) :: La) w) (fun s => s.1) (xs.length - 1, x0, (n5 : Int) - 2)
   ⟨⟨Nat.le_refl _, hxo, by simp only; omega⟩, ns3, La, ⟨hA4, hO3, hR⟩, hL⟩ ⟨rfl, rfl, trivial⟩ ?_
  clear hL hR hA4 hO3 hlast hcx hrev hxo hn1 hno2 hns2 hwi2 hns3
  rintro ⟨k, out, i⟩ w f ⟨⟨hk, hoi, hi⟩, ns', La, ⟨hA4, hO3, hR⟩, hL⟩
  simp only at hk hoi hR hi
  refine go ?_;try(clear hL;intro w hL)
  cases k with
  | zero =>
    refine BrReq.no (by simp only; omega) ?_
    refine go ?_;try(clear hL;intro w hL)
    have hR : (ns', out) = R := hR
    subst hR
    exact RetReq.mk hL.drop.drop ⟨rfl, hA4⟩
  | succ k =>
    have hkl : k < xs.length := by omega
    have hkx := List.getElem?_eq_getElem hkl
    have hck := hcg _ _ hkx
    have hxk := hxi _ (List.getElem_mem hkl)
    rw [List.take_succ_eq_append_getElem hkl, List.reverse_append] at hR
    generalize xs[k] = x at hkx hck hxk hR
    replace hR : chainN (kdG false) (pN ns' (ndP (kdG false) x out)).1 (xs.take k).reverse (pN ns' (ndP (kdG false) x out)).2 = R := hR
    refine BrReq.yes (by simp only; omega) ?_
    refine go ?_;try(clear hL;intro w hL)
    refine DrawReq.plan hX (.fst 0 (.fst 1 (.fst 2 (.fst 3 (.fst 4 (.fst 5 (.fst 6 (.fst 7 (.fst 8 (.alt 9 (.fst 10 (.done)) (.stop))))))))))) [(b3, .cells (toArr grO) 248 (0, 0)), (g5, .cells (toArr cur) 3 (0, 0))] (by kernel_rfl) (by kernel_rfl) hL (fun h => h.sublist (.cons_cons _ (.cons_cons _ (List.nil_sublist _)))) ?_
    clear hL
    intro w hL
    conv => whnf
    repeat ((first | (refine Idx2Req.mk k _ (by simp only; omega) (by omega) rfl ?_) | (refine QLdReq.ownC hX rfl rfl (.t .h) (by rw [scale_eq, Nat.zero_add, Nat.mul_one]; exact hck) ?_) | (refine goq1 ?_;try(clear hL;intro w hL))); conv => whnf)
    refine CallReq.mk (L1 := La) (L2 := [_, _]) (put_fn m1 ab ns' La hA4 hO3 (ndP (kdG false) x out) (inN_P (kdG_le false) hxk hoi)) (Loc.back (L1 := [_, _]) hL) ?_
    clear hL
    rintro u mx Lx w hL - ⟨hmx, rfl, hA5⟩
    rw [hmx] at hL
    clear hmx mx
    have hL := Loc.back (L1 := Lx) (L2 := [_, _]) hL
    refine SReq.mk (hL.sublist (.cons_cons _ (.cons_cons _ (List.nil_sublist _)))) ?_
    conv => whnf
    repeat ((first | (refine ArReq.i64 (by simp only; omega) (by simp only; omega) ?_) | (refine goq1 ?_;try(clear hL;intro w hL))); conv => whnf)
    exact rnd (k, (pN ns' (ndP (kdG false) x out)).2, i - 1) ⟨⟨by simp only; omega, pN_i64 hO3 _, by simp only; omega⟩, _, Lx, ⟨hA5, okA_p hO3 (inN_P (kdG_le false) hxk hoi), hR⟩, hL⟩
 ·refine DrawReq.plan hX (.fst 0 (.fst 1 (.fst 2 (.fst 4 (.fst 5 (.fst 6 (.alt 3 (.alt 7 (.alt 8 (.alt 9 (.fst 10 (.done)) (.stop)) (.stop)) (.alt 8 (.alt 7 (.alt 9 (.fst 10 (.done)) (.stop)) (.stop)) (.stop))) (.alt 8 (.alt 3 (.alt 7 (.alt 9 (.fst 10 (.done)) (.stop)) (.stop)) (.stop)) (.stop))))))))) [(b3, .cells (toArr grO) 248 (0, 0))] (by kernel_rfl) (by kernel_rfl) hL (fun h => h.one 0 rfl) ?_
  clear hL
  intro w hL
  refine goq ?_;try(clear hL;intro w hL)
  refine alt2 ?_ ?_
  ·refine goq ?_;try(clear hL;intro w hL)
   refine CallReq.mk (L1 := L) (L2 := [(b3, .cells (toArr grO) 248 (0, 0))]) (hno L hA) (Loc.back (L1 := [(b3, .cells (toArr grO) 248 (0, 0))]) hL) ?_
   clear hL
   rintro u mx L3 w hL - ⟨hmx, rfl, hA2⟩
   rw [hmx] at hL
   clear hmx mx
   have hL := Loc.back (L1 := L3) (L2 := [(b3, .cells (toArr grO) 248 (0, 0))]) hL
   refine SReq.mk (hL.one 0 rfl) ?_
   refine goq ?_;try(clear hL;intro w hL)
   refine alt2 ?_ ?_
   ·refine goq ?_;try(clear hL;intro w hL)
    refine CallReq.mk (L1 := L3) (L2 := [(b3, .cells (toArr grO) 248 (0, 0))]) (hwi L3 hA2) (Loc.back (L1 := [(b3, .cells (toArr grO) 248 (0, 0))]) hL) ?_
    clear hL
    rintro u mx L4 w hL - ⟨hmx, rfl, hA3⟩
    rw [hmx] at hL
    clear hmx mx
    have hL := Loc.back (L1 := L4) (L2 := [(b3, .cells (toArr grO) 248 (0, 0))]) hL
    refine SReq.mk (hL.one 0 rfl) ?_
    refine goq ?_;try(clear hL;intro w hL)
    refine NewReq.mk hL ?_
    clear hL
    intro b7 w hL
    conv => whnf
    refine SReq.mk (hL.one 1 rfl) ?_
    refine goq ?_;try(clear hL;intro w hL)
    replace hL : Ev.Loc m S0 w0 m ((b7, .cells (toArr [.int .i64 no]) 3 (0, 0)) :: (b3, .cells (toArr grO) 248 (0, 0)) :: L4) w := hL
    refine SReq.mk (hL.one 1 rfl) ?_
    refine goq ?_;try(clear hL;intro w hL)
    refine ⟨b7, ⟨L4, hA3, hL⟩, ?_, ?_⟩
    ·repeat (first | exact trivial | (refine And.intro (by (conv => lhs; whnf) <;> (conv => rhs; whnf) <;> (first | rfl)) ?_))
    ·repeat (first | exact trivial | (refine And.intro (by (conv => lhs; whnf) <;> (conv => rhs; whnf) <;> (first | rfl)) ?_))
   ·refine goq ?_;try(clear hL;intro w hL)
    refine NewReq.mk hL ?_
    clear hL
    intro b7 w hL
    conv => whnf
    refine SReq.mk (hL.one 1 rfl) ?_
    refine goq ?_;try(clear hL;intro w hL)
    refine CallReq.mk (L1 := L3) (L2 := [(b7, .cells (toArr [.int .i64 0]) 3 (0, 0)), (b3, .cells (toArr grO) 248 (0, 0))]) (hwi L3 hA2) (Loc.back (L1 := [(b7, .cells (toArr [.int .i64 0]) 3 (0, 0)), (b3, .cells (toArr grO) 248 (0, 0))]) hL) ?_
    clear hL
    rintro u mx L4 w hL - ⟨hmx, rfl, hA3⟩
    rw [hmx] at hL
    clear hmx mx
    have hL := Loc.back (L1 := L4) (L2 := [(b7, .cells (toArr [.int .i64 0]) 3 (0, 0)), (b3, .cells (toArr grO) 248 (0, 0))]) hL
    refine SReq.mk (hL.one 1 rfl) ?_
    refine goq ?_;try(clear hL;intro w hL)
    replace hL : Ev.Loc m S0 w0 m ((b7, .cells (toArr [.int .i64 no]) 3 (0, 0)) :: (b3, .cells (toArr grO) 248 (0, 0)) :: L4) w := hL
    refine SReq.mk (hL.one 1 rfl) ?_
    refine goq ?_;try(clear hL;intro w hL)
    refine ⟨b7, ⟨L4, hA3, hL⟩, ?_, ?_⟩
    ·repeat (first | exact trivial | (refine And.intro (by (conv => lhs; whnf) <;> (conv => rhs; whnf) <;> (first | rfl)) ?_))
    ·repeat (first | exact trivial | (refine And.intro (by (conv => lhs; whnf) <;> (conv => rhs; whnf) <;> (first | rfl)) ?_))
  ·refine goq ?_;try(clear hL;intro w hL)
   refine NewReq.mk hL ?_
   clear hL
   intro b7 w hL
   conv => whnf
   refine SReq.mk (hL.one 1 rfl) ?_
   refine goq ?_;try(clear hL;intro w hL)
   refine CallReq.mk (L1 := L) (L2 := [(b7, .cells (toArr [.int .i64 0]) 3 (0, 0)), (b3, .cells (toArr grO) 248 (0, 0))]) (hno L hA) (Loc.back (L1 := [(b7, .cells (toArr [.int .i64 0]) 3 (0, 0)), (b3, .cells (toArr grO) 248 (0, 0))]) hL) ?_
   clear hL
   rintro u mx L3 w hL - ⟨hmx, rfl, hA2⟩
   rw [hmx] at hL
   clear hmx mx
   have hL := Loc.back (L1 := L3) (L2 := [(b7, .cells (toArr [.int .i64 0]) 3 (0, 0)), (b3, .cells (toArr grO) 248 (0, 0))]) hL
   refine SReq.mk (hL.one 1 rfl) ?_
   refine goq ?_;try(clear hL;intro w hL)
   refine CallReq.mk (L1 := L3) (L2 := [(b7, .cells (toArr [.int .i64 0]) 3 (0, 0)), (b3, .cells (toArr grO) 248 (0, 0))]) (hwi L3 hA2) (Loc.back (L1 := [(b7, .cells (toArr [.int .i64 0]) 3 (0, 0)), (b3, .cells (toArr grO) 248 (0, 0))]) hL) ?_
   clear hL
   rintro u mx L4 w hL - ⟨hmx, rfl, hA3⟩
   rw [hmx] at hL
   clear hmx mx
   have hL := Loc.back (L1 := L4) (L2 := [(b7, .cells (toArr [.int .i64 0]) 3 (0, 0)), (b3, .cells (toArr grO) 248 (0, 0))]) hL
   refine SReq.mk (hL.one 1 rfl) ?_
   refine goq ?_;try(clear hL;intro w hL)
   replace hL : Ev.Loc m S0 w0 m ((b7, .cells (toArr [.int .i64 no]) 3 (0, 0)) :: (b3, .cells (toArr grO) 248 (0, 0)) :: L4) w := hL
   refine SReq.mk (hL.one 1 rfl) ?_
   refine goq ?_;try(clear hL;intro w hL)
   refine ⟨b7, ⟨L4, hA3, hL⟩, ?_, ?_⟩
   ·repeat (first | exact trivial | (refine And.intro (by (conv => lhs; whnf) <;> (conv => rhs; whnf) <;> (first | rfl)) ?_))
   ·repeat (first | exact trivial | (refine And.intro (by (conv => lhs; whnf) <;> (conv => rhs; whnf) <;> (first | rfl)) ?_))
set_option maxHeartbeats 4000000 in
theorem gputA_fn (m : Mem) (ab : Nat) (ns : List Nd) (L : Own) (hA : Ar ab ns L) (hO : OkA ns) (v : Value) (l : List Int) (hv : SlI m .i64 v l) (hlb : l.length ≤ 20000) :
  Ev.Fn Tryz.prog 178 [.agg (toArr grA), .pointer (some ⟨ab, 0, none⟩), v] m L fun _ L' u => u = .int .i64 (gputN true ns l).2 ∧ Ar ab (gputN true ns l).1 L' := by
 obtain ⟨A, n, c, rfl, -⟩ := id hv
 have hmx : maxLen = 9223372036854775807 := rfl
 refine Fn.enter (N := 70) hX Tryz.func178 rfl rfl (by show _ ≤ _; simp) (fun w0 hL => ?_)
 conv => whnf
 generalize keys L = S0 at hL ⊢
 refine NewReq.mk hL ?_
 clear hL
 intro b3 w hL
 conv => whnf
 replace hL : Ev.Loc m S0 w0 m ((b3, .cells (toArr grA) 248 (0, 0)) :: L) w := hL
 refine go ?_;try(clear hL;intro w hL)
 refine CallReq.li (L1 := L) (there2_fn m ab ns L hA _ l hv) (hL.back (L1 := [_])) ?_
 clear hL
 intro w hL
 have hL := hL.back (L2 := [_])
 unfold gputN
 have eth : (l.all fun id => decide (0 ≤ id ∧ id < ns.length)) = thereN ns l := rfl
 rw [eth]
 cases hth : thereN ns l with
 | false =>
   rw [if_pos rfl]
   refine go ?_;try(clear hL;intro w hL)
   exact RetReq.mk hL.drop ⟨rfl, hA⟩
 | true =>
 rw [if_neg (by decide)]
 refine go ?_;try(clear hL;intro w hL)
 have hid1 := there_ok (show ¬ thereN ns l = false by rw [hth]; decide)
 have hpre := (nothing_pre true ns).trans (wins_pre true (nothingN true ns).1)
 have hO1 := okA_nothing hO true
 have hO2 := okA_wins hO1 true
 have hno : ∀ L, Ar ab ns L → Ev.Fn Tryz.prog 177 [.pointer (some ⟨ab, 0, none⟩)] m L (PutQ ab (nothingN true ns).1 (nothingN true ns).2 m) := fun L hA => All_fn m ab ns L hA hO
 have hwi : ∀ L, Ar ab (nothingN true ns).1 L → Ev.Fn Tryz.prog 141 [.pointer (some ⟨ab, 0, none⟩)] m L (PutQ ab (winsN true (nothingN true ns).1).1 (winsN true (nothingN true ns).1).2 m) := fun L hA => None_fn m ab _ L hA hO1
 have hnoi := nothing_i64 hO true
 have hwii := wins_i64 hO1 true
 generalize hn1 : (nothingN true ns).1 = ns1 at hno hwi hO1 hO2 hpre hwii ⊢
 generalize hno2 : (nothingN true ns).2 = no at hno hnoi ⊢
 generalize hns2 : (winsN true ns1).1 = ns2 at hwi hO2 hpre ⊢
 generalize hwi2 : (winsN true ns1).2 = wi at hwi hwii ⊢
 have hid : ∀ z ∈ l, okId ns2 z := fun z hz => okId_pre hpre (hid1 z hz)
 have hlen2 := hO2.len
 have hmem := memN_eq hO2 (kdG_or true) hid
 have hmok := memN_ok hO2 (kdG_or true) hid
 have hmlen := memN_len hO2 (kdG_or true) hid
 have hbi := gbytes_i64 hO2 true hmok
 have hbl := gbytes_len true ns2 (memN ns2 (kdG true) l)
 have hO3 := okA_gbytes hO2 true (memN ns2 (kdG true) l)
 have hgb := fun m1 L4 hA4 v1 hs1 => gbytesA_fn m1 ab ns2 L4 hA4 hO2 v1 (memN ns2 (kdG true) l) hs1 (by omega)
 generalize hres : memN ns2 (kdG true) l = res at hmem hmok hmlen hbi hbl hO3 hgb ⊢
 generalize hns3 : (gbytesN true ns2 res).1 = ns3 at hO3 hgb ⊢
 generalize hl3 : (gbytesN true ns2 res).2 = l3 at hbi hbl hgb ⊢
 refine DrawReq.cut (fun b7 : Nat => [(7, .pointer (some ⟨b7, 0, none⟩)), (8, .int .i64 wi)]) [1, 2, 3] (fun b7 w => ∃ L4, Ar ab ns2 L4 ∧ Ev.Loc m S0 w0 m ((b7, .cells (toArr [.int .i64 no]) 3 (0, 0)) :: (b3, .cells (toArr grA) 248 (0, 0)) :: L4) w) ?_ ?_
 rotate_left
 ·clear hL
  rintro b7 w f ⟨L4, hA3, hL⟩
  conv => whnf
  refine DrawReq.plan hX (.fst 0 (.fst 1 (.fst 2 (.fst 3 (.fst 4 (.fst 5 (.alt 6 (.alt 7 (.fst 8 (.done)) (.stop)) (.stop)))))))) [(b3, .cells (toArr grA) 248 (0, 0))] (by kernel_rfl) (by kernel_rfl) hL (fun h => h.one 1 rfl) ?_
  clear hL
  intro w hL
  refine goq ?_;try(clear hL;intro w hL)
  refine CallReq.mk (L1 := L4) (L2 := [_, _]) (membersG_fn m ab ns2 L4 hA3 hO2 (kdG true) (kdG_or true) _ l hv hid hlb _ (by omega) res hmem) (Loc.back (L1 := [_, _]) hL) ?_
  clear hL
  rintro u mx Lx w hL - ⟨hmx, Lo, rfl, ho⟩
  rw [hmx] at hL
  clear hmx mx
  have hL := Loc.back (L1 := Lo ++ L4) (L2 := [_, _]) hL
  have hS := hL.one 1 rfl
  have hL := Loc.back (L1 := [_, _]) hL
  rw [List.append_assoc] at hL
  obtain ⟨A1, n1, c1, rfl, hn1⟩ := ho.slice
  obtain ⟨m1, hL1, hm1, hs1⟩ := OwnS.freeze ho hL
  clear hL ho
  have hL := Loc.back (L1 := L4) (L2 := [_, _]) hL1
  clear hL1
  refine SReq.mk hS ?_
  refine goq ?_;try(clear hL;intro w hL)
  refine CallReq.mk (L1 := L4) (L2 := [_, _]) (hgb m1 L4 hA3 _ hs1) (Loc.back (L1 := [_, _]) hL) ?_
  clear hL
  rintro u mx Lx w hL - ⟨hmx, La, Lo2, rfl, hA4, ho2⟩
  rw [hmx] at hL
  clear hmx mx
  have hL := Loc.back (L1 := Lo2 ++ La) (L2 := [_, _]) hL
  have hS := (hL.one 1 rfl).weaken hm1 (Mem.Le.refl _)
  have hL := Loc.back (L1 := [_, _]) hL
  rw [List.append_assoc] at hL
  obtain ⟨A2, n2, c2, rfl, -⟩ := ho2.slice
  refine SReq.mk hS ?_
  refine goq ?_;try(clear hL;intro w hL)
  refine CallReq.li (L1 := Lo2) (containsO_fn m1 A2 n2 c2 l3 Lo2 ho2 wi) hL ?_
  clear hL
  intro w hL
  have hL := Loc.back (L1 := Lo2) hL
  rw [List.append_assoc] at hL
  have hL := Loc.back (L1 := La) hL
  replace hL : Ev.Loc m S0 w0 m1 ((b7, .cells (toArr [.int .i64 no]) 3 (0, 0)) :: (b3, .cells (toArr grA) 248 (0, 0)) :: (Lo2 ++ La)) w := hL
  unfold restN
  by_cases hc : wi ∈ l3
  ·rw [decide_eq_true hc, if_pos hc]
   refine go ?_;try(clear hL;intro w hL)
   exact RetReq.mk (hL.drop.drop.sublist (List.sublist_append_right _ _)) ⟨rfl, hA4⟩
  rw [decide_eq_false hc, if_neg hc]
  refine go ?_;try(clear hL;intro w hL)
  refine CallReq.mk (L1 := (b7, .cells (toArr [.int .i64 no]) 3 (0, 0)) :: Lo2) (L2 := La ++ [_]) (deleteG_fn m1 b7 no A2 n2 c2 l3 Lo2 ho2) (by
   have h := hL.perm (List.Perm.cons _ (List.perm_append_comm (l₁ := [_]) (l₂ := Lo2 ++ La)))
   rw [List.append_assoc] at h; exact h) ?_
  clear hL
  rintro u mx Lx w hL - ⟨hmx, Lo3, rfl, ho3⟩
  rw [hmx] at hL
  clear hmx mx
  obtain ⟨A3, n3, c3, rfl, -⟩ := ho3.slice
  have hdl := dropI_len no l3
  refine go ?_;try(clear hL;intro w hL)
  refine CallReq.mk (L1 := Lo3) (L2 := La ++ [_, _]) (sortG_fn m1 A3 n3 c3 _ Lo3 ho3 (by omega)) (by
   have h : Ev.Loc m S0 w0 m1 ([(b7, .cells (toArr [.int .i64 no]) 3 (0, 0))] ++ (Lo3 ++ (La ++ [(b3, .cells (toArr grA) 248 (0, 0))]))) w := hL
   have h := Loc.back h
   rw [List.append_assoc, List.append_assoc] at h; exact h) ?_
  clear hL
  rintro u mx Lo4 w hL - ⟨hmx, rfl, ho4⟩
  rw [hmx] at hL
  clear hmx mx
  refine go ?_;try(clear hL;intro w hL)
  refine CallReq.mk (L1 := Lo4) (L2 := La ++ [_, _]) (compactG_fn m1 A3 n3 c3 _ Lo4 ho4 (by unfold sortI; rw [List.length_mergeSort]; omega)) hL ?_
  clear hL
  rintro u mx Lo5 w hL - ⟨hmx, ho5⟩
  rw [hmx] at hL
  clear hmx mx
  obtain ⟨A5, n5, c5, rfl, -⟩ := ho5.slice
  have hxi : ∀ z ∈ Lib.compact (sortI (dropI no l3)), i64 z := fun z hz => hbi z (csd_mem hz)
  have hxl := csd_len no l3
  generalize Lib.compact (sortI (dropI no l3)) = xs at ho5 hxi hxl ⊢
  obtain ⟨hn5, hnc5, hm5, hget⟩ := owns_get ho5
  have hL := Loc.back (L1 := Lo5) hL
  rw [List.append_assoc] at hL
  have hL := Loc.back (L1 := La) hL
  replace hL : Ev.Loc m S0 w0 m1 ((b3, .cells (toArr grA) 248 (0, 0)) :: (b7, .cells (toArr [.int .i64 no]) 3 (0, 0)) :: (Lo5 ++ La)) w := hL
  by_cases hx0 : xs = []
  ·subst hx0
   obtain rfl : n5 = 0 := hn5
   refine go ?_;try(clear hL;intro w hL)
   exact RetReq.mk (hL.drop.drop.sublist (List.sublist_append_right _ _)) ⟨rfl, hA4⟩
  obtain ⟨g5, cur, rfl, rfl, hcl, hct, hcg⟩ := hget hx0
  have hx1 : 0 < xs.length := by cases xs; exact absurd rfl hx0; simp
  have hlast := List.getElem?_eq_getElem (l := xs) (i := xs.length - 1) (by omega)
  have hcx := hcg _ _ hlast
  have hrev : xs.reverse = xs[xs.length - 1] :: (xs.take (xs.length - 1)).reverse := by
   conv => lhs; rw [← List.take_length (l := xs), show xs.length = xs.length - 1 + 1 by omega, List.take_succ_eq_append_getElem (by omega), List.reverse_append]
   rfl
  rw [hrev]
  have hxo := hxi _ (List.getElem_mem (l := xs) (n := xs.length - 1) (by omega))
  generalize xs[xs.length - 1] = x0 at hlast hcx hrev hxo ⊢
  have hc0 : ¬ c5 = 0 := by omega
  replace hL : Ev.Loc m S0 w0 m1 ((b3, .cells (toArr grA) 248 (0, 0)) :: (b7, .cells (toArr [.int .i64 no]) 3 (0, 0)) :: (g5, .cells (toArr cur) 3 (0, 0)) :: La) w := hL
  conv => whnf
  repeat ((first | refine BrReq.no (by omega) ?_ | refine Idx2Req.mk (xs.length - 1) _ (by omega) (by omega) rfl ?_ | (refine LdReq.ownC hX rfl rfl hL (.t (.t .h)) (by rw [scale_eq, Nat.zero_add, Nat.mul_one]; exact hcx) ?_) | (refine go1 ?_;try(clear hL;intro w hL))); conv => whnf)
  have hL := (hL.sublist (.cons_cons _ (.cons _ (List.Sublist.refl _))))
  generalize hR : chainR (kdG true) ns3 no (x0 :: (xs.take (xs.length - 1)).reverse) = R
  replace hR : chainN (kdG true) ns3 (xs.take (xs.length - 1)).reverse x0 = R := hR
  refine LoopReq.inv hX (fun s : Nat × Int × Int => [(9, .int .i64 s.2.1), (10, .int .i64 s.2.2)]) [1, 2, 3]
   (fun s w => (s.1 ≤ xs.length - 1 ∧ i64 s.2.1 ∧ s.2.2 = (s.1 : Int) - 1) ∧ ∃ ns' La, (Ar ab ns' La ∧ OkA ns' ∧ chainN (kdG true) ns' (xs.take s.1).reverse s.2.1 = R) ∧ Ev.Loc m S0 w0 m1 ((b3, .cells (toArr grA) 248 (0, 0)) :: (g5, .cells (toArr cur) 3 (0, 0)) :: La) w) (fun s => s.1) (xs.length - 1, x0, (n5 : Int) - 2)
   ⟨⟨Nat.le_refl _, hxo, by simp only; omega⟩, ns3, La, ⟨hA4, hO3, hR⟩, hL⟩ ⟨rfl, rfl, trivial⟩ ?_
  clear hL hR hA4 hO3 hlast hcx hrev hxo hn1 hno2 hns2 hwi2 hns3
  rintro ⟨k, out, i⟩ w f ⟨⟨hk, hoi, hi⟩, ns', La, ⟨hA4, hO3, hR⟩, hL⟩
  simp only at hk hoi hR hi
  refine go ?_;try(clear hL;intro w hL)
  cases k with
  | zero =>
    refine BrReq.no (by simp only; omega) ?_
    refine go ?_;try(clear hL;intro w hL)
    have hR : (ns', out) = R := hR
    subst hR
    exact RetReq.mk hL.drop.drop ⟨rfl, hA4⟩
  | succ k =>
    have hkl : k < xs.length := by omega
    have hkx := List.getElem?_eq_getElem hkl
    have hck := hcg _ _ hkx
    have hxk := hxi _ (List.getElem_mem hkl)
    rw [List.take_succ_eq_append_getElem hkl, List.reverse_append] at hR
    generalize xs[k] = x at hkx hck hxk hR
    replace hR : chainN (kdG true) (pN ns' (ndP (kdG true) x out)).1 (xs.take k).reverse (pN ns' (ndP (kdG true) x out)).2 = R := hR
    refine BrReq.yes (by simp only; omega) ?_
    refine go ?_;try(clear hL;intro w hL)
    refine DrawReq.plan hX (.fst 0 (.fst 1 (.fst 2 (.fst 3 (.fst 4 (.fst 5 (.fst 6 (.fst 7 (.fst 8 (.alt 9 (.fst 10 (.done)) (.stop))))))))))) [(b3, .cells (toArr grA) 248 (0, 0)), (g5, .cells (toArr cur) 3 (0, 0))] (by kernel_rfl) (by kernel_rfl) hL (fun h => h.sublist (.cons_cons _ (.cons_cons _ (List.nil_sublist _)))) ?_
    clear hL
    intro w hL
    conv => whnf
    repeat ((first | (refine Idx2Req.mk k _ (by simp only; omega) (by omega) rfl ?_) | (refine QLdReq.ownC hX rfl rfl (.t .h) (by rw [scale_eq, Nat.zero_add, Nat.mul_one]; exact hck) ?_) | (refine goq1 ?_;try(clear hL;intro w hL))); conv => whnf)
    refine CallReq.mk (L1 := La) (L2 := [_, _]) (put_fn m1 ab ns' La hA4 hO3 (ndP (kdG true) x out) (inN_P (kdG_le true) hxk hoi)) (Loc.back (L1 := [_, _]) hL) ?_
    clear hL
    rintro u mx Lx w hL - ⟨hmx, rfl, hA5⟩
    rw [hmx] at hL
    clear hmx mx
    have hL := Loc.back (L1 := Lx) (L2 := [_, _]) hL
    refine SReq.mk (hL.sublist (.cons_cons _ (.cons_cons _ (List.nil_sublist _)))) ?_
    conv => whnf
    repeat ((first | (refine ArReq.i64 (by simp only; omega) (by simp only; omega) ?_) | (refine goq1 ?_;try(clear hL;intro w hL))); conv => whnf)
    exact rnd (k, (pN ns' (ndP (kdG true) x out)).2, i - 1) ⟨⟨by simp only; omega, pN_i64 hO3 _, by simp only; omega⟩, _, Lx, ⟨hA5, okA_p hO3 (inN_P (kdG_le true) hxk hoi), hR⟩, hL⟩
 ·refine DrawReq.plan hX (.fst 0 (.fst 1 (.fst 2 (.fst 4 (.fst 5 (.fst 6 (.alt 3 (.alt 7 (.alt 8 (.alt 9 (.fst 10 (.done)) (.stop)) (.stop)) (.alt 8 (.alt 7 (.alt 9 (.fst 10 (.done)) (.stop)) (.stop)) (.stop))) (.alt 8 (.alt 3 (.alt 7 (.alt 9 (.fst 10 (.done)) (.stop)) (.stop)) (.stop)) (.stop))))))))) [(b3, .cells (toArr grA) 248 (0, 0))] (by kernel_rfl) (by kernel_rfl) hL (fun h => h.one 0 rfl) ?_
  clear hL
  intro w hL
  refine goq ?_;try(clear hL;intro w hL)
  refine alt2 ?_ ?_
  ·refine goq ?_;try(clear hL;intro w hL)
   refine CallReq.mk (L1 := L) (L2 := [(b3, .cells (toArr grA) 248 (0, 0))]) (hno L hA) (Loc.back (L1 := [(b3, .cells (toArr grA) 248 (0, 0))]) hL) ?_
   clear hL
   rintro u mx L3 w hL - ⟨hmx, rfl, hA2⟩
   rw [hmx] at hL
   clear hmx mx
   have hL := Loc.back (L1 := L3) (L2 := [(b3, .cells (toArr grA) 248 (0, 0))]) hL
   refine SReq.mk (hL.one 0 rfl) ?_
   refine goq ?_;try(clear hL;intro w hL)
   refine alt2 ?_ ?_
   ·refine goq ?_;try(clear hL;intro w hL)
    refine CallReq.mk (L1 := L3) (L2 := [(b3, .cells (toArr grA) 248 (0, 0))]) (hwi L3 hA2) (Loc.back (L1 := [(b3, .cells (toArr grA) 248 (0, 0))]) hL) ?_
    clear hL
    rintro u mx L4 w hL - ⟨hmx, rfl, hA3⟩
    rw [hmx] at hL
    clear hmx mx
    have hL := Loc.back (L1 := L4) (L2 := [(b3, .cells (toArr grA) 248 (0, 0))]) hL
    refine SReq.mk (hL.one 0 rfl) ?_
    refine goq ?_;try(clear hL;intro w hL)
    refine NewReq.mk hL ?_
    clear hL
    intro b7 w hL
    conv => whnf
    refine SReq.mk (hL.one 1 rfl) ?_
    refine goq ?_;try(clear hL;intro w hL)
    replace hL : Ev.Loc m S0 w0 m ((b7, .cells (toArr [.int .i64 no]) 3 (0, 0)) :: (b3, .cells (toArr grA) 248 (0, 0)) :: L4) w := hL
    refine SReq.mk (hL.one 1 rfl) ?_
    refine goq ?_;try(clear hL;intro w hL)
    refine ⟨b7, ⟨L4, hA3, hL⟩, ?_, ?_⟩
    ·repeat (first | exact trivial | (refine And.intro (by (conv => lhs; whnf) <;> (conv => rhs; whnf) <;> (first | rfl)) ?_))
    ·repeat (first | exact trivial | (refine And.intro (by (conv => lhs; whnf) <;> (conv => rhs; whnf) <;> (first | rfl)) ?_))
   ·refine goq ?_;try(clear hL;intro w hL)
    refine NewReq.mk hL ?_
    clear hL
    intro b7 w hL
    conv => whnf
    refine SReq.mk (hL.one 1 rfl) ?_
    refine goq ?_;try(clear hL;intro w hL)
    refine CallReq.mk (L1 := L3) (L2 := [(b7, .cells (toArr [.int .i64 0]) 3 (0, 0)), (b3, .cells (toArr grA) 248 (0, 0))]) (hwi L3 hA2) (Loc.back (L1 := [(b7, .cells (toArr [.int .i64 0]) 3 (0, 0)), (b3, .cells (toArr grA) 248 (0, 0))]) hL) ?_
    clear hL
    rintro u mx L4 w hL - ⟨hmx, rfl, hA3⟩
    rw [hmx] at hL
    clear hmx mx
    have hL := Loc.back (L1 := L4) (L2 := [(b7, .cells (toArr [.int .i64 0]) 3 (0, 0)), (b3, .cells (toArr grA) 248 (0, 0))]) hL
    refine SReq.mk (hL.one 1 rfl) ?_
    refine goq ?_;try(clear hL;intro w hL)
    replace hL : Ev.Loc m S0 w0 m ((b7, .cells (toArr [.int .i64 no]) 3 (0, 0)) :: (b3, .cells (toArr grA) 248 (0, 0)) :: L4) w := hL
    refine SReq.mk (hL.one 1 rfl) ?_
    refine goq ?_;try(clear hL;intro w hL)
    refine ⟨b7, ⟨L4, hA3, hL⟩, ?_, ?_⟩
    ·repeat (first | exact trivial | (refine And.intro (by (conv => lhs; whnf) <;> (conv => rhs; whnf) <;> (first | rfl)) ?_))
    ·repeat (first | exact trivial | (refine And.intro (by (conv => lhs; whnf) <;> (conv => rhs; whnf) <;> (first | rfl)) ?_))
  ·refine goq ?_;try(clear hL;intro w hL)
   refine NewReq.mk hL ?_
   clear hL
   intro b7 w hL
   conv => whnf
   refine SReq.mk (hL.one 1 rfl) ?_
   refine goq ?_;try(clear hL;intro w hL)
   refine CallReq.mk (L1 := L) (L2 := [(b7, .cells (toArr [.int .i64 0]) 3 (0, 0)), (b3, .cells (toArr grA) 248 (0, 0))]) (hno L hA) (Loc.back (L1 := [(b7, .cells (toArr [.int .i64 0]) 3 (0, 0)), (b3, .cells (toArr grA) 248 (0, 0))]) hL) ?_
   clear hL
   rintro u mx L3 w hL - ⟨hmx, rfl, hA2⟩
   rw [hmx] at hL
   clear hmx mx
   have hL := Loc.back (L1 := L3) (L2 := [(b7, .cells (toArr [.int .i64 0]) 3 (0, 0)), (b3, .cells (toArr grA) 248 (0, 0))]) hL
   refine SReq.mk (hL.one 1 rfl) ?_
   refine goq ?_;try(clear hL;intro w hL)
   refine CallReq.mk (L1 := L3) (L2 := [(b7, .cells (toArr [.int .i64 0]) 3 (0, 0)), (b3, .cells (toArr grA) 248 (0, 0))]) (hwi L3 hA2) (Loc.back (L1 := [(b7, .cells (toArr [.int .i64 0]) 3 (0, 0)), (b3, .cells (toArr grA) 248 (0, 0))]) hL) ?_
   clear hL
   rintro u mx L4 w hL - ⟨hmx, rfl, hA3⟩
   rw [hmx] at hL
   clear hmx mx
   have hL := Loc.back (L1 := L4) (L2 := [(b7, .cells (toArr [.int .i64 0]) 3 (0, 0)), (b3, .cells (toArr grA) 248 (0, 0))]) hL
   refine SReq.mk (hL.one 1 rfl) ?_
   refine goq ?_;try(clear hL;intro w hL)
   replace hL : Ev.Loc m S0 w0 m ((b7, .cells (toArr [.int .i64 no]) 3 (0, 0)) :: (b3, .cells (toArr grA) 248 (0, 0)) :: L4) w := hL
   refine SReq.mk (hL.one 1 rfl) ?_
   refine goq ?_;try(clear hL;intro w hL)
   refine ⟨b7, ⟨L4, hA3, hL⟩, ?_, ?_⟩
   ·repeat (first | exact trivial | (refine And.intro (by (conv => lhs; whnf) <;> (conv => rhs; whnf) <;> (first | rfl)) ?_))
   ·repeat (first | exact trivial | (refine And.intro (by (conv => lhs; whnf) <;> (conv => rhs; whnf) <;> (first | rfl)) ?_))
end Go.Proofs.YtaooenndoopgdaaGreatDoor.ar
namespace Go.Proofs.YtaooenndoopgdaaGreatDoor.ar
open Go Go.Ev Go.Proofs
def PutR (ab : Nat) (r : List Nd × Int) : Mem → Own → Value → Prop := fun _ L' u => u = .int .i64 r.2 ∧ Ar ab r.1 L'
def orN (ns : List Nd) (l : List Int) : List Nd × Int := gputN false ns l
def andN (ns : List Nd) (l : List Int) : List Nd × Int := gputN true ns l
theorem OrG_fn (m : Mem) (ab : Nat) (ns : List Nd) (L : Own) (hA : Ar ab ns L) (hO : OkA ns) (v : Value) (l : List Int) (hv : SlI m .i64 v l) (hlb : l.length ≤ 20000) :
  Ev.Fn Tryz.prog 146 [.pointer (some ⟨ab, 0, none⟩), v] m L (PutR ab (gputN false ns l)) := by
 obtain ⟨A, n, c, rfl, -⟩ := id hv
 refine Fn.enter (N := 9) hX Tryz.func146 rfl rfl (by show _ ≤ _; simp) (fun w0 hL => ?_)
 conv => whnf
 generalize keys L = S0 at hL ⊢
 refine go ?_;try(clear hL;intro w hL)
 refine CallReq.mk (L1 := L) (L2 := []) (gputO_fn m ab ns L hA hO _ l hv hlb) (by rw [List.append_nil]; exact hL) ?_
 clear hL
 rintro u m2 L2 w hL - ⟨rfl, hA3⟩
 rw [List.append_nil] at hL
 refine go ?_;try(clear hL;intro w hL)
 exact RetReq.mk hL ⟨rfl, hA3⟩
theorem AndG_fn (m : Mem) (ab : Nat) (ns : List Nd) (L : Own) (hA : Ar ab ns L) (hO : OkA ns) (v : Value) (l : List Int) (hv : SlI m .i64 v l) (hlb : l.length ≤ 20000) :
  Ev.Fn Tryz.prog 147 [.pointer (some ⟨ab, 0, none⟩), v] m L (PutR ab (gputN true ns l)) := by
 obtain ⟨A, n, c, rfl, -⟩ := id hv
 refine Fn.enter (N := 9) hX Tryz.func147 rfl rfl (by show _ ≤ _; simp) (fun w0 hL => ?_)
 conv => whnf
 generalize keys L = S0 at hL ⊢
 refine go ?_;try(clear hL;intro w hL)
 refine CallReq.mk (L1 := L) (L2 := []) (gputA_fn m ab ns L hA hO _ l hv hlb) (by rw [List.append_nil]; exact hL) ?_
 clear hL
 rintro u m2 L2 w hL - ⟨rfl, hA3⟩
 rw [List.append_nil] at hL
 refine go ?_;try(clear hL;intro w hL)
 exact RetReq.mk hL ⟨rfl, hA3⟩
def lookN (ns : List Nd) (k : Int) (neg : Bool) : List Nd × Int := pN ns ⟨8, 0, 0, 0, 0, k, 0, neg⟩
theorem Look_fn (m : Mem) (ab : Nat) (ns : List Nd) (L : Own) (hA : Ar ab ns L) (hO : OkA ns) (k : Int) (hk : i64 k) (neg : Bool) :
  Ev.Fn Tryz.prog 181 [.pointer (some ⟨ab, 0, none⟩), .int .i64 k, .bool neg] m L (PutQ ab (lookN ns k neg).1 (lookN ns k neg).2 m) := by
 refine Fn.enter (N := 12) hX Tryz.func181 rfl rfl (by show _ ≤ _; simp) (fun w0 hL => ?_)
 conv => whnf
 generalize keys L = S0 at hL ⊢
 refine go ?_;try(clear hL;intro w hL)
 refine CallReq.mk (L1 := L) (L2 := []) (put_fn m ab ns L hA hO ⟨8, 0, 0, 0, 0, k, 0, neg⟩ ⟨by simp [i64], by simp [u64], by simp [u64], by simp [u64], by simp [u64], hk, by simp [i64]⟩) (by rw [List.append_nil]; exact hL) ?_
 clear hL
 rintro u m2 L2 w hL - ⟨rfl, rfl, hA3⟩
 rw [List.append_nil] at hL
 refine go ?_;try(clear hL;intro w hL)
 exact RetReq.mk hL ⟨rfl, rfl, hA3⟩
instance (ns : List Nd) (z : Int) : Decidable (okId ns z) := inferInstanceAs (Decidable (0 ≤ z ∧ z < ns.length))
def notN (ns : List Nd) (x : Int) : List Nd × Int :=
 if okId ns x then if kindN ns x = 6 then (ns, (nodeN ns x).1.a) else pN ns (ndP 6 x 0) else (ns, -1)
def starN (ns : List Nd) (x : Int) : List Nd × Int :=
 if okId ns x then if kindN ns x = 0 ∨ kindN ns x = 1 then emptyN ns else if kindN ns x = 7 then (ns, x) else pN ns (ndP 7 x 0) else (ns, -1)
def catF : Nat → List Nd → Int → Int → List Nd × Int
 | 0, ns, _, _ => (ns, -1)
 | k + 1, ns, x, y => if okId ns x ∧ okId ns y then
   if kindN ns x = 0 ∨ kindN ns y = 0 then noneN ns
   else if kindN ns x = 1 then (ns, y) else if kindN ns y = 1 then (ns, x)
   else if kindN ns x = 3 then catF k (catF k ns (nodeN ns x).1.b y).1 (nodeN ns x).1.a (catF k ns (nodeN ns x).1.b y).2
   else pN ns (ndP 3 x y)
   else (ns, -1)
def catN (ns : List Nd) (x y : Int) : List Nd × Int := catF (x.toNat + 1) ns x y
theorem notN_ok {ns : List Nd} (h : OkA ns) {x : Int} (hx : i64 x) : OkA (notN ns x).1 := by
 unfold notN
 split
 ·split
  ·exact h
  ·exact okA_p h (inN_P (by omega) hx (by simp [i64]))
 ·exact h
theorem starN_ok {ns : List Nd} (h : OkA ns) {x : Int} (hx : i64 x) : OkA (starN ns x).1 := by
 unfold starN
 split
 ·split
  ·exact okA_empty h
  split
  ·exact h
  ·exact okA_p h (inN_P (by omega) hx (by simp [i64]))
 ·exact h
theorem catF_i64 : ∀ (k : Nat) {ns : List Nd} (_ : OkA ns) {x y : Int} (_ : i64 x) (_ : i64 y), OkA (catF k ns x y).1 ∧ i64 (catF k ns x y).2
 | 0, ns, h, x, y, hx, hy => ⟨h, by simp [catF, i64]⟩
 | k + 1, ns, h, x, y, hx, hy => by
   rw [catF]
   split
   ·split
    ·exact ⟨okA_none h, pN_i64 h _⟩
    split
    ·exact ⟨h, hy⟩
    split
    ·exact ⟨h, hx⟩
    split
    ·have hn := nodeN_in h x
     obtain ⟨h1, h2⟩ := catF_i64 k h hn.b hy
     exact catF_i64 k h1 hn.a h2
    ·exact ⟨okA_p h (inN_P (by omega) hx hy), pN_i64 h _⟩
   ·exact ⟨h, by simp [i64]⟩
theorem there_row {m0 m : Mem} {S0 : List Nat} {w0 w : World} {g : Nat} {l : List Int} {L : Own} (hL : Ev.Loc m0 S0 w0 m ((g, .cells (toArr (ints .i64 l)) 3 (0, 0)) :: L) w) (h : l.length ≤ 1000) :
  ∃ m1, Ev.Loc m0 S0 w0 m1 L w ∧ Mem.Le m m1 ∧ SlI m1 .i64 (.slice (some ⟨g, 0, none⟩) l.length l.length) l :=
 OwnS.freeze (te := 3) (k := .i64) (l := l) (OwnS.full (n := l.length) (by have : maxLen = 9223372036854775807 := rfl; omega) (by simp [ints])) (L2 := L) hL
theorem there1 (ns : List Nd) (x : Int) : thereN ns [x] = decide (okId ns x) := by
 unfold thereN; rw [Bool.eq_iff_iff, decide_eq_true_iff]; simp [okId]
theorem there2 (ns : List Nd) (x y : Int) : thereN ns [x, y] = decide (okId ns x ∧ okId ns y) := by
 unfold thereN; rw [Bool.eq_iff_iff, decide_eq_true_iff]; simp [okId]
theorem NotG_fn (m : Mem) (ab : Nat) (ns : List Nd) (L : Own) (hA : Ar ab ns L) (hO : OkA ns) (x : Int) :
  Ev.Fn Tryz.prog 148 [.pointer (some ⟨ab, 0, none⟩), .int .i64 x] m L (PutR ab (notN ns x)) := by
 have hnode := Node_fn m ab ns L hA x
 refine Fn.enter (N := 27) hX Tryz.func148 rfl rfl (by show _ ≤ _; simp) (fun w0 hL => ?_)
 conv => whnf
 generalize keys L = S0 at hL ⊢
 refine go ?_;try(clear hL;intro w hL)
 refine NewReq.mk hL ?_
 clear hL
 intro g w hL
 conv => whnf
 obtain ⟨m1, hL1, hm1, hs⟩ := there_row (l := [x]) hL (by simp)
 clear hL
 have hL := hL1
 clear hL1
 refine go ?_;try(clear hL;intro w hL)
 refine CallReq.lo (there2_fn m1 ab ns L hA _ [x] hs) hL ?_
 clear hL
 intro w hL
 rw [show ([x].all fun id => decide (0 ≤ id ∧ id < ns.length)) = decide (okId ns x) from there1 ns x]
 unfold notN
 by_cases hx : okId ns x
 rotate_left
 ·rw [decide_eq_false hx, if_neg hx]
  refine go ?_;try(clear hL;intro w hL)
  exact RetReq.mk hL ⟨rfl, hA⟩
 rw [decide_eq_true hx, if_pos hx]
 have hi := okId_i64 hO.len hx
 refine go ?_;try(clear hL;intro w hL)
 have hnode := Node_fn m1 ab ns L hA x
 unfold kindN
 generalize (nodeN ns x).1 = n at hnode ⊢
 generalize (nodeN ns x).2 = ok at hnode
 refine CallReq.lo hnode hL ?_
 clear hL
 intro w hL
 refine go ?_;try(clear hL;intro w hL)
 refine NewReq.mk hL ?_
 clear hL
 intro b w hL
 conv => whnf
 refine go ?_;try(clear hL;intro w hL)
 by_cases hk : n.k = 6
 ·rw [if_pos hk]
  refine BrReq.yes hk ?_
  refine go ?_;try(clear hL;intro w hL)
  exact RetReq.mk hL.drop ⟨rfl, hA⟩
 ·rw [if_neg hk]
  refine BrReq.no hk ?_
  replace hL := hL.drop
  refine go ?_;try(clear hL;intro w hL)
  refine CallReq.mk (L1 := L) (L2 := []) (put_fn m1 ab ns L hA hO (ndP 6 x 0) (inN_P (by omega) hi (by simp [i64]))) (by rw [List.append_nil]; exact hL) ?_
  clear hL
  rintro u m2 L2 w hL - ⟨rfl, rfl, hA3⟩
  rw [List.append_nil] at hL
  refine go ?_;try(clear hL;intro w hL)
  exact RetReq.mk hL ⟨rfl, hA3⟩
theorem StarG_fn (m : Mem) (ab : Nat) (ns : List Nd) (L : Own) (hA : Ar ab ns L) (hO : OkA ns) (x : Int) :
  Ev.Fn Tryz.prog 180 [.pointer (some ⟨ab, 0, none⟩), .int .i64 x] m L (PutR ab (starN ns x)) := by
 refine Fn.enter (N := 25) hX Tryz.func180 rfl rfl (by show _ ≤ _; simp) (fun w0 hL => ?_)
 conv => whnf
 generalize keys L = S0 at hL ⊢
 refine go ?_;try(clear hL;intro w hL)
 refine NewReq.mk hL ?_
 clear hL
 intro g w hL
 conv => whnf
 obtain ⟨m1, hL1, hm1, hs⟩ := there_row (l := [x]) hL (by simp)
 clear hL
 have hL := hL1
 clear hL1
 refine go ?_;try(clear hL;intro w hL)
 refine CallReq.lo (there2_fn m1 ab ns L hA _ [x] hs) hL ?_
 clear hL
 intro w hL
 rw [show ([x].all fun id => decide (0 ≤ id ∧ id < ns.length)) = decide (okId ns x) from there1 ns x]
 unfold starN
 by_cases hx : okId ns x
 rotate_left
 ·rw [decide_eq_false hx, if_neg hx]
  refine go ?_;try(clear hL;intro w hL)
  exact RetReq.mk hL ⟨rfl, hA⟩
 rw [decide_eq_true hx, if_pos hx]
 have hi := okId_i64 hO.len hx
 refine go ?_;try(clear hL;intro w hL)
 refine CallReq.lo (kind_fn m1 ab ns L hA x) hL ?_
 clear hL
 intro w hL
 generalize kindN ns x = k
 by_cases k0 : k = 0
 ·rw [if_pos (.inl k0)]
  conv => whnf
  repeat ((first | refine BrReq.yes k0 ?_ | (refine go1 ?_;try(clear hL;intro w hL))); conv => whnf)
  refine CallReq.mk (L1 := L) (L2 := []) (Empty_fn m1 ab ns L hA hO) (by rw [List.append_nil]; exact hL) ?_
  clear hL
  rintro u m2 L2 w hL - ⟨rfl, rfl, hA3⟩
  rw [List.append_nil] at hL
  refine go ?_;try(clear hL;intro w hL)
  exact RetReq.mk hL ⟨rfl, hA3⟩
 by_cases k1 : k = 1
 ·rw [if_pos (.inr k1)]
  conv => whnf
  repeat ((first | refine BrReq.no k0 ?_ | refine BrReq.yes k1 ?_ | (refine go1 ?_;try(clear hL;intro w hL))); conv => whnf)
  refine CallReq.mk (L1 := L) (L2 := []) (Empty_fn m1 ab ns L hA hO) (by rw [List.append_nil]; exact hL) ?_
  clear hL
  rintro u m2 L2 w hL - ⟨rfl, rfl, hA3⟩
  rw [List.append_nil] at hL
  refine go ?_;try(clear hL;intro w hL)
  exact RetReq.mk hL ⟨rfl, hA3⟩
 rw [if_neg (by omega)]
 by_cases k7 : k = 7
 ·rw [if_pos k7]
  conv => whnf
  repeat ((first | refine BrReq.no k0 ?_ | refine BrReq.no k1 ?_ | refine BrReq.yes k7 ?_ | (refine go1 ?_;try(clear hL;intro w hL))); conv => whnf)
  exact RetReq.mk hL ⟨rfl, hA⟩
 ·rw [if_neg k7]
  conv => whnf
  repeat ((first | refine BrReq.no k0 ?_ | refine BrReq.no k1 ?_ | refine BrReq.no k7 ?_ | (refine go1 ?_;try(clear hL;intro w hL))); conv => whnf)
  refine CallReq.mk (L1 := L) (L2 := []) (put_fn m1 ab ns L hA hO (ndP 7 x 0) (inN_P (by omega) hi (by simp [i64]))) (by rw [List.append_nil]; exact hL) ?_
  clear hL
  rintro u m2 L2 w hL - ⟨rfl, rfl, hA3⟩
  rw [List.append_nil] at hL
  refine go ?_;try(clear hL;intro w hL)
  exact RetReq.mk hL ⟨rfl, hA3⟩
theorem CatF_fn (ab : Nat) : ∀ (k : Nat) (m : Mem) (ns : List Nd) (L : Own) (_ : Ar ab ns L) (_ : OkA ns) (x y : Int) (_ : i64 x) (_ : i64 y) (_ : okId ns x → x.toNat < k) (_ : 0 < k),
  Ev.Fn Tryz.prog 145 [.pointer (some ⟨ab, 0, none⟩), .int .i64 x, .int .i64 y] m L (PutR ab (catF k ns x y)) := by
 intro k
 induction k with
 | zero => intro m ns L _ _ x y _ _ _ h; omega
 | succ k ih =>
 intro m ns L hA hO x y hxi hyi hxk _
 refine Fn.enter (N := 62) hX Tryz.func145 rfl rfl (by show _ ≤ _; simp) (fun w0 hL => ?_)
 conv => whnf
 generalize keys L = S0 at hL ⊢
 refine go ?_;try(clear hL;intro w hL)
 refine NewReq.mk hL ?_
 clear hL
 intro g w hL
 conv => whnf
 obtain ⟨m1, hL1, hm1, hs⟩ := there_row (l := [x, y]) hL (by simp)
 clear hL
 have hL := hL1
 clear hL1
 refine go ?_;try(clear hL;intro w hL)
 refine CallReq.lo (there2_fn m1 ab ns L hA _ [x, y] hs) hL ?_
 clear hL
 intro w hL
 rw [show ([x, y].all fun id => decide (0 ≤ id ∧ id < ns.length)) = decide (okId ns x ∧ okId ns y) from there2 ns x y]
 rw [catF]
 by_cases hx : okId ns x ∧ okId ns y
 rotate_left
 ·rw [decide_eq_false hx, if_neg hx]
  refine go ?_;try(clear hL;intro w hL)
  exact RetReq.mk hL ⟨rfl, hA⟩
 rw [decide_eq_true hx, if_pos hx]
 refine go ?_;try(clear hL;intro w hL)
 have hnode := Node_fn m1 ab ns L hA x
 have hpt := fun h => okId_parts hO hx.1 (.inl h)
 have hlt : kindN ns x = 3 → (nodeN ns x).1.a < x ∧ (nodeN ns x).1.b < x := fun h => by
  obtain ⟨nx, e1, e2⟩ := nodeN_ok hx.1
  unfold kindN at h
  rw [e1] at h ⊢
  have := (right_lt (hO.right _ nx e2)).1 (.inl h)
  have := hx.1
  unfold okId at this
  simp only
  omega
 have hk1 : kindN ns x = (nodeN ns x).1.k := rfl
 have hnin := nodeN_in hO x
 rw [hk1] at hpt hlt ⊢
 clear hk1
 generalize (nodeN ns x).1 = n at hnode hpt hlt hnin ⊢
 generalize (nodeN ns x).2 = ok at hnode
 refine CallReq.lo hnode hL ?_
 clear hL
 intro w hL
 refine go ?_;try(clear hL;intro w hL)
 refine NewReq.mk hL ?_
 clear hL
 intro b w hL
 conv => whnf
 replace hL : Ev.Loc m S0 w0 m1 ((b, .cells (toArr (ndC nd0)) 146 (0, 0)) :: L) w := hL
 have hky := kind_fn m1 ab ns L hA y
 generalize kindN ns y = ky at hky ⊢
 by_cases k0 : n.k = 0
 ·rw [if_pos (.inl k0)]
  conv => whnf
  repeat ((first | refine BrReq.yes k0 ?_ | (refine go1 ?_;try(clear hL;intro w hL))); conv => whnf)
  refine CallReq.mk (L1 := L) (L2 := [_]) (None_fn m1 ab ns L hA hO) (Loc.back (L1 := [_]) hL) ?_
  clear hL
  rintro u mx L2 w hL - ⟨hmx, rfl, hA3⟩
  rw [hmx] at hL
  clear hmx mx
  have hL := Loc.back (L1 := L2) (L2 := [_]) hL
  refine go ?_;try(clear hL;intro w hL)
  exact RetReq.mk hL.drop ⟨rfl, hA3⟩
 by_cases y0 : ky = 0
 ·rw [if_pos (.inr y0)]
  conv => whnf
  repeat ((first | refine BrReq.no k0 ?_ | refine BrReq.yes y0 ?_ | (refine go1 ?_;try(clear hL;intro w hL))); conv => whnf)
  refine CallReq.li (L1 := L) hky (Loc.back (L1 := [_]) hL) ?_
  clear hL
  intro w hL
  have hL := Loc.back (L1 := L) (L2 := [_]) hL
  replace hL : Ev.Loc m S0 w0 m1 ((b, .cells (toArr (ndC n)) 146 (0, 0)) :: L) w := hL
  conv => whnf
  repeat ((first | refine BrReq.no k0 ?_ | refine BrReq.yes y0 ?_ | (refine go1 ?_;try(clear hL;intro w hL))); conv => whnf)
  refine CallReq.mk (L1 := L) (L2 := [_]) (None_fn m1 ab ns L hA hO) (Loc.back (L1 := [_]) hL) ?_
  clear hL
  rintro u mx L2 w hL - ⟨hmx, rfl, hA3⟩
  rw [hmx] at hL
  clear hmx mx
  have hL := Loc.back (L1 := L2) (L2 := [_]) hL
  refine go ?_;try(clear hL;intro w hL)
  exact RetReq.mk hL.drop ⟨rfl, hA3⟩
 rw [if_neg (by omega)]
 conv => whnf
 repeat ((first | refine BrReq.no k0 ?_ | refine BrReq.no y0 ?_ | (refine go1 ?_;try(clear hL;intro w hL))); conv => whnf)
 refine CallReq.li (L1 := L) hky (Loc.back (L1 := [_]) hL) ?_
 clear hL
 intro w hL
 have hL := Loc.back (L1 := L) (L2 := [_]) hL
 replace hL : Ev.Loc m S0 w0 m1 ((b, .cells (toArr (ndC n)) 146 (0, 0)) :: L) w := hL
 by_cases k1 : n.k = 1
 ·rw [if_pos k1]
  conv => whnf
  repeat ((first | refine BrReq.no k0 ?_ | refine BrReq.no y0 ?_ | refine BrReq.yes k1 ?_ | (refine go1 ?_;try(clear hL;intro w hL))); conv => whnf)
  exact RetReq.mk hL.drop ⟨rfl, hA⟩
 rw [if_neg k1]
 conv => whnf
 repeat ((first | refine BrReq.no k0 ?_ | refine BrReq.no y0 ?_ | refine BrReq.no k1 ?_ | (refine go1 ?_;try(clear hL;intro w hL))); conv => whnf)
 refine CallReq.li (L1 := L) hky (Loc.back (L1 := [_]) hL) ?_
 clear hL
 intro w hL
 have hL := Loc.back (L1 := L) (L2 := [_]) hL
 replace hL : Ev.Loc m S0 w0 m1 ((b, .cells (toArr (ndC n)) 146 (0, 0)) :: L) w := hL
 by_cases y1 : ky = 1
 ·rw [if_pos y1]
  conv => whnf
  repeat ((first | refine BrReq.yes y1 ?_ | (refine go1 ?_;try(clear hL;intro w hL))); conv => whnf)
  exact RetReq.mk hL.drop ⟨rfl, hA⟩
 rw [if_neg y1]
 by_cases k3 : n.k = 3
 ·rw [if_pos k3]
  obtain ⟨hpa, hpb⟩ := hpt k3
  obtain ⟨hla, hlb⟩ := hlt k3
  have hxk := hxk hx.1
  have hx1 := hx.1
  unfold okId at hx1 hpa hpb
  have i1 := ih m1 ns L hA hO n.b y hnin.b hyi (fun _ => by omega) (by omega)
  have e1 := catF_i64 k hO hnin.b hyi
  have hpre2 : ∀ ns' : List Nd, okId ns' n.a → n.a.toNat < k := fun _ _ => by omega
  generalize catF k ns n.b y = r1 at i1 e1 ⊢
  conv => whnf
  repeat ((first | refine BrReq.no y1 ?_ | refine BrReq.yes k3 ?_ | (refine go1 ?_;try(clear hL;intro w hL))); conv => whnf)
  refine DrawReq.plan hX (.fst 0 (.fst 1 (.fst 2 (.fst 3 (.fst 4 (.fst 5 (.fst 6 (.alt 7 (.alt 8 (.fst 9 (.done)) (.stop)) (.stop))))))))) [(b, .cells (toArr (ndC n)) 146 (0, 0))] (by kernel_rfl) (by kernel_rfl) hL (fun h => h.one 0 rfl) ?_
  clear hL
  intro w hL
  refine goq ?_;try(clear hL;intro w hL)
  refine CallReq.mk (L1 := L) (L2 := [_]) i1 (Loc.back (L1 := [_]) hL) ?_
  clear hL
  rintro u m2 L2 w hL hm2 ⟨rfl, hA3⟩
  have hL := Loc.back (L1 := L2) (L2 := [_]) hL
  refine SReq.mk ((hL.one 0 rfl).weaken hm2 hm1) ?_
  refine goq ?_;try(clear hL;intro w hL)
  have i2 := ih m2 r1.1 L2 hA3 e1.1 n.a r1.2 hnin.a e1.2 (hpre2 _) (by omega)
  refine CallReq.mk (L1 := L2) (L2 := [_]) i2 (Loc.back (L1 := [_]) hL) ?_
  clear hL
  rintro u m3 L3 w hL hm3 ⟨rfl, hA4⟩
  have hL := Loc.back (L1 := L3) (L2 := [_]) hL
  refine SReq.mk ((hL.one 0 rfl).weaken (hm2.trans hm3) hm1) ?_
  refine goq ?_;try(clear hL;intro w hL)
  exact RetReq.mk hL.drop ⟨rfl, hA4⟩
 ·rw [if_neg k3]
  conv => whnf
  repeat ((first | refine BrReq.no y1 ?_ | refine BrReq.no k3 ?_ | (refine go1 ?_;try(clear hL;intro w hL))); conv => whnf)
  refine CallReq.mk (L1 := L) (L2 := [_]) (put_fn m1 ab ns L hA hO (ndP 3 x y) (inN_P (by omega) hxi hyi)) (Loc.back (L1 := [_]) hL) ?_
  clear hL
  rintro u mx L2 w hL - ⟨hmx, rfl, hA3⟩
  rw [hmx] at hL
  clear hmx mx
  have hL := Loc.back (L1 := L2) (L2 := [_]) hL
  refine go ?_;try(clear hL;intro w hL)
  exact RetReq.mk hL.drop ⟨rfl, hA3⟩
end Go.Proofs.YtaooenndoopgdaaGreatDoor.ar
namespace Go.Proofs.YtaooenndoopgdaaGreatDoor.ar
open Go Go.Ev Go.Proofs
theorem right_mono {x : Nd} {n n' : Nat} (h : rightN x n = true) (hn : n ≤ n') : rightN x n' = true := by
 unfold rightN at *
 split at h
 ·rw [if_pos (by assumption)]; exact h
 rename_i h1
 rw [if_neg h1]
 split at h
 ·rw [if_pos (by assumption)]; exact h
 rename_i h2
 rw [if_neg h2]
 split at h
 ·rename_i h3
  rw [if_pos h3]
  simp only [Bool.and_eq_true, decide_eq_true_eq] at h ⊢
  exact ⟨by omega, h.2⟩
 rename_i h3
 rw [if_neg h3]
 split at h
 ·rename_i h4
  rw [if_pos h4]
  simp only [Bool.and_eq_true, decide_eq_true_eq] at h ⊢
  exact ⟨by omega, h.2⟩
 rename_i h4
 rw [if_neg h4]
 exact h
def At (ns : List Nd) (z : Int) (x : Nd) : Prop := 0 ≤ z ∧ ns[z.toNat]? = some x
theorem At.ok {ns : List Nd} {z : Int} {x : Nd} (h : At ns z x) : okId ns z := by
 have := (List.getElem?_eq_some_iff.1 h.2).1
 have := h.1
 unfold okId; omega
theorem At.node {ns : List Nd} {z : Int} {x : Nd} (h : At ns z x) : nodeN ns z = (x, true) := by
 obtain ⟨y, e1, e2⟩ := nodeN_ok h.ok
 rw [e1]; rw [h.2] at e2; cases e2; rfl
theorem At.kind {ns : List Nd} {z : Int} {x : Nd} (h : At ns z x) : kindN ns z = x.k := by unfold kindN; rw [h.node]
theorem okId.at {ns : List Nd} {z : Int} (h : okId ns z) : ∃ x, At ns z x ∧ nodeN ns z = (x, true) := by
 obtain ⟨x, e1, e2⟩ := nodeN_ok h
 exact ⟨x, ⟨h.1, e2⟩, e1⟩
theorem At.pre {ns ns' : List Nd} (hp : ns <+: ns') {z : Int} {x : Nd} (h : At ns z x) : At ns' z x := by
 obtain ⟨t, rfl⟩ := hp
 exact ⟨h.1, by rw [List.getElem?_append_left (List.getElem?_eq_some_iff.1 h.2).1]; exact h.2⟩
theorem node_pre {ns ns' : List Nd} (hp : ns <+: ns') {z : Int} (h : okId ns z) : nodeN ns' z = nodeN ns z := by
 obtain ⟨x, h1, h2⟩ := h.at
 rw [(h1.pre hp).node, h2]
theorem kind_pre {ns ns' : List Nd} (hp : ns <+: ns') {z : Int} (h : okId ns z) : kindN ns' z = kindN ns z := by unfold kindN; rw [node_pre hp h]
theorem At.right {ns : List Nd} (hO : OkA ns) {z : Int} {x : Nd} (h : At ns z x) : rightN x z.toNat = true := hO.right _ _ h.2
theorem pN_have {ns : List Nd} (hO : OkA ns) {z : Int} {x : Nd} (h : At ns z x) : pN ns x = (ns, z) := by
 have hl := (List.getElem?_eq_some_iff.1 h.2).1
 have hr := right_mono (h.right hO) (Nat.le_of_lt hl)
 have hm : x ∈ ns := List.mem_of_getElem? h.2
 have hi : ns.idxOf x = z.toNat := by
  rw [← (List.getElem?_eq_some_iff.1 h.2).2]
  exact hO.nodup.idxOf_getElem _ hl
 have e : putN ns x = (ns, z.toNat, 0) := by
  unfold putN
  rw [if_neg (by rw [hr]; decide), if_pos hm, hi]
 unfold pN putI
 rw [e]
 simp only [if_true]
 congr 1
 have := h.1; omega
theorem pN_new {ns : List Nd} {x : Nd} (h : rightN x ns.length = true) (hm : x ∉ ns) (hn : ns.length < 20000) : pN ns x = (ns ++ [x], (ns.length : Int)) := by
 have e : putN ns x = (ns ++ [x], ns.length, 0) := by
  unfold putN
  rw [if_neg (by rw [h]; decide), if_neg hm, if_neg (by omega)]
 unfold pN putI
 rw [e]
 rfl
theorem at_new (ns : List Nd) (x : Nd) : At (ns ++ [x]) (ns.length : Int) x := ⟨by omega, by rw [Int.toNat_natCast, List.getElem?_append_right (Nat.le_refl _), Nat.sub_self]; rfl⟩
theorem pN_spec {ns : List Nd} (hO : OkA ns) {x : Nd} (h : rightN x ns.length = true) (hn : ns.length < 20000) :
  At (pN ns x).1 (pN ns x).2 x ∧ ((pN ns x).1 = ns ∨ (pN ns x).1 = ns ++ [x] ∧ x ∉ ns) := by
 by_cases hm : x ∈ ns
 ·obtain ⟨i, hi, e⟩ := List.getElem_of_mem hm
  have hat : At ns (i : Int) x := ⟨by omega, by rw [Int.toNat_natCast, List.getElem?_eq_getElem hi, e]⟩
  rw [pN_have hO hat]
  exact ⟨hat, .inl rfl⟩
 ·rw [pN_new h hm hn]
  exact ⟨at_new ns x, .inr ⟨rfl, hm⟩⟩
theorem pN_any {ns : List Nd} (hO : OkA ns) (x : Nd) : (pN ns x).2 = -1 ∧ (pN ns x).1 = ns ∨ At (pN ns x).1 (pN ns x).2 x := by
 by_cases h : rightN x ns.length = true
 ·by_cases hm : x ∈ ns
  ·right
   obtain ⟨i, hi, e⟩ := List.getElem_of_mem hm
   have hat : At ns (i : Int) x := ⟨by omega, by rw [Int.toNat_natCast, List.getElem?_eq_getElem hi, e]⟩
   rw [pN_have hO hat]
   exact hat
  ·by_cases hn : ns.length < 20000
   ·right; exact (pN_spec hO h hn).1
   ·left
    have e : putN ns x = (ns, 0, 4) := by
     unfold putN
     rw [if_neg (by rw [h]; decide), if_neg hm, if_pos (by omega)]
    unfold pN putI
    rw [e]
    exact ⟨rfl, rfl⟩
 ·left
  have e : putN ns x = (ns, 0, 1) := by
   unfold putN
   rw [if_pos (by cases hh : rightN x ns.length; rfl; exact absurd hh h)]
  unfold pN putI
  rw [e]
  exact ⟨rfl, rfl⟩
theorem gbytes_pre (g : Bool) (ns : List Nd) (l : List Int) : ns <+: (gbytesN g ns l).1 := by
 unfold gbytesN
 split
 ·exact List.prefix_refl _
 ·exact bytesN_pre _ _
theorem chain_pre (kd : Int) : ∀ (l : List Int) (ns : List Nd) (out : Int), ns <+: (chainN kd ns l out).1
 | [], ns, _ => List.prefix_refl _
 | z :: l, ns, out => (pN_pre ns _).trans (chain_pre kd l _ _)
theorem chainR_pre (kd : Int) (ns : List Nd) (no : Int) (l : List Int) : ns <+: (chainR kd ns no l).1 := by
 cases l with
 | nil => exact List.prefix_refl _
 | cons z l => exact chain_pre kd l ns z
theorem rest_pre (g : Bool) (ns : List Nd) (l : List Int) (no wi : Int) : ns <+: (restN g ns l no wi).1 := by
 unfold restN
 split
 ·exact List.prefix_refl _
 ·exact chainR_pre _ _ _ _
theorem gput_pre (g : Bool) (ns : List Nd) (l : List Int) : ns <+: (gputN g ns l).1 := by
 unfold gputN
 split
 ·exact List.prefix_refl _
 ·exact (nothing_pre g ns).trans ((wins_pre g _).trans ((gbytes_pre g _ _).trans (rest_pre g _ _ _ _)))
theorem catF_pre : ∀ (k : Nat) (ns : List Nd) (x y : Int), ns <+: (catF k ns x y).1
 | 0, ns, x, y => List.prefix_refl _
 | k + 1, ns, x, y => by
   rw [catF]
   split
   ·split
    ·exact none_pre ns
    split
    ·exact List.prefix_refl _
    split
    ·exact List.prefix_refl _
    split
    ·exact (catF_pre k _ _ _).trans (catF_pre k _ _ _)
    ·exact pN_pre _ _
   ·exact List.prefix_refl _
theorem notN_pre (ns : List Nd) (x : Int) : ns <+: (notN ns x).1 := by
 unfold notN
 split
 ·split
  ·exact List.prefix_refl _
  ·exact pN_pre _ _
 ·exact List.prefix_refl _
theorem starN_pre (ns : List Nd) (x : Int) : ns <+: (starN ns x).1 := by
 unfold starN
 split
 ·split
  ·exact pN_pre _ _
  split
  ·exact List.prefix_refl _
  ·exact pN_pre _ _
 ·exact List.prefix_refl _
inductive Mb (ns : List Nd) (kd : Int) : Int → Int → Prop
 | leaf {x : Int} : kindN ns x ≠ kd → Mb ns kd x x
 | a {x z : Int} : kindN ns x = kd → Mb ns kd (nodeN ns x).1.a z → Mb ns kd x z
 | b {x z : Int} : kindN ns x = kd → Mb ns kd (nodeN ns x).1.b z → Mb ns kd x z
theorem Mb.kind {ns : List Nd} {kd x z : Int} (h : Mb ns kd x z) : kindN ns z ≠ kd := by
 induction h with
 | leaf h => exact h
 | a _ _ ih => exact ih
 | b _ _ ih => exact ih
theorem get! {l : List Int} {j : Nat} (h : j < l.length) : l.toArray[j]! = l[j] := by simp [getElem!_pos, h]
theorem compact_mem' {l : List Int} {z : Int} : z ∈ l → z ∈ Lib.compact l := by
 intro h
 have hex : ∃ j, j < l.length ∧ l.toArray[j]! = z := by
  obtain ⟨j, hj, e⟩ := List.getElem_of_mem h
  exact ⟨j, hj, by rw [get! hj, e]⟩
 obtain ⟨j, ⟨hj, e⟩, hmin⟩ : ∃ j, (j < l.length ∧ l.toArray[j]! = z) ∧ ∀ i, i < j → ¬ (i < l.length ∧ l.toArray[i]! = z) := by
  obtain ⟨j0, h0⟩ := hex
  induction j0 using Nat.strongRecOn with
  | ind j0 ih =>
    by_cases hm : ∃ i, i < j0 ∧ (i < l.length ∧ l.toArray[i]! = z)
    ·obtain ⟨i, hi, h1⟩ := hm; exact ih i hi h1
    ·exact ⟨j0, h0, fun i hi h1 => hm ⟨i, hi, h1⟩⟩
 unfold Lib.compact Lib.compactUpTo
 refine List.mem_map.2 ⟨j, List.mem_filter.2 ⟨List.mem_range.2 hj, ?_⟩, e⟩
 unfold Lib.keeps
 refine decide_eq_true ?_
 by_cases h0 : j = 0
 ·exact .inl h0
 ·right
  intro e2
  exact hmin (j - 1) (by omega) ⟨by omega, by rw [← e2, e]⟩
theorem compact_lt {l : List Int} (h : l.Pairwise (· ≤ ·)) : (Lib.compact l).Pairwise (· < ·) := by
 unfold Lib.compact Lib.compactUpTo
 rw [List.pairwise_map]
 have hp : ((List.range l.length).filter (Lib.keeps l.toArray)).Pairwise (· < ·) := List.pairwise_lt_range.filter _
 refine hp.imp_of_mem fun {a b} ha hb hab => ?_
 have ha' := List.mem_range.1 (List.mem_filter.1 ha).1
 have hb' := List.mem_range.1 (List.mem_filter.1 hb).1
 have hk := (List.mem_filter.1 hb).2
 unfold Lib.keeps at hk
 have hk := of_decide_eq_true hk
 rw [get! ha', get! hb']
 rw [List.pairwise_iff_getElem] at h
 rcases hk with h0 | hk
 ·omega
 ·rw [get! hb', get! (by omega : b - 1 < l.length)] at hk
  have h1 : l[b - 1] ≤ l[b] := h (b - 1) b (by omega) hb' (by omega)
  have h2 : l[a] ≤ l[b - 1] := by
   by_cases e : a = b - 1
   ·subst e; exact Int.le_refl _
   ·exact h a (b - 1) ha' (by omega) (by omega)
  omega
theorem sortI_le (l : List Int) : (sortI l).Pairwise (· ≤ ·) := by
 unfold sortI
 have := List.pairwise_mergeSort (le := fun x y : Int => decide (x ≤ y)) (fun a b c h1 h2 => by simp only [decide_eq_true_eq] at *; omega) (fun a b => by simp only [Bool.or_eq_true, decide_eq_true_eq]; omega) l
 exact this.imp fun h => of_decide_eq_true h
end Go.Proofs.YtaooenndoopgdaaGreatDoor.ar
namespace Go.Proofs.YtaooenndoopgdaaGreatDoor.ar
open Go Go.Ev Go.Proofs
def chF (ns : List Nd) (kd : Int) : Nat → Int → List Int
 | 0, x => [x]
 | k + 1, x => if kindN ns x = kd then (nodeN ns x).1.a :: chF ns kd k (nodeN ns x).1.b else [x]
def chN (ns : List Nd) (kd x : Int) : List Int := chF ns kd (x.toNat + 1) x
theorem parts_lt {ns : List Nd} (hO : OkA ns) {x : Int} (h : okId ns x) (hk : kindN ns x = 3 ∨ kindN ns x = 4 ∨ kindN ns x = 5) :
  (okId ns (nodeN ns x).1.a ∧ (nodeN ns x).1.a < x) ∧ (okId ns (nodeN ns x).1.b ∧ (nodeN ns x).1.b < x) := by
 obtain ⟨p, e⟩ := okId_parts hO h hk
 obtain ⟨n, e1, e2⟩ := nodeN_ok h
 unfold kindN at hk
 rw [e1] at hk p e ⊢
 have := (right_lt (hO.right _ n e2)).1 hk
 have := h.1
 simp only at *
 exact ⟨⟨p, by omega⟩, e, by omega⟩
structure Lst (ns : List Nd) (kd : Int) (l : List Int) : Prop where
 ok : ∀ z ∈ l, okId ns z
 lt : l.Pairwise (· < ·)
 kind : ∀ z ∈ l, kindN ns z ≠ kd
 none : ∀ z ∈ l, z ≠ 0
 all : ∀ z ∈ l, z ≠ 2
 one : ∀ z ∈ l, ∀ y ∈ l, kindN ns z = 2 → kindN ns y = 2 → z = y
def NmX (ns : List Nd) (x : Nd) : Prop :=
 (x.k = 2 → setOf x ≠ z4) ∧
 (x.k = 3 → (kindN ns x.a ≠ 0 ∧ kindN ns x.a ≠ 1 ∧ kindN ns x.a ≠ 3) ∧ kindN ns x.b ≠ 0 ∧ kindN ns x.b ≠ 1) ∧
 (x.k = 4 ∨ x.k = 5 → Lst ns x.k (x.a :: chN ns x.k x.b)) ∧
 (x.k = 6 → kindN ns x.a ≠ 6) ∧
 (x.k = 7 → kindN ns x.a ≠ 0 ∧ kindN ns x.a ≠ 1 ∧ kindN ns x.a ≠ 7)
structure Nm (ns : List Nd) : Prop where
 ok : OkA ns
 n0 : At ns 0 (ndK 0)
 n1 : At ns 1 (ndK 1)
 n2 : At ns 2 (ndP 6 0 0)
 nm : ∀ z x, At ns z x → NmX ns x
theorem Nm.none {ns : List Nd} (h : Nm ns) : noneN ns = (ns, 0) := pN_have h.ok h.n0
theorem Nm.all {ns : List Nd} (h : Nm ns) : allN ns = (ns, 2) := by
 have e : pN ns (ndK 0) = (ns, 0) := h.none
 have e2 : putI ns (ndK 0) = 0 := congrArg Prod.snd e
 have ea : allX ns = ndP 6 0 0 := by unfold allX ndP; rw [e2]
 unfold allN
 rw [h.none, ea]
 exact pN_have h.ok h.n2
end Go.Proofs.YtaooenndoopgdaaGreatDoor.ar
namespace Go.Proofs.YtaooenndoopgdaaGreatDoor.ar
open Go Go.Ev Go.Proofs
theorem one_lt {ns : List Nd} (hO : OkA ns) {x : Int} (h : okId ns x) (hk : kindN ns x = 6 ∨ kindN ns x = 7) : okId ns (nodeN ns x).1.a ∧ (nodeN ns x).1.a < x := by
 obtain ⟨n, e1, e2⟩ := nodeN_ok h
 unfold kindN at hk
 rw [e1] at hk ⊢
 have h1 := (right_lt (hO.right _ n e2)).2.1 hk
 have h2 := h.1
 have h3 := h.2
 simp only at *
 exact ⟨⟨by omega, by omega⟩, by omega⟩
def depF : Nat → List Nd → Int → Nat
 | 0, _, _ => 0
 | k + 1, ns, x => if kindN ns x = 3 ∨ kindN ns x = 4 ∨ kindN ns x = 5 then max (depF k ns (nodeN ns x).1.a) (depF k ns (nodeN ns x).1.b) + 1 else if kindN ns x = 6 ∨ kindN ns x = 7 then depF k ns (nodeN ns x).1.a + 1 else 0
def dep (ns : List Nd) (x : Int) : Nat := depF (x.toNat + 1) ns x
theorem depF_eq {ns : List Nd} (hO : OkA ns) : ∀ (k k' : Nat) (x : Int), okId ns x → x.toNat < k → x.toNat < k' → depF k ns x = depF k' ns x := by
 intro k
 induction k with
 | zero => intro k' x _ h; omega
 | succ k ih =>
   intro k' x hx h h'
   cases k' with
   | zero => omega
   | succ k' =>
     rw [depF, depF]
     split
     ·rename_i hk
      obtain ⟨⟨p1, p2⟩, p3, p4⟩ := parts_lt hO hx hk
      have := hx.1
      have := p1.1
      have := p3.1
      rw [ih k' _ p1 (by omega) (by omega), ih k' _ p3 (by omega) (by omega)]
     ·split
      ·rename_i hk
       obtain ⟨p1, p2⟩ := one_lt hO hx hk
       have := hx.1
       have := p1.1
       rw [ih k' _ p1 (by omega) (by omega)]
      ·rfl
theorem depF_dep {ns : List Nd} (hO : OkA ns) {k : Nat} {x : Int} (hx : okId ns x) (h : x.toNat < k) : depF k ns x = dep ns x := depF_eq hO _ _ x hx h (Nat.lt_succ_self _)
theorem dep_two {ns : List Nd} (hO : OkA ns) {x : Int} (hx : okId ns x) (hk : kindN ns x = 3 ∨ kindN ns x = 4 ∨ kindN ns x = 5) : dep ns (nodeN ns x).1.a < dep ns x ∧ dep ns (nodeN ns x).1.b < dep ns x := by
 obtain ⟨⟨p1, p2⟩, p3, p4⟩ := parts_lt hO hx hk
 have := hx.1
 have := p1.1
 have := p3.1
 have e : dep ns x = max (dep ns (nodeN ns x).1.a) (dep ns (nodeN ns x).1.b) + 1 := by
  conv => lhs; unfold dep
  rw [depF, if_pos hk, depF_dep hO p1 (by omega), depF_dep hO p3 (by omega)]
 rw [e]
 omega
theorem dep_one {ns : List Nd} (hO : OkA ns) {x : Int} (hx : okId ns x) (hk : kindN ns x = 6 ∨ kindN ns x = 7) : dep ns x = dep ns (nodeN ns x).1.a + 1 := by
 obtain ⟨p1, p2⟩ := one_lt hO hx hk
 have := hx.1
 have := p1.1
 conv => lhs; unfold dep
 rw [depF, if_neg (by omega), if_pos hk, depF_dep hO p1 (by omega)]
theorem dep_pre {ns ns' : List Nd} (hO : OkA ns) (hO' : OkA ns') (hp : ns <+: ns') : ∀ (k : Nat) (x : Int), okId ns x → depF k ns' x = depF k ns x := by
 intro k
 induction k with
 | zero => intro x _; rfl
 | succ k ih =>
   intro x hx
   rw [depF, depF, kind_pre hp hx, node_pre hp hx]
   split
   ·rename_i hk
    obtain ⟨⟨p1, p2⟩, p3, p4⟩ := parts_lt hO hx hk
    rw [ih _ p1, ih _ p3]
   ·split
    ·rename_i hk
     rw [ih _ (one_lt hO hx hk).1]
    ·rfl
theorem dep_grow {ns ns' : List Nd} (hO : OkA ns) (hO' : OkA ns') (hp : ns <+: ns') {x : Int} (hx : okId ns x) : dep ns' x = dep ns x := dep_pre hO hO' hp _ x hx
theorem dep_not {ns : List Nd} (hO : OkA ns) {x : Int} (hx : okId ns x) (hy : okId (notN ns x).1 (notN ns x).2) : dep (notN ns x).1 (notN ns x).2 ≤ dep ns x + 1 := by
 have hO' := notN_ok hO (okId_i64 hO.len hx)
 have hp := notN_pre ns x
 unfold notN at hy hO' hp ⊢
 rw [if_pos hx] at hy hO' hp ⊢
 by_cases h6 : kindN ns x = 6
 ·rw [if_pos h6]
  have := dep_one hO hx (.inl h6)
  show dep ns (nodeN ns x).1.a ≤ _
  omega
 ·rw [if_neg h6] at hy hO' hp ⊢
  rcases pN_any hO (ndP 6 x 0) with ⟨h1, -⟩ | hat
  ·rw [h1] at hy
   have := hy.1; omega
  ·have hk : kindN (pN ns (ndP 6 x 0)).1 (pN ns (ndP 6 x 0)).2 = 6 := hat.kind
   have e := dep_one hO' hy (.inl hk)
   rw [hat.node] at e
   have e2 : dep (pN ns (ndP 6 x 0)).1 x = dep ns x := dep_grow hO hO' hp hx
   show dep (pN ns (ndP 6 x 0)).1 (pN ns (ndP 6 x 0)).2 ≤ _
   have e3 : dep (pN ns (ndP 6 x 0)).1 (pN ns (ndP 6 x 0)).2 = dep (pN ns (ndP 6 x 0)).1 x + 1 := e
   omega
end Go.Proofs.YtaooenndoopgdaaGreatDoor.ar
namespace Go.Proofs.YtaooenndoopgdaaGreatDoor.ar
open Go Go.Ev Go.Proofs Go.Proofs.YtaooenndoopgdaaGreatDoor.tree
def catsN : List Nd → List Int → Int → List Nd × Int
 | ns, [], out => (ns, out)
 | ns, z :: l, out => catsN (catN ns z out).1 l (catN ns z out).2
def optN (x : Int) : Nat → List Nd → Int → List Nd × Int
 | 0, ns, out => (ns, out)
 | n + 1, ns, out => optN x n (orN (catN (emptyN ns).1 x out).1 [(emptyN ns).2, (catN (emptyN ns).1 x out).2]).1 (orN (catN (emptyN ns).1 x out).1 [(emptyN ns).2, (catN (emptyN ns).1 x out).2]).2
def repN (x : Int) : Nat → List Nd → Int → List Nd × Int
 | 0, ns, out => (ns, out)
 | n + 1, ns, out => repN x n (catN ns x out).1 (catN ns x out).2
def timesN (lo hi : Int) (ns : List Nd) (x : Int) : List Nd × Int :=
 let e := emptyN ns
 let s := if hi < 0 then starN e.1 x else e
 let o := optN x (hi - lo).toNat s.1 s.2
 repN x lo.toNat o.1 o.2
abbrev Bs := (List Nd × Int) × Int
def lookedN (ns : List Nd) (e : Int) (k : Int) (neg : Bool) : Bs := if k < 0 ∨ 4 ≤ k then (((noneN ns).1, 10), (noneN ns).2) else (((lookN ns k neg).1, e), (lookN ns k neg).2)
mutual
def bR (lk : Re → Int) : Re → List Nd → Int → Bs
 | .mk k s0 s1 s2 s3 rs lo hi neg, ns, e =>
   if k = 0 then (((noneN ns).1, e), (noneN ns).2)
   else if k = 1 then (((emptyN ns).1, e), (emptyN ns).2)
   else if k = 2 then (((bytesN ns ⟨s0, s1, s2, s3⟩).1, e), (bytesN ns ⟨s0, s1, s2, s3⟩).2)
   else if k = 3 then
    let p := bL lk rs (emptyN ns).1 e
    let c := catsN p.1.1 p.2.reverse (emptyN ns).2
    ((c.1, p.1.2), c.2)
   else if k = 4 then
    let p := bL lk rs ns e
    (((orN p.1.1 p.2).1, p.1.2), (orN p.1.1 p.2).2)
   else if k = 5 then
    let p := bL lk rs ns e
    (((andN p.1.1 p.2).1, p.1.2), (andN p.1.1 p.2).2)
   else if k = 6 then
    let p := bL lk rs ns e
    (((notN p.1.1 (p.2.headD 0)).1, p.1.2), (notN p.1.1 (p.2.headD 0)).2)
   else if k = 7 then
    let p := bL lk rs ns e
    (((timesN lo hi p.1.1 (p.2.headD 0)).1, p.1.2), (timesN lo hi p.1.1 (p.2.headD 0)).2)
   else lookedN ns e (lk (.mk k s0 s1 s2 s3 rs lo hi false)) neg
def bL (lk : Re → Int) : List Re → List Nd → Int → (List Nd × Int) × List Int
 | [], ns, e => ((ns, e), [])
 | r :: l, ns, e =>
   let p := bR lk r ns e
   let q := bL lk l p.1.1 p.1.2
   (q.1, p.2 :: q.2)
end
theorem bL_take (lk : Re → Int) : ∀ (rs : List Re) (ns : List Nd) (e : Int) (j : Nat) (h : j < rs.length), bL lk (rs.take (j + 1)) ns e =
  ((bR lk rs[j] (bL lk (rs.take j) ns e).1.1 (bL lk (rs.take j) ns e).1.2).1, (bL lk (rs.take j) ns e).2 ++ [(bR lk rs[j] (bL lk (rs.take j) ns e).1.1 (bL lk (rs.take j) ns e).1.2).2])
 | r :: l, ns, e, 0, h => by simp [bL]
 | r :: l, ns, e, j + 1, h => by
   simp only [List.take_succ_cons, bL, List.getElem_cons_succ]
   rw [bL_take lk l _ _ j (by simpa using h)]
   rfl
theorem bL_len (lk : Re → Int) : ∀ (rs : List Re) (ns : List Nd) (e : Int), (bL lk rs ns e).2.length = rs.length
 | [], ns, e => rfl
 | r :: l, ns, e => by simp only [bL, List.length_cons, bL_len lk l]
inductive InRe : Re → Prop
 | mk {k s0 s1 s2 s3 lo hi : Int} {neg : Bool} {rs : List Re} : InS ⟨s0, s1, s2, s3⟩ → (∀ p ∈ rs, InRe p) → InRe (.mk k s0 s1 s2 s3 rs lo hi neg)
theorem rep_in (r : Re) : ∀ {m : Mem} {cs : List Value}, RepRe m cs r → InRe r := by
 induction r using Re.ind with
 | h kd s0 s1 s2 s3 rs lo hi neg ih =>
   intro m cs h
   obtain ⟨A, n, c, rfl, hs, -, h0, h1, h2, h3, -⟩ := h.open
   refine .mk ⟨h0, h1, h2, h3⟩ fun p hp => ?_
   obtain ⟨i, hi, rfl⟩ := List.getElem_of_mem hp
   obtain ⟨a, cs', -, -, -, hr⟩ := hs.elem i _ (List.getElem?_eq_getElem hi)
   exact ih _ hp hr
def OkB (r : List Nd × Int) : Prop := OkA r.1 ∧ i64 r.2
theorem chain_i64 {kd : Int} : ∀ (l : List Int) (ns : List Nd) (out : Int), OkA ns → 0 ≤ kd ∧ kd ≤ 8 → (∀ z ∈ l, i64 z) → i64 out → i64 (chainN kd ns l out).2
 | [], _, _, _, _, _, h => h
 | z :: l, ns, out, hO, hk, hl, ho => chain_i64 l _ _ (okA_p hO (inN_P hk (hl z (by simp)) ho)) hk (fun y hy => hl y (by simp [hy])) (pN_i64 hO _)
theorem gput_i64 {ns : List Nd} (hO : OkA ns) (g : Bool) (l : List Int) : i64 (gputN g ns l).2 := by
 unfold gputN
 split
 ·simp [i64]
 ·rename_i ht
  have ht := there_ok ht
  have h2 := okA_wins (okA_nothing hO g) g
  have hpre := (nothing_pre g ns).trans (wins_pre g (nothingN g ns).1)
  have hw := wins_i64 (okA_nothing hO g) g
  have hno := nothing_i64 hO g
  generalize (winsN g (nothingN g ns).1).1 = ns2 at h2 hpre
  have hm := memN_ok h2 (kdG_or g) fun z hz => okId_pre hpre (ht z hz)
  have h3 := okA_gbytes h2 g (memN ns2 (kdG g) l)
  have hi := gbytes_i64 h2 g hm
  unfold restN
  split
  ·exact hw
  ·have hx : ∀ z ∈ (Lib.compact (sortI (dropI (nothingN g ns).2 (gbytesN g ns2 (memN ns2 (kdG g) l)).2))).reverse, i64 z := fun z hz => hi z (csd_mem (List.mem_reverse.1 hz))
   generalize (Lib.compact (sortI (dropI (nothingN g ns).2 (gbytesN g ns2 (memN ns2 (kdG g) l)).2))).reverse = xs at hx
   cases xs with
   | nil => exact hno
   | cons z xs => exact chain_i64 xs _ z h3 (kdG_le g) (fun y hy => hx y (by simp [hy])) (hx z (by simp))
theorem okB_or {ns : List Nd} (h : OkA ns) (g : Bool) (l : List Int) : OkB (gputN g ns l) := ⟨okA_gput h g l, gput_i64 h g l⟩
theorem okB_cat {ns : List Nd} (h : OkA ns) {x y : Int} (hx : i64 x) (hy : i64 y) : OkB (catN ns x y) := catF_i64 _ h hx hy
theorem okB_empty {ns : List Nd} (h : OkA ns) : OkB (emptyN ns) := ⟨okA_empty h, pN_i64 h _⟩
theorem okB_none {ns : List Nd} (h : OkA ns) : OkB (noneN ns) := ⟨okA_none h, pN_i64 h _⟩
theorem okB_not {ns : List Nd} (h : OkA ns) {x : Int} (hx : i64 x) : OkB (notN ns x) := by
 refine ⟨notN_ok h hx, ?_⟩
 unfold notN
 split
 ·split
  ·exact (nodeN_in h x).a
  ·exact pN_i64 h _
 ·simp [i64]
theorem okB_star {ns : List Nd} (h : OkA ns) {x : Int} (hx : i64 x) : OkB (starN ns x) := by
 refine ⟨starN_ok h hx, ?_⟩
 unfold starN
 split
 ·split
  ·exact pN_i64 h _
  split
  ·exact hx
  ·exact pN_i64 h _
 ·simp [i64]
theorem okB_cats : ∀ (l : List Int) {ns : List Nd} {out : Int}, OkA ns → (∀ z ∈ l, i64 z) → i64 out → OkB (catsN ns l out)
 | [], _, _, h, _, ho => ⟨h, ho⟩
 | z :: l, ns, out, h, hl, ho => by
   have := okB_cat h (hl z (by simp)) ho
   exact okB_cats l this.1 (fun y hy => hl y (by simp [hy])) this.2
theorem okB_opt {x : Int} (hx : i64 x) : ∀ (n : Nat) {ns : List Nd} {out : Int}, OkA ns → i64 out → OkB (optN x n ns out)
 | 0, _, _, h, ho => ⟨h, ho⟩
 | n + 1, ns, out, h, ho => by
   have h1 := okB_cat (okA_empty h) hx ho
   have h2 := okB_or h1.1 false [(emptyN ns).2, (catN (emptyN ns).1 x out).2]
   exact okB_opt hx n h2.1 h2.2
theorem okB_rep {x : Int} (hx : i64 x) : ∀ (n : Nat) {ns : List Nd} {out : Int}, OkA ns → i64 out → OkB (repN x n ns out)
 | 0, _, _, h, ho => ⟨h, ho⟩
 | n + 1, ns, out, h, ho => by
   have h1 := okB_cat h hx ho
   exact okB_rep hx n h1.1 h1.2
theorem okB_times {ns : List Nd} (h : OkA ns) (lo hi : Int) {x : Int} (hx : i64 x) : OkB (timesN lo hi ns x) := by
 unfold timesN
 have h1 := okB_empty h
 have h2 : OkB (if hi < 0 then starN (emptyN ns).1 x else emptyN ns) := by
  split
  ·exact okB_star h1.1 hx
  ·exact h1
 have h3 := okB_opt hx (hi - lo).toNat h2.1 h2.2
 exact okB_rep hx lo.toNat h3.1 h3.2
theorem okB_looked {ns : List Nd} (h : OkA ns) (e k : Int) (neg : Bool) : OkB ((lookedN ns e k neg).1.1, (lookedN ns e k neg).2) := by
 unfold lookedN
 split
 ·exact okB_none h
 ·rename_i hk
  exact ⟨okA_p h ⟨by simp [i64], by simp [u64], by simp [u64], by simp [u64], by simp [u64], by unfold i64; simp only; omega, by simp [i64]⟩, pN_i64 h _⟩
mutual
theorem okB_R (lk : Re → Int) : ∀ (r : Re), InRe r → ∀ (ns : List Nd) (e : Int), OkA ns → OkB ((bR lk r ns e).1.1, (bR lk r ns e).2)
 | .mk k s0 s1 s2 s3 rs lo hi neg, hr, ns, e, h => by
   have hs : InS ⟨s0, s1, s2, s3⟩ := by cases hr; assumption
   have hp : ∀ p ∈ rs, InRe p := by cases hr; assumption
   have hL := okB_L lk rs hp
   rw [bR]
   split
   ·exact okB_none h
   split
   ·exact okB_empty h
   split
   ·exact ⟨okA_bytes h hs, bytesN_i64 h _⟩
   split
   ·have h1 := hL (emptyN ns).1 e (okA_empty h)
    exact okB_cats _ h1.1 (fun z hz => h1.2 z (List.mem_reverse.1 hz)) (pN_i64 h _)
   split
   ·have h1 := hL ns e h
    exact okB_or h1.1 false _
   split
   ·have h1 := hL ns e h
    exact okB_or h1.1 true _
   have hh : ∀ (l : List Int), (∀ z ∈ l, i64 z) → i64 (l.headD 0) := fun l hl => by
    cases l with
    | nil => simp [i64]
    | cons z l => exact hl z (by simp)
   split
   ·have h1 := hL ns e h
    exact okB_not h1.1 (hh _ h1.2)
   split
   ·have h1 := hL ns e h
    exact okB_times h1.1 lo hi (hh _ h1.2)
   ·exact okB_looked h e _ neg
theorem okB_L (lk : Re → Int) : ∀ (l : List Re), (∀ p ∈ l, InRe p) → ∀ (ns : List Nd) (e : Int), OkA ns → OkA (bL lk l ns e).1.1 ∧ ∀ z ∈ (bL lk l ns e).2, i64 z
 | [], _, ns, e, h => ⟨h, by simp [bL]⟩
 | r :: l, hl, ns, e, h => by
   have h1 := okB_R lk r (hl r (by simp)) ns e h
   have h2 := okB_L lk l (fun p hp => hl p (by simp [hp])) (bR lk r ns e).1.1 (bR lk r ns e).1.2 h1.1
   rw [bL]
   refine ⟨h2.1, fun z hz => ?_⟩
   rcases List.mem_cons.1 hz with rfl | hz
   ·exact h1.2
   ·exact h2.2 z hz
end
end Go.Proofs.YtaooenndoopgdaaGreatDoor.ar
namespace Go.Proofs.YtaooenndoopgdaaGreatDoor.fo
open Go Go.Ev
abbrev Prt := List Int
abbrev Fml := List (List Int)
def subP (a b : Prt) : Prop := ∀ n ∈ a, n ∈ b
def Rises (p : Prt) : Prop := (∀ n ∈ p, 0 ≤ n) ∧ p.Pairwise (· < ·)
def lexB : Prt → Prt → Bool
 | a :: as1, b :: bs => if a = b then lexB as1 bs else decide (a < b)
 | _, _ => false
def lessP (a b : Prt) : Prop := a.length < b.length ∨ (a.length = b.length ∧ lexB a b = true)
theorem lex_irrefl : ∀ a, lexB a a = false
 | [] => rfl
 | a :: as1 => by rw [lexB, if_pos rfl]; exact lex_irrefl as1
theorem lex_trans : ∀ {a b c : Prt}, lexB a b = true → lexB b c = true → lexB a c = true
 | [], _, _, h, _ => by rw [lexB] at h; cases h; simp
 | _ :: _, [], _, h, _ => by rw [lexB] at h; cases h; simp
 | _ :: _, _ :: _, [], _, h => by rw [lexB] at h; cases h; simp
 | a :: as1, b :: bs, c :: cs, h1, h2 => by
   rw [lexB] at h1 h2 ⊢
   by_cases e1 : a = b
   ·subst e1
    rw [if_pos rfl] at h1
    by_cases e2 : a = c
    ·subst e2; rw [if_pos rfl] at h2 ⊢; exact lex_trans h1 h2
    ·rw [if_neg e2] at h2 ⊢; exact h2
   ·rw [if_neg e1] at h1
    have h1 := of_decide_eq_true h1
    by_cases e2 : b = c
    ·subst e2; rw [if_neg e1]; exact decide_eq_true h1
    ·rw [if_neg e2] at h2
     have h2 := of_decide_eq_true h2
     rw [if_neg (by omega)]
     exact decide_eq_true (by omega)
theorem lex_total : ∀ {a b : Prt}, a.length = b.length → lexB a b = true ∨ a = b ∨ lexB b a = true
 | [], [], _ => .inr (.inl rfl)
 | [], _ :: _, h => by simp at h
 | _ :: _, [], h => by simp at h
 | a :: as1, b :: bs, h => by
   rw [lexB, lexB]
   by_cases e : a = b
   ·subst e
    rw [if_pos rfl, if_pos rfl]
    rcases lex_total (a := as1) (b := bs) (by simpa using h) with h | h | h
    ·exact .inl h
    ·exact .inr (.inl (by rw [h]))
    ·exact .inr (.inr h)
   ·rw [if_neg e, if_neg (fun h => e h.symm)]
    rcases Int.lt_or_gt_of_ne e with h | h
    ·exact .inl (decide_eq_true h)
    ·exact .inr (.inr (decide_eq_true h))
theorem less_irrefl (a : Prt) : ¬ lessP a a := by
 rintro (h | ⟨-, h⟩)
 ·omega
 ·rw [lex_irrefl] at h; cases h
theorem less_trans {a b c : Prt} (h1 : lessP a b) (h2 : lessP b c) : lessP a c := by
 rcases h1 with h1 | ⟨h1, k1⟩ <;> rcases h2 with h2 | ⟨h2, k2⟩
 ·exact .inl (by omega)
 ·exact .inl (by omega)
 ·exact .inl (by omega)
 ·exact .inr ⟨by omega, lex_trans k1 k2⟩
theorem less_total (a b : Prt) : lessP a b ∨ a = b ∨ lessP b a := by
 rcases Nat.lt_trichotomy a.length b.length with h | h | h
 ·exact .inl (.inl h)
 ·rcases lex_total h with k | k | k
  ·exact .inl (.inr ⟨h, k⟩)
  ·exact .inr (.inl k)
  ·exact .inr (.inr (.inr ⟨h.symm, k⟩))
 ·exact .inr (.inr (.inl h))
theorem Rises.tail {a : Int} {p : Prt} (h : Rises (a :: p)) : Rises p := ⟨fun n hn => h.1 n (by simp [hn]), (List.pairwise_cons.1 h.2).2⟩
theorem sub_list : ∀ {q p : Prt}, Rises p → Rises q → subP p q → p.Sublist q
 | [], [], _, _, _ => List.Sublist.refl _
 | [], a :: p, _, _, h => by have := h a (by simp); cases this
 | b :: q, [], _, _, _ => List.nil_sublist _
 | b :: q, a :: p, hp, hq, h => by
   have hpa := (List.pairwise_cons.1 hp.2).1
   have hqb := (List.pairwise_cons.1 hq.2).1
   by_cases e : a = b
   ·subst e
    refine List.Sublist.cons_cons a (sub_list hp.tail hq.tail fun n hn => ?_)
    rcases List.mem_cons.1 (h n (by simp [hn])) with e | e
    ·have := hpa n hn; omega
    ·exact e
   ·have hab : a ∈ q := by rcases List.mem_cons.1 (h a (by simp)) with k | k; exact absurd k e; exact k
    have hba := hqb a hab
    refine List.Sublist.cons b (sub_list hp hq.tail fun n hn => ?_)
    rcases List.mem_cons.1 (h n hn) with k | k
    ·rcases List.mem_cons.1 hn with k2 | k2
     ·omega
     ·have := hpa n k2; omega
    ·exact k
theorem list_sub {p q : Prt} (h : p.Sublist q) : subP p q := fun n hn => h.subset hn
theorem within_iff {p q : Prt} (hp : Rises p) (hq : Rises q) : p.isSublist q = true ↔ subP p q := by
 rw [List.isSublist_iff_sublist]
 exact ⟨list_sub, sub_list hp hq⟩
structure FormedP (f : Fml) : Prop where
 rises : ∀ p ∈ f, Rises p
 less : f.Pairwise lessP
 apart : f.Pairwise fun a b => ¬ subP a b
theorem FormedP.nil : FormedP [] := ⟨fun _ h => by (cases h), .nil, .nil⟩
theorem FormedP.sub {f g : Fml} (h : FormedP f) (hs : g.Sublist f) : FormedP g := ⟨fun p hp => h.rises p (hs.subset hp), h.less.sublist hs, h.apart.sublist hs⟩
theorem FormedP.snoc {g : Fml} {p : Prt} (h : FormedP g) (hp : Rises p) (hl : ∀ q, g.getLast? = some q → lessP q p) (ha : ∀ q ∈ g, ¬ subP q p) : FormedP (g ++ [p]) := by
 refine ⟨fun q hq => ?_, List.pairwise_append.2 ⟨h.less, List.pairwise_singleton _ _, fun a ha b hb => ?_⟩, List.pairwise_append.2 ⟨h.apart, List.pairwise_singleton _ _, fun a ha' b hb => by rw [List.mem_singleton.1 hb]; exact ha a ha'⟩⟩
 ·rcases List.mem_append.1 hq with hq | hq
  ·exact h.rises q hq
  ·rw [List.mem_singleton.1 hq]; exact hp
 ·rw [List.mem_singleton.1 hb]
  cases hg : g.getLast? with
  | none => rw [List.getLast?_eq_none_iff] at hg; subst hg; cases ha
  | some q =>
    have hq := hl q hg
    obtain ⟨g', rfl⟩ := List.getLast?_eq_some_iff.1 hg
    rcases List.mem_append.1 ha with ha | ha
    ·exact less_trans ((List.pairwise_append.1 h.less).2.2 a ha q (by simp)) hq
    ·rw [List.mem_singleton.1 ha]; exact hq
theorem FormedP.one {f : Fml} (h : FormedP f) {p q : Prt} (hp : p ∈ f) (hq : q ∈ f) (hs : subP q p) : q = p := by
 obtain ⟨i, hi, rfl⟩ := List.getElem_of_mem hp
 obtain ⟨k, hk, rfl⟩ := List.getElem_of_mem hq
 rcases Nat.lt_trichotomy k i with h1 | h1 | h1
 ·exact absurd hs (List.pairwise_iff_getElem.1 h.apart k i hk hi h1)
 ·subst h1; rfl
 ·have hl := List.pairwise_iff_getElem.1 h.less i k hi hk h1
  have hsl := sub_list (h.rises _ hq) (h.rises _ hp) hs
  have hlen := hsl.length_le
  refine hsl.eq_of_length ?_
  rcases hl with hl | hl
  ·omega
  ·omega
def holdsP (f : Fml) (S : Prt) : Prop := ∃ p ∈ f, subP p S
def addM (out : Fml) (p : Prt) : Fml := if (out.any fun q => q.isSublist p) = true then out else out ++ [p]
def mini (l : Fml) : Fml := l.foldl addM []
theorem mini_snoc (l : Fml) (p : Prt) : mini (l ++ [p]) = addM (mini l) p := by unfold mini; rw [List.foldl_append]; rfl
structure Canon (l r : Fml) : Prop where
 formed : FormedP r
 mem : ∀ q ∈ r, q ∈ l
 holds : ∀ S, holdsP r S ↔ holdsP l S
theorem mini_take {l : Fml} (hr : ∀ p ∈ l, Rises p) (hs : l.Pairwise fun a b => ¬ lessP b a) : ∀ n, n ≤ l.length → FormedP (mini (l.take n)) ∧ (∀ q ∈ mini (l.take n), q ∈ l.take n) ∧ ∀ p ∈ l.take n, ∃ q ∈ mini (l.take n), subP q p
 | 0, _ => ⟨by rw [List.take_zero]; exact FormedP.nil, by simp [mini], by simp⟩
 | n + 1, hn => by
   obtain ⟨h1, h2, h3⟩ := mini_take hr hs n (by omega)
   have htk : l.take (n + 1) = l.take n ++ [l[n]] := by rw [List.take_add_one, List.getElem?_eq_getElem (by omega)]; rfl
   have hp : Rises l[n] := hr _ (List.getElem_mem _)
   have hord : ∀ q ∈ l.take n, ¬ lessP l[n] q := fun q hq => by
    obtain ⟨i, hi, rfl⟩ := List.getElem_of_mem hq
    rw [List.length_take] at hi
    rw [List.getElem_take]
    exact List.pairwise_iff_getElem.1 hs i n (by omega) (by omega) (by omega)
   rw [htk, mini_snoc]
   generalize l[n] = p at *
   unfold addM
   by_cases ha : ((mini (l.take n)).any fun q => q.isSublist p) = true
   ·rw [if_pos ha]
    obtain ⟨q, hq, hqp⟩ := List.any_eq_true.1 ha
    refine ⟨h1, fun q hq => List.mem_append_left _ (h2 q hq), fun x hx => ?_⟩
    rcases List.mem_append.1 hx with hx | hx
    ·exact h3 x hx
    ·rw [List.mem_singleton.1 hx]; exact ⟨q, hq, list_sub (List.isSublist_iff_sublist.1 hqp)⟩
   ·rw [if_neg ha]
    have hno : ∀ q ∈ mini (l.take n), ¬ subP q p := fun q hq hs2 => ha (List.any_eq_true.2 ⟨q, hq, (within_iff (h1.rises q hq) hp).2 hs2⟩)
    refine ⟨h1.snoc hp (fun q hq => ?_) hno, fun q hq => ?_, fun x hx => ?_⟩
    ·have hqm := List.mem_of_getLast? hq
     rcases less_total q p with h | h | h
     ·exact h
     ·subst h; exact absurd (fun _ h => h) (hno q hqm)
     ·exact absurd h (hord q (h2 q hqm))
    ·rcases List.mem_append.1 hq with hq | hq
     ·exact List.mem_append_left _ (h2 q hq)
     ·exact List.mem_append_right _ hq
    ·rcases List.mem_append.1 hx with hx | hx
     ·obtain ⟨q, hq, hs2⟩ := h3 x hx; exact ⟨q, List.mem_append_left _ hq, hs2⟩
     ·rw [List.mem_singleton.1 hx]; exact ⟨p, by simp, fun _ h => h⟩
theorem mini_canon {l : Fml} (hr : ∀ p ∈ l, Rises p) (hs : l.Pairwise fun a b => ¬ lessP b a) : Canon l (mini l) := by
 obtain ⟨h1, h2, h3⟩ := mini_take hr hs l.length (Nat.le_refl _)
 rw [List.take_length] at h1 h2 h3
 refine ⟨h1, h2, fun S => ⟨fun ⟨p, hp, hS⟩ => ⟨p, h2 p hp, hS⟩, fun ⟨p, hp, hS⟩ => ?_⟩⟩
 obtain ⟨q, hq, hqp⟩ := h3 p hp
 exact ⟨q, hq, fun n hn => hS n (hqp n hn)⟩
theorem Canon.perm {l l' r : Fml} (h : Canon l r) (hp : l.Perm l') : Canon l' r :=
 ⟨h.formed, fun q hq => hp.mem_iff.1 (h.mem q hq), fun S => (h.holds S).trans ⟨fun ⟨p, hm, hs⟩ => ⟨p, hp.mem_iff.1 hm, hs⟩, fun ⟨p, hm, hs⟩ => ⟨p, hp.mem_iff.2 hm, hs⟩⟩⟩
theorem nodup_le : ∀ (n : Nat) (l : List Nat), l.Nodup → (∀ x ∈ l, x < n) → l.length ≤ n
 | 0, l, _, h => by cases l with | nil => simp | cons a l => exact absurd (h a (by simp)) (by omega)
 | n + 1, l, hn, h => by
   have h1 := nodup_le n (l.erase n) (hn.erase n) fun x hx => by
    have := h x (List.mem_of_mem_erase hx)
    have hne : x ≠ n := fun e => by subst e; exact hn.not_mem_erase hx
    omega
   have := List.length_erase (a := n) (l := l)
   split at this <;> omega
end Go.Proofs.YtaooenndoopgdaaGreatDoor.fo
namespace Go.Ev
open Go
section
variable {P : Program} {X : Tab} {N : Nat}
structure RetW (Q : Value → World → Prop) (v : Value) (w : World) : Prop where
 of ::
 out : Q v w
theorem enterW (hX : TabsOk P X) {f : Nat} {fn : Func} {c : Code} {args : List Value} {w : World} {Q : Value → World → Prop}
  (hf : P.funcs[f]? = some fn) (hb : fn.body = some c) (hN : fn.ntmps = N) (hl : args.length ≤ N)
  (h : ev P X N c (fun e w' => evRes P N e w' fn.results.toList fun vs => RetW Q (resV vs) w') (fun _ _ _ => False)
   (fun e w' => evRes P N e w' fn.results.toList fun vs => RetW Q (resV vs) w') (envOf args) w) :
  Calls P f (toArr args) w fun e w' => ∃ v, e = .returned v ∧ Q v w' := by
 have ha : Agree N (envOf args) { tmps := toArr args ++ Array.replicate (fn.ntmps - (toArr args).size) undef, defers := [] } := by
  have hs : (toArr args).size = args.length := by simp [toArr]
  refine ⟨by simp [hs, hN]; omega, fun i hi => ?_, rfl⟩
  simp only [envOf, look_eq]
  rw [Array.getElem?_append]
  by_cases hlt : i < args.length
  ·rw [if_pos (by omega)]
   simp [toArr, hlt]
  ·rw [if_neg (by omega), Array.getElem?_replicate, if_pos (by omega)]
   simp [List.getElem?_eq_none (Nat.le_of_not_lt hlt)]
 refine calls_of_wp hf hb (wp_mono (ev_ok hX c _ _ _ _ _ w ha h) fun ex a w' hq => ?_)
 have fin : ∀ e, Agree N e a → (evRes P N e w' fn.results.toList fun vs => RetW Q (resV vs) w') →
   a.defers = [] ∧ ∃ v, (results fn a.tmps).run P w' = .ok v w' ∧ ∃ u, Ending.returned v = .returned u ∧ Q u w' := by
  intro e ha h
  obtain ⟨vs, h1, h2⟩ := run_results ha _ _ h
  replace h2 := h2.out
  refine ⟨ha.defers, resV vs, ?_, resV vs, rfl, h2⟩
  have hm : (fn.results.mapM (resOne a.tmps)).run P w' = .ok vs.toArray w' := by
   rw [← Array.toArray_toList (xs := fn.results), List.mapM_toArray]
   simp only [Sem.run_map, h1, Result.andThen_ok]
  show (do let vs ← fn.results.mapM (resOne a.tmps); pure (if h : vs.size = 1 then vs[0] else .tuple vs) : Sem Value).run P w' = _
  simp only [Sem.run_bind, hm, Result.andThen_ok, Sem.run_pure]
  match vs with
  | [] => rfl
  | [v] => rfl
  | v :: u :: l => simp [resV, toArr]
 cases ex with
 | normal => obtain ⟨e, ha, h⟩ := hq; exact fin e ha h
 | ret => obtain ⟨e, ha, h⟩ := hq; exact fin e ha h
 | exit id => obtain ⟨e, ha, h⟩ := hq; exact h.elim
 | goto l => exact hq.elim
 | panic ch => exact hq.elim
 | outgrown => exact hq.elim
def TellsW (P : Program) (f : Nat) (args : List Value) (w : World) (v : Value) (w' : World) : Prop := Calls P f (toArr args) w fun e w1 => e = .returned v ∧ w1 = w'
theorem CallReq.tells {f : Nat} {args : List Value} {w w' : World} {v : Value} {K : Value → World → Prop} (h : TellsW P f args w v w') (k : K v w') : CallReq P f (toArr args) w K := by
 constructor
 refine h.mono fun e w1 ⟨he, hw⟩ => ?_
 subst he hw
 exact k
theorem LdReq.at_ (hX : TabsOk P X) {w : World} {t : Nat} {ti : TI} (ht : look X.T t = some (some ti)) (hd : ti.d.isAgg = false) {a : Addr} {v : Value} {K : Value → Prop} (hv : w.cell? a = some v) (h : K v) : LdReq P t w a K :=
 ⟨v, run_loadVar_one (hX.t _ _ ht) hd hv, h⟩
theorem NewReq.at_ {w : World} {o : Obj} {K : Nat → World → Prop} (h : K w.heap.size (w.alloc o)) : NewReq w o K := ⟨h⟩
end
end Go.Ev
namespace Go.Proofs.YtaooenndoopgdaaGreatDoor.fo
open Go Go.Ev Go.Proofs
theorem isNaN_w (z : Int) (w : World) : TellsW Tryz.prog 224 [.int .i64 z] w (.bool false) w := by
 refine Calls.mono (enterW (N := 6) hX Tryz.func224 rfl rfl (by show _ ≤ _; simp) (Q := fun v w1 => v = .bool false ∧ w1 = w) ?_) (fun e w1 ⟨v, h1, h2, h3⟩ => ⟨by rw [h1, h2], h3⟩)
 conv => whnf
 refine go ?_;try(clear hL;intro w hL)
 refine ⟨⟨?_, rfl⟩⟩
 show Value.bool (decide (z ≠ z)) = _
 simp
def cmpI (a b : Int) : Int := if a < b then -1 else if b < a then 1 else 0
theorem compare_w (a b : Int) (w : World) : TellsW Tryz.prog 187 [.int .i64 a, .int .i64 b] w (.int .i64 (cmpI a b)) w := by
 unfold cmpI
 refine Calls.mono (enterW (N := 20) hX Tryz.func187 rfl rfl (by show _ ≤ _; simp) (Q := fun v w1 => v = .int .i64 (if a < b then -1 else if b < a then 1 else 0) ∧ w1 = w) ?_) (fun e w1 ⟨v, h1, h2, h3⟩ => ⟨by rw [h1, h2], h3⟩)
 conv => whnf
 refine go ?_;try(clear hL;intro w hL)
 refine CallReq.tells (isNaN_w a w) ?_
 refine go ?_;try(clear hL;intro w hL)
 refine CallReq.tells (isNaN_w b w) ?_
 by_cases h1 : a < b
 ·rw [if_pos h1]
  conv => whnf
  repeat ((first | refine BrReq.yes h1 ?_ | (refine go1 ?_;try(clear hL;intro w hL))); conv => whnf)
  exact ⟨⟨rfl, rfl⟩⟩
 ·rw [if_neg h1]
  by_cases h2 : b < a
  ·rw [if_pos h2]
   conv => whnf
   repeat ((first | refine BrReq.no h1 ?_ | refine BrReq.yes h2 ?_ | (refine go1 ?_;try(clear hL;intro w hL))); conv => whnf)
   exact ⟨⟨rfl, rfl⟩⟩
  ·rw [if_neg h2]
   conv => whnf
   repeat ((first | refine BrReq.no h1 ?_ | refine BrReq.no h2 ?_ | (refine go1 ?_;try(clear hL;intro w hL))); conv => whnf)
   exact ⟨⟨rfl, rfl⟩⟩
def cmpL : Prt → Prt → Int
 | [], [] => 0
 | [], _ :: _ => -1
 | _ :: _, [] => 1
 | a :: r, b :: q => if cmpI a b ≠ 0 then cmpI a b else cmpL r q
theorem cmpL_w (m : Mem) (w : World) (hp : Pre m [] w) (v1 v2 : Value) (l1 l2 : Prt) (h1 : SlI m .i64 v1 l1) (h2 : SlI m .i64 v2 l2) : TellsW Tryz.prog 188 [v1, v2] w (.int .i64 (cmpL l1 l2)) w := by
 have hmx : maxLen = 9223372036854775807 := rfl
 have hL := hp.loc
 obtain ⟨A1, n1, c1, rfl, hn1, hc1, hm1, -⟩ := id h1
 obtain ⟨A2, n2, c2, rfl, hn2, hc2, hm2, -⟩ := id h2
 have k1 := h1.cell.2
 have k2 := h2.cell.2
 subst hn1 hn2
 refine Calls.mono (enterW (N := 36) hX Tryz.func188 rfl rfl (by show _ ≤ _; simp) (Q := fun v w1 => v = .int .i64 (cmpL l1 l2) ∧ w1 = w) ?_) (fun e w1 ⟨v, h1, h2, h3⟩ => ⟨by rw [h1, h2], h3⟩)
 conv => whnf
 refine go ?_;try(clear hL;intro w hL)
 refine LoopReq.inv hX (fun j : Nat => [(11, .int .i64 j)]) [0, 1, 9, 10]
  (fun j w1 => (j ≤ l1.length ∧ j ≤ l2.length ∧ cmpL (l1.drop j) (l2.drop j) = cmpL l1 l2) ∧ w1 = w) (fun j => l1.length - j) 0
  ⟨⟨Nat.zero_le _, Nat.zero_le _, rfl⟩, rfl⟩ ⟨rfl, trivial⟩ ?_
 rintro j w1 f ⟨⟨hj1, hj2, hj⟩, rfl⟩
 refine go ?_;try(clear hL;intro w hL)
 refine BrReq.dec (fun hlt => ?_) (fun hlt => ?_)
 ·have hj1' : j < l1.length := by omega
  obtain ⟨a, rfl, ha⟩ := k1 j _ (List.getElem?_eq_getElem hj1')
  have ha' : w1.cell? (a.add (scale j 1)) = some (.int .i64 l1[j]) := by rw [scale_eq, Nat.mul_one]; exact hL.cell ha
  rw [List.drop_eq_getElem_cons hj1'] at hj
  conv => whnf
  repeat ((first | refine Idx2Req.mk j a rfl (by omega) rfl ?_ | refine LdReq.at_ hX rfl rfl ha' ?_ | (refine go1 ?_;try(clear hL;intro w hL))); conv => whnf)
  by_cases hge : l2.length ≤ j
  ·rw [List.drop_eq_nil_of_le hge, cmpL] at hj
   rw [← hj]
   conv => whnf
   repeat ((first | refine BrReq.yes (by omega) ?_ | (refine go1 ?_;try(clear hL;intro w hL))); conv => whnf)
   exact ⟨⟨rfl, rfl⟩⟩
  have hj2' : j < l2.length := by omega
  obtain ⟨b, rfl, hb⟩ := k2 j _ (List.getElem?_eq_getElem hj2')
  have hb' : w1.cell? (b.add (scale j 1)) = some (.int .i64 l2[j]) := by rw [scale_eq, Nat.mul_one]; exact hL.cell hb
  rw [List.drop_eq_getElem_cons hj2', cmpL] at hj
  conv => whnf
  repeat ((first | refine BrReq.no (by omega) ?_ | refine Idx2Req.mk j b rfl (by omega) rfl ?_ | refine LdReq.at_ hX rfl rfl hb' ?_ | (refine go1 ?_;try(clear hL;intro w hL))); conv => whnf)
  refine CallReq.tells (compare_w l1[j] l2[j] w1) ?_
  by_cases hz : cmpI l1[j] l2[j] = 0
  ·rw [if_neg (fun h => h hz)] at hj
   conv => whnf
   repeat ((first | refine BrReq.no (fun h => h hz) ?_ | (refine go1 ?_;try(clear hL;intro w hL))); conv => whnf)
   exact rnd (j + 1) ⟨⟨by omega, by omega, hj⟩, rfl⟩
  ·rw [if_pos hz] at hj
   rw [← hj]
   conv => whnf
   repeat ((first | refine BrReq.yes (fun h => hz h) ?_ | (refine go1 ?_;try(clear hL;intro w hL))); conv => whnf)
   exact ⟨⟨rfl, rfl⟩⟩
 ·have ej : j = l1.length := by omega
  subst ej
  rw [List.drop_length] at hj
  by_cases hlt2 : l1.length < l2.length
  ·rw [List.drop_eq_getElem_cons hlt2, cmpL] at hj
   rw [← hj]
   conv => whnf
   repeat ((first | refine BrReq.yes (by omega) ?_ | (refine go1 ?_;try(clear hL;intro w hL))); conv => whnf)
   exact ⟨⟨rfl, rfl⟩⟩
  ·rw [List.drop_eq_nil_of_le (by omega), cmpL] at hj
   rw [← hj]
   conv => whnf
   repeat ((first | refine BrReq.no (by omega) ?_ | (refine go1 ?_;try(clear hL;intro w hL))); conv => whnf)
   exact ⟨⟨rfl, rfl⟩⟩
theorem or_w (g : Nat) (x y : Int) (w : World) (h0 : w.cell? ⟨g, 0, none⟩ = some (.int .i64 x)) (h1 : w.cell? ⟨g, 1, none⟩ = some (.int .i64 y)) : TellsW Tryz.prog 186 [.slice (some ⟨g, 0, none⟩) 2 2] w (.int .i64 (if x ≠ 0 then x else y)) w := by
 refine Calls.mono (enterW (N := 18) hX Tryz.func186 rfl rfl (by show _ ≤ _; simp) (Q := fun v w1 => v = .int .i64 (if x ≠ 0 then x else y) ∧ w1 = w) ?_) (fun e w1 ⟨v, h1, h2, h3⟩ => ⟨by rw [h1, h2], h3⟩)
 conv => whnf
 refine go ?_;try(clear hL;intro w hL)
 refine LoopReq.inv hX (fun j : Nat => [(8, .int .i64 j)]) [3, 6, 7]
  (fun j w1 => (j ≤ 2 ∧ (1 ≤ j → x = 0) ∧ (2 ≤ j → y = 0)) ∧ w1 = w) (fun j => 2 - j) 0
  ⟨⟨Nat.zero_le _, fun h => by omega, fun h => by omega⟩, rfl⟩ ⟨rfl, trivial⟩ ?_
 rintro j w1 f ⟨⟨hj, hx, hy⟩, rfl⟩
 refine go ?_;try(clear hL;intro w hL)
 refine BrReq.dec (fun hlt => ?_) (fun hlt => ?_)
 ·obtain rfl | rfl : j = 0 ∨ j = 1 := by omega
  ·have h0' : w1.cell? ((⟨g, 0, none⟩ : Addr).add (scale 0 1)) = some (.int .i64 x) := h0
   conv => whnf
   repeat ((first | refine Idx2Req.mk 0 _ rfl (by omega) rfl ?_ | refine LdReq.at_ hX rfl rfl h0' ?_ | (refine go1 ?_;try(clear hL;intro w hL))); conv => whnf)
   by_cases hz : x = 0
   ·conv => whnf
    repeat ((first | refine BrReq.no (fun h => h hz) ?_ | (refine go1 ?_;try(clear hL;intro w hL))); conv => whnf)
    exact rnd 1 ⟨⟨by omega, fun _ => hz, fun h => by omega⟩, rfl⟩
   ·rw [if_pos hz]
    conv => whnf
    repeat ((first | refine BrReq.yes (fun h => hz h) ?_ | (refine go1 ?_;try(clear hL;intro w hL))); conv => whnf)
    exact ⟨⟨rfl, rfl⟩⟩
  ·have h1' : w1.cell? ((⟨g, 0, none⟩ : Addr).add (scale 1 1)) = some (.int .i64 y) := h1
   rw [if_neg (fun h => h (hx (Nat.le_refl _)))]
   conv => whnf
   repeat ((first | refine Idx2Req.mk 1 _ rfl (by omega) rfl ?_ | refine LdReq.at_ hX rfl rfl h1' ?_ | (refine go1 ?_;try(clear hL;intro w hL))); conv => whnf)
   by_cases hz : y = 0
   ·conv => whnf
    repeat ((first | refine BrReq.no (fun h => h hz) ?_ | (refine go1 ?_;try(clear hL;intro w hL))); conv => whnf)
    exact rnd 2 ⟨⟨by omega, fun _ => hx (Nat.le_refl _), fun _ => hz⟩, rfl⟩
   ·conv => whnf
    repeat ((first | refine BrReq.yes (fun h => hz h) ?_ | (refine go1 ?_;try(clear hL;intro w hL))); conv => whnf)
    exact ⟨⟨rfl, rfl⟩⟩
 ·have ej : j = 2 := by omega
  subst ej
  rw [if_neg (fun h => h (hx (by omega))), hy (by omega)]
  refine go ?_;try(clear hL;intro w hL)
  exact ⟨⟨rfl, rfl⟩⟩
def ordI (a b : Prt) : Int := if cmpI a.length b.length ≠ 0 then cmpI a.length b.length else cmpL a b
def ordW (a b : Prt) (w : World) : World := w.alloc (.cells (toArr [.int .i64 (cmpI a.length b.length), .int .i64 (cmpL a b)]) 3 (0, 0))
theorem order_w (m : Mem) (w : World) (hp : Pre m [] w) (v1 v2 : Value) (l1 l2 : Prt) (h1 : SlI m .i64 v1 l1) (h2 : SlI m .i64 v2 l2) : TellsW Tryz.prog 158 [v1, v2] w (.int .i64 (ordI l1 l2)) (ordW l1 l2 w) := by
 have hmx : maxLen = 9223372036854775807 := rfl
 have hc := cmpL_w m w hp v1 v2 l1 l2 h1 h2
 obtain ⟨A1, n1, c1, rfl, hn1, hc1, hm1, -⟩ := id h1
 obtain ⟨A2, n2, c2, rfl, hn2, hc2, hm2, -⟩ := id h2
 subst hn1 hn2
 unfold ordI ordW
 generalize hx : cmpI l1.length l2.length = x
 refine Calls.mono (enterW (N := 15) hX Tryz.func158 rfl rfl (by show _ ≤ _; simp) (Q := fun v w1 => v = .int .i64 (if x ≠ 0 then x else cmpL l1 l2) ∧ w1 = w.alloc (.cells (toArr [.int .i64 x, .int .i64 (cmpL l1 l2)]) 3 (0, 0))) ?_) (fun e w1 ⟨v, h1, h2, h3⟩ => ⟨by rw [h1, h2], h3⟩)
 conv => whnf
 have hcw := compare_w l1.length l2.length w
 rw [hx] at hcw
 refine go ?_;try(clear hL;intro w hL)
 refine CallReq.tells hcw ?_
 refine go ?_;try(clear hL;intro w hL)
 refine CallReq.tells hc ?_
 refine go ?_;try(clear hL;intro w hL)
 refine NewReq.at_ ?_
 refine go ?_;try(clear hL;intro w hL)
 refine CallReq.tells (or_w w.heap.size x (cmpL l1 l2) _ ?_ ?_) ?_
 ·rw [cell_of_heap (heap_alloc_new w _)]; rfl
 ·rw [cell_of_heap (heap_alloc_new w _)]; rfl
 refine go ?_;try(clear hL;intro w hL)
 exact ⟨⟨rfl, rfl⟩⟩
theorem order_fn (m : Mem) (v1 v2 : Value) (l1 l2 : Prt) (h1 : SlI m .i64 v1 l1) (h2 : SlI m .i64 v2 l2) : FnV Tryz.prog 158 [v1, v2] m (.int .i64 (ordI l1 l2)) := by
 intro w hw
 refine (order_w m w hw v1 v2 l1 l2 h1 h2).mono fun e w' ⟨he, hw'⟩ => ⟨_, m, [], he, ?_, rfl, rfl⟩
 subst hw'
 exact (hw.loc.alloc _).drop
theorem cmpI_neg {a b : Int} : cmpI a b < 0 ↔ a < b := by
 unfold cmpI
 by_cases h : a < b
 ·rw [if_pos h]; omega
 ·rw [if_neg h]; split <;> omega
theorem cmpI_zero {a b : Int} : cmpI a b = 0 ↔ a = b := by
 unfold cmpI
 by_cases h : a < b
 ·rw [if_pos h]; omega
 ·rw [if_neg h]; split <;> omega
theorem cmpL_neg : ∀ {a b : Prt}, a.length = b.length → (cmpL a b < 0 ↔ lexB a b = true)
 | [], [], _ => by simp [cmpL, lexB]
 | [], _ :: _, h => by simp at h
 | _ :: _, [], h => by simp at h
 | a :: r, b :: q, h => by
   rw [cmpL, lexB]
   by_cases e : a = b
   ·rw [if_neg (fun hn => hn (cmpI_zero.2 e)), if_pos e]; exact cmpL_neg (by simpa using h)
   ·rw [if_pos (fun hn => e (cmpI_zero.1 hn)), if_neg e, cmpI_neg, decide_eq_true_iff]
theorem ord_neg {a b : Prt} : ordI a b < 0 ↔ lessP a b := by
 unfold ordI lessP
 by_cases e : a.length = b.length
 ·rw [if_neg (fun hn => hn (cmpI_zero.2 (by omega))), cmpL_neg e]
  exact ⟨fun h => .inr ⟨e, h⟩, fun h => h.elim (fun h => by omega) fun h => h.2⟩
 ·rw [if_pos (fun hn => e (by have := cmpI_zero.1 hn; omega)), cmpI_neg]
  exact ⟨fun h => .inl (by omega), fun h => h.elim (fun h => by omega) fun h => absurd h.1 e⟩
end Go.Proofs.YtaooenndoopgdaaGreatDoor.fo
