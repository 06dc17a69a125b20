/- LazyNil, proved: a nil machine has nothing. Conditions: none beyond the row its own.: part 11 of 12 of the proof. Conditions: none. -/
import Derived.Test.YtaooenndoopgdaaGreatDoorM10
import Derived.Test.YtaooenndoopgdaaGreatDoorM9
import Derived.Test.YtaooenndoopgdaaGreatDoorM3
import Derived.Test.YtaooenndoopgdaaGreatDoorM1
import Derived.Test.YtaooenndoopgdaaGreatDoorCards
import Derived.Test.YtaooenndoopgdaaGreatDoorTie
import Derived.LaidMore
import Derived.Stop.LaidErr
import Derived.Lib.LaidTab
import Derived.SevenTiedAt
namespace Go.Proofs.YtaooenndoopgdaaGreatDoor.lz
open Go Go.Ev Go.Proofs Go.Proofs.YtaooenndoopgdaaGreatDoor.ar Go.Proofs.YtaooenndoopgdaaGreatDoor.tree Go.Proofs.YtaooenndoopgdaaGreatDoor.looks
structure St where
  kb : Nat
  rb : Nat
  mb : Nat
  ab : Nat
  room : Int
  dn : Int
  mu : Int
  se : Int
  made : Int
  asked : Int
  av : Value
  bv : Value
  lv : Value
  us : List Value
  l : List (List fo.Fml)
  bg : List Int
  ns : List Nd
  rows : List (Int × Nat × List Int)
  Lm : Ev.Own
  Lb : Ev.Own
  La : Ev.Own
  Ll : Ev.Own
def ints (l : List Int) : List Value := l.map fun z => .int .i64 z
def rwW (r : List (Int × Nat × List Int)) : List (Value × Value) := r.map fun x => (.int .i64 x.1, .slice (some ⟨x.2.1, 0, none⟩) x.2.2.length x.2.2.length)
def rwB (r : List (Int × Nat × List Int)) : Ev.Own := r.map fun x => (x.2.1, .cells (toArr (ints x.2.2)) 3 (0, 0))
def St.ob (x : St) : Obj := lzO (.pointer (some ⟨x.mb, 0, none⟩)) x.room x.kb x.av x.bv x.rb x.dn x.mu x.se x.lv x.made x.asked
def St.own (lb : Nat) (x : St) : Ev.Own := (lb, x.ob) :: (x.kb, mapW (knW x.l 0)) :: (x.Lm ++ ((x.rb, mapW (rwW x.rows)) :: (x.Lb ++ (x.La ++ (rwB x.rows ++ x.Ll)))))
structure Inv (m : Mem) (s : Sp) (ls : List Re) (fs : List fo.Fml) (of : List Nat) (N : Nat) (x : St) : Prop where
  mkr : Mkr m x.mb x.ab s ls fs of N
  fb : ∀ f ∈ fs, fo.FB x.ns.length f
  ok : OkA x.ns
  ar : Ar x.ab x.ns x.La
  ho : OwnS 84 1 x.av x.us x.Lm
  all : AllM m fs.length x.ns.length x.us x.l
  hb : OwnS 3 1 x.bv (ints x.bg) x.Lb
  n : x.l.length ≤ 2000
  bgs : ∀ b ∈ x.bg, 0 ≤ b ∧ b < x.l.length
theorem Mkr.le {m m' : Mem} (h : Mem.Le m m') {mb ab : Nat} {s : Sp} {ls : List Re} {fs : List fo.Fml} {of : List Nat} {N : Nat} (k : Mkr m mb ab s ls fs of N) : Mkr m' mb ab s ls fs of N := by
  obtain ⟨⟨A, n, c, A2, n2, c2, A3, n3, c3, A4, n4, c4, h1, h2, h3, h4⟩, h5, h6, h7⟩ := k
  exact ⟨⟨A, n, c, A2, n2, c2, A3, n3, c3, A4, n4, c4, h1.le h, h2.le h fun _ _ _ k => k.le h, h3.le h, h4.le h⟩, h5, h6, h7⟩
theorem fb_perm {α : Type} (a b c : α) (Lm Lb R : List α) : (a :: b :: (Lm ++ (c :: (Lb ++ R)))).Perm (Lb ++ (a :: b :: (Lm ++ (c :: R)))) := by
  have := List.perm_append_comm_assoc (a :: b :: (Lm ++ [c])) Lb R
  simpa using this
theorem handleX_fn (m : Mem) (hQ : fk.TabMem m) (lb kb rb : Nat) (mp : Value) (hmp : mp.oneCell' = true) (room dn mu se made asked : Int) (av bv lv : Value) (hbv : bv.oneCell' = true) (hlv : lv.oneCell' = true) (us : List Value) (l : List (List fo.Fml)) (R N : Nat) (hR : R ≤ 40) (hN : N ≤ 20000) (Lm : Ev.Own) (ho : OwnS 84 1 av us Lm) (hA : AllM m R N us l)
    (h2000 : l.length ≤ 2000) (v : Value) (fs : List fo.Fml) (hv : MnV m v fs) (hfR : fs.length = R) (hF : ∀ f ∈ fs, fo.FB N f) :
    Ev.Fn Tryz.prog 22 [.pointer (some ⟨lb, 0, none⟩), v] m ((lb, lzO mp room kb av bv rb dn mu se lv made asked) :: (kb, mapW (knW l 0)) :: Lm) fun m' L' u => m' = m ∧
      ((u = .tuple (toArr [.int .i64 0, .int .i64 11]) ∧ 2000 ≤ l.length ∧ L' = (lb, lzO mp room kb av bv rb dn mu se lv made asked) :: (kb, mapW (knW l 0)) :: Lm) ∨
       ∃ (z : Nat) (av2 : Value) (us2 : List Value) (l2 : List (List fo.Fml)) (Lm2 : Ev.Own) (gs : List fo.Fml), u = .tuple (toArr [.int .i64 z, .int .i64 0]) ∧ L' = (lb, lzO mp room kb av2 bv rb dn mu se lv made asked) :: (kb, mapW (knW l2 0)) :: Lm2 ∧ OwnS 84 1 av2 us2 Lm2 ∧ AllM m R N us2 l2 ∧ l2.length ≤ 2000 ∧ l2[z]? = some gs ∧ mkeyB gs = mkeyB fs ∧ ((l2 = l ∧ z < l.length) ∨ (l2 = l ++ [fs] ∧ z = l.length))) := by
  refine (handle_fn m hQ lb kb rb mp hmp room dn mu se made asked av bv lv hbv hlv us l R N hR hN Lm ho hA h2000 v fs hv hfR hF).mono ?_
  rintro m' L' u - ⟨rfl, ⟨i, gs, rfl, h1, h2, rfl⟩ | ⟨rfl, h1, rfl⟩ | ⟨av2, Lm2, rfl, h1, rfl, h2⟩⟩
  · exact ⟨rfl, .inr ⟨i, av, us, l, Lm, gs, rfl, rfl, ho, hA, h2000, h1, h2, .inl ⟨rfl, (List.getElem?_eq_some_iff.1 h1).1⟩⟩⟩
  · exact ⟨rfl, .inl ⟨rfl, h1, rfl⟩⟩
  · exact ⟨rfl, .inr ⟨l.length, av2, us ++ [v], l ++ [fs], Lm2, fs, rfl, rfl, h2, hA.app hv hfR hF, by rw [List.length_append]; simp; omega, by simp, rfl, .inr ⟨rfl, rfl⟩⟩⟩
def st0 (kb rb mb ab : Nat) (room : Int) (ns : List Nd) (La : Ev.Own) (av bv : Value) (us : List Value) (l : List (List fo.Fml)) (bg : List Int) (Lm Lb : Ev.Own) : St := ⟨kb, rb, mb, ab, room, 0, 0, 0, 0, 0, av, bv, .slice none 0 0, us, l, bg, ns, [], Lm, Lb, La, []⟩
theorem begL_one {s : Sp} (h : OneS s) : begL s [[[0]]] ((0 : Nat) : Int) = [[[0]]] := by
  obtain ⟨-, h1, h2⟩ := h
  match hr : s.rules, h1 with
  | [x], _ =>
    have h3 := h2 x (by rw [hr]; simp)
    simp [begL, begF, hr, h3.1]
def NwQ (s : Sp) (room : Int) (m' : Mem) (L' : Ev.Own) (u : Value) : Prop := (∃ e, u = .tuple (toArr [.pointer none, .int .i64 e]) ∧ e ≠ 0 ∧ L' = [] ∧ ¬ (OneS s ∧ room = 2)) ∨
  ∃ lb x ls fs of N, u = .tuple (toArr [.pointer (some ⟨lb, 0, none⟩), .int .i64 0]) ∧ L' = x.own lb ∧ Inv m' s ls fs of N x ∧ x.rows = [] ∧ x.Ll = [] ∧ x.lv = .slice none 0 0 ∧ x.room = room ∧ 2 ≤ room ∧ room ≤ 2000 ∧ x.dn = 0 ∧ x.mu = 0 ∧ x.se = 0 ∧ x.made = 0 ∧ x.asked = 0 ∧ 1 ≤ x.bg.length ∧ (OneS s → x.bg = [0] ∧ x.l = [[[[0]]]] ∧ x.ns = [ndK 1])
set_option maxHeartbeats 2000000 in
theorem New_fn (m : Mem) (hQ : fk.TabMem m) (cs : List Value) (s : Sp) (hs : spV m cs s) (hF : FewS s) (room : Int) (hi : i64 room) (hnb : nodesL (s.rules.map fun x => x.re) ≤ 1000000) :
    Ev.Fn Tryz.prog 8 [.agg (toArr cs), .int .i64 room] m [] (NwQ s room) := by
  have hfo := Formed_fn m cs s hs hF
  have hs' := hs
  obtain ⟨A, n, c, A', n', c', rfl, h1, h2⟩ := hs
  have hn := h1.lens
  have hmx : maxLen = 9223372036854775807 := rfl
  have h40 := hF.rules
  have h20 := hF.starts
  refine Fn.enter (N := 63) hX Tryz.func8 rfl rfl (by show _ ≤ _; simp) (fun w0 hL => ?_)
  conv => whnf
  refine NewReq.mk hL ?_
  clear hL
  intro b1 w hL
  conv => whnf
  refine go ?_; try (clear hL; intro w hL)
  refine CallReq.pure hfo hL ?_
  clear hL
  rintro u m1 w hL hm1 ⟨b, rfl, hb1, hb2⟩
  cases b with
  | false =>
    conv => whnf
    repeat' (first | ((first | refine zT ?_ | refine zF ?_ | refine zL hX hL ?_ | refine zB hX hL ?_ | (refine zS hX hL ?_; clear hL; intro w hL) | refine zI ?_ | refine zG hX ?_ | refine zO ?_); conv => whnf) | (refine BrReq.dec (fun _ => ?_) (fun _ => ?_) <;> (conv => whnf)) | (refine BrReq.not ?_; refine BrReq.dec (fun _ => ?_) (fun _ => ?_) <;> (conv => whnf)) | (refine BrReq.bool (fun _ => ?_) (fun _ => ?_) <;> (conv => whnf)))
    all_goals exact RetReq.mk (hL.sublist (List.nil_sublist _)) (.inl ⟨1, rfl, by decide, rfl, fun h => absurd (hb2 h.1) (by decide)⟩)
  | true =>
  have hS := hb1 rfl
  clear hb1 hb2
  by_cases hr2 : room < 2
  · conv => whnf
    repeat ((first | refine BrReq.yes hr2 ?_ | (refine go1 ?_; try (clear hL; intro w hL))); conv => whnf)
    exact RetReq.mk (hL.sublist (List.nil_sublist _)) (.inl ⟨1, rfl, by decide, rfl, fun h => by omega⟩)
  by_cases hr3 : 2000 < room
  · conv => whnf
    repeat ((first | refine BrReq.no hr2 ?_ | refine BrReq.yes hr3 ?_ | (refine go1 ?_; try (clear hL; intro w hL))); conv => whnf)
    exact RetReq.mk (hL.sublist (List.nil_sublist _)) (.inl ⟨1, rfl, by decide, rfl, fun h => by omega⟩)
  have hs1 : spV m1 [.slice A n c, .slice A' n' c'] s := hs'.le hm1
  conv => whnf
  repeat ((first | refine BrReq.no hr2 ?_ | refine BrReq.no hr3 ?_ | (refine go1 ?_; try (clear hL; intro w hL))); conv => whnf)
  refine CallReq.mk (L1 := []) (L2 := [_]) (NewMaker_fn m1 _ s hs1 hF hS hnb) hL ?_
  clear hL
  rintro u m2 La w hL hm2 hq
  obtain ⟨e, rfl, he, hno⟩ | ⟨mb, ab, ns, ls, fs, of, N, rfl, hO, hA, hM, hfb, hone⟩ := hq
  · conv => whnf
    repeat ((first | refine BrReq.yes he ?_ | (refine go1 ?_; try (clear hL; intro w hL))); conv => whnf)
    exact RetReq.mk (hL.sublist (List.nil_sublist _)) (.inl ⟨e, rfl, he, rfl, fun h => hno h.1⟩)
  replace hL : Ev.Loc m [] w0 m2 ((b1, .cells (toArr [.slice A n c, .slice A' n' c']) 25 (0, 0)) :: La) w := hL.perm (List.perm_append_singleton _ _)
  have hle1 := hL.le_add
  replace hL := hL.freeze
  have hb1 : Cells (m2.add b1 (.cells (toArr [.slice A n c, .slice A' n' c']) 25 (0, 0))) ⟨b1, 0, none⟩ [.slice A n c, .slice A' n' c'] := cells_add0 _
  generalize m2.add b1 _ = m3 at hL hle1 hb1
  have hb10 := hb1 0 _ rfl
  have hM3 := hM.le hle1
  have hm3 := hm1.trans (hm2.trans hle1)
  clear hM hb1 hle1 hm2 hm1
  refine go ?_; try (clear hL; intro w hL)
  refine RunReq.makeMapW hL ?_
  clear hL
  intro kb w hL
  refine go ?_; try (clear hL; intro w hL)
  refine RunReq.makeMapW hL ?_
  clear hL
  intro rb w hL
  refine go ?_; try (clear hL; intro w hL)
  refine NewReq.mk hL ?_
  clear hL
  intro lb w hL
  conv => whnf
  have hI0 : Inv m3 s ls fs of N (st0 kb rb mb ab room ns La (.slice none 0 0) (.slice none 0 0) [] [] [] [] []) :=
    ⟨hM3, hfb, hO, hA, OwnS.nil _ _, ⟨rfl, fun i fs h => (by cases h), fun fs h => by cases h⟩, OwnS.nil _ _, Nat.zero_le _, fun b h => by cases h⟩
  have hL0 : Ev.Loc m [] w0 m3 ((st0 kb rb mb ab room ns La (.slice none 0 0) (.slice none 0 0) [] [] [] [] []).own lb) w := by
    refine Loc.perm (show Ev.Loc m [] w0 m3 ((lb, lzO (.pointer (some ⟨mb, 0, none⟩)) room kb (.slice none 0 0) (.slice none 0 0) rb 0 0 0 (.slice none 0 0) 0 0) :: (rb, mapW []) :: (kb, mapW []) :: La) w from hL) ?_
    show List.Perm _ ((lb, _) :: (kb, _) :: ([] ++ ((rb, _) :: ([] ++ (La ++ ([] ++ []))))))
    simp only [List.nil_append, List.append_nil]
    exact List.Perm.cons _ (List.Perm.swap _ _ _)
  clear hL
  conv => whnf
  repeat ((first | refine LdReq.one hX rfl rfl hL0 hb10 ?_ | (refine go1 ?_; try (clear hL; intro w hL))); conv => whnf)
  refine LoopReq.inv hX (fun j : Nat => [(40, .int .i64 j)]) [6, 8, 39]
    (fun j w => j ≤ n ∧ ∃ m' av bv us l bg Lm Lb, Mem.Le m m' ∧ Inv m' s ls fs of N (st0 kb rb mb ab room ns La av bv us l bg Lm Lb) ∧ Ev.Loc m [] w0 m' ((st0 kb rb mb ab room ns La av bv us l bg Lm Lb).own lb) w ∧ bg.length = j ∧ l.length ≤ j ∧ (OneS s → (j = 0 → l = []) ∧ (j = 1 → bg = [0] ∧ l = [[[[0]]]]))) (fun j => n - j) 0
    ⟨by omega, m3, _, _, _, _, _, _, _, hm3, hI0, hL0, rfl, Nat.le_refl _, fun _ => ⟨fun _ => rfl, fun h => by omega⟩⟩ ⟨rfl, trivial⟩ ?_
  clear hL0 hI0
  rintro j w f ⟨hj, m', av, bv, us, l, bg, Lm, Lb, hm', hI, hL, hbl, hll, hone2⟩
  replace hL : Ev.Loc m [] w0 m' (((lb, lzO (.pointer (some ⟨mb, 0, none⟩)) room kb av bv rb 0 0 0 (.slice none 0 0) 0 0) :: (kb, mapW (knW l 0)) :: Lm) ++ ((rb, mapW []) :: (Lb ++ (La ++ ([] ++ []))))) w := hL
  generalize hLa : La ++ (([] : Ev.Own) ++ []) = La2 at hL
  have hbg0 := Begin_fn m' mb ab s ls fs of N hI.mkr j h40
  have hN := hO.len
  have hIf := hI.fb
  have hIh := hI.ho
  have hIa := hI.all
  have hIb := hI.hb
  have hbs := hI.bgs
  simp only [st0] at hIf hIh hIa hIb hbs
  obtain ⟨A5, n5, c5, rfl, -⟩ := hIh.slice
  obtain ⟨A6, n6, c6, rfl, -⟩ := hIb.slice
  have hlenF : fs.length ≤ 40 := by have := hI.mkr.len; omega
  refine go ?_; try (clear hL; intro w hL)
  refine BrReq.dec (fun hlt => ?_) (fun hlt => ?_)
  · refine go ?_; try (clear hL; intro w hL)
    refine CallReq.pure hbg0 hL ?_
    clear hL
    rintro u m5 w hL hm5 ⟨A7, n7, c7, rfl, hmn⟩
    refine go ?_; try (clear hL; intro w hL)
    refine CallReq.mk (handleX_fn m5 (hQ.le (hm'.trans hm5)) lb kb rb _ rfl room 0 0 0 0 0 _ _ _ rfl rfl us l fs.length ns.length hlenF hN Lm hIh (hIa.le hm5 (Nat.le_refl _)) hI.n _ (begL s fs j) hmn (begL_len s fs j) (fun f hf => by
      obtain rfl | h := begL_mem hf
      · exact fo.FB.nil _
      · exact hIf f h)) hL ?_
    clear hL
    rintro u m6 L6 w hL hm6 ⟨rfl, hq⟩
    obtain ⟨-, h, -⟩ | ⟨z, av2, us2, l2, Lm2, gs, rfl, rfl, hho2, hall2, hn2, hz1, hz2, hz3⟩ := hq
    · exact absurd h (by omega)
    refine go ?_; try (clear hL; intro w hL)
    refine NewReq.mk hL ?_
    clear hL
    intro g w hL
    conv => whnf
    replace hL : Ev.Loc m [] w0 m6 ((g, .cells (toArr [.int .i64 z]) 3 (0, 0)) :: (Lb ++ ((lb, lzO (.pointer (some ⟨mb, 0, none⟩)) room kb av2 (.slice A6 n6 c6) rb 0 0 0 (.slice none 0 0) 0 0) :: (kb, mapW (knW l2 0)) :: (Lm2 ++ ((rb, mapW []) :: La2))))) w := hL.perm (List.Perm.cons _ (fb_perm _ _ _ Lm2 Lb La2))
    refine go ?_; try (clear hL; intro w hL)
    refine RunReq.push hX 53 3 rfl rfl rfl rfl rfl hIb hL rfl rfl (by show (ints bg).length + 1 ≤ _; unfold ints; rw [List.length_map]; omega) rfl ?_
    clear hL
    intro A8 n8 c8 Lo3 w hn8 ho8 hL
    replace hL : Ev.Loc m [] w0 m6 ((lb, lzO (.pointer (some ⟨mb, 0, none⟩)) room kb av2 (.slice A6 n6 c6) rb 0 0 0 (.slice none 0 0) 0 0) :: (kb, mapW (knW l2 0)) :: (Lm2 ++ ((rb, mapW []) :: (Lo3 ++ La2)))) w := hL.perm (fb_perm _ _ _ Lm2 Lo3 La2).symm
    refine go ?_; try (clear hL; intro w hL)
    have hz : z < l2.length := (List.getElem?_eq_some_iff.1 hz1).1
    have hll2 : l.length ≤ l2.length ∧ l2.length ≤ j + 1 := by
      obtain ⟨rfl, -⟩ | ⟨rfl, -⟩ := hz3
      · omega
      · rw [List.length_append, List.length_singleton]; omega
    have hI2 : Inv m6 s ls fs of N (st0 kb rb mb ab room ns La av2 (.slice A8 n8 c8) us2 l2 (bg ++ [(z : Int)]) Lm2 Lo3) := ⟨hI.mkr.le hm5, hIf, hO, hA, hho2, hall2, by simpa [ints, st0] using ho8, hn2, fun b hb => by
      rcases List.mem_append.1 hb with h | h
      · have := hbs b h; show 0 ≤ b ∧ b < (l2.length : Int); omega
      · rw [List.mem_singleton.1 h]; show 0 ≤ (z : Int) ∧ (z : Int) < (l2.length : Int); omega⟩
    have hone3 : OneS s → (j + 1 = 0 → l2 = []) ∧ (j + 1 = 1 → bg ++ [(z : Int)] = [0] ∧ l2 = [[[[0]]]]) := fun h1 => ⟨fun h => by omega, fun h => by
      obtain rfl : j = 0 := by omega
      have hl0 := (hone2 h1).1 rfl
      subst hl0
      obtain rfl : bg = [] := List.eq_nil_of_length_eq_zero hbl
      obtain ⟨-, h⟩ | ⟨h2, rfl⟩ := hz3
      · exact absurd h (by simp)
      · exact ⟨rfl, by rw [h2, (hone h1).1]; exact congrArg (fun a => [a]) (begL_one h1)⟩⟩
    have hbl2 : (bg ++ [(z : Int)]).length = j + 1 := by rw [List.length_append, hbl]; rfl
    subst hLa
    refine ⟨j + 1, ⟨by omega, m6, av2, _, us2, l2, bg ++ [(z : Int)], Lm2, Lo3, hm'.trans hm5, hI2, hL, hbl2, hll2.2, hone3⟩, by first | omega | (simp only; omega) | (simp only [List.length_cons, List.length_append]; omega), ?_, ?_⟩
    · repeat (first | exact trivial | (refine And.intro (by (conv => lhs; whnf) <;> (conv => rhs; whnf) <;> (first | rfl)) ?_))
    · repeat (first | exact trivial | (refine And.intro (by (conv => lhs; whnf) <;> (conv => rhs; whnf) <;> (first | rfl)) ?_))
  · subst hLa
    have hjn : j = n := by omega
    have hn1 : 1 ≤ n := by have := hS.st1; omega
    refine go ?_; try (clear hL; intro w hL)
    exact RetReq.mk hL (.inr ⟨lb, st0 kb rb mb ab room ns La (.slice A5 n5 c5) (.slice A6 n6 c6) us l bg Lm Lb, ls, fs, of, N, rfl, rfl, hI, rfl, rfl, rfl, rfl, by omega, by omega, rfl, rfl, rfl, rfl, rfl, by show 1 ≤ bg.length; omega, fun h1 => by
      have h2 : n = 1 := by rw [hn.1, h1.1]; rfl
      have h3 := (hone2 h1).2 (by omega)
      exact ⟨h3.1, h3.2, (hone h1).2⟩⟩)
end Go.Proofs.YtaooenndoopgdaaGreatDoor.lz
namespace Go.Proofs.YtaooenndoopgdaaGreatDoor.lz
open Go Go.Ev Go.Proofs Go.Proofs.YtaooenndoopgdaaGreatDoor.ar Go.Proofs.YtaooenndoopgdaaGreatDoor.tree Go.Proofs.YtaooenndoopgdaaGreatDoor.looks
theorem thereNil_fn (m : Mem) (z : Int) : FnV Tryz.prog 24 [.pointer none, .int .i64 z] m (.bool false) := by
  refine Fn.enter (N := 20) hX Tryz.func24 rfl rfl (by show _ ≤ _; simp) (fun w0 hL => ?_)
  conv => whnf
  conv => whnf
  repeat ((first | refine UGenReq.nilPtrNe hX rfl rfl rfl rfl rfl ?_ | (refine go1 ?_; try (clear hL; intro w hL))); conv => whnf)
  exact RetReq.bool hL rfl
theorem beginNil_fn (m : Mem) (z : Int) : FnV Tryz.prog 9 [.pointer none, .int .i64 z] m (.int .i64 (-1)) := by
  refine Fn.enter (N := 27) hX Tryz.func9 rfl rfl (by show _ ≤ _; simp) (fun w0 hL => ?_)
  conv => whnf
  conv => whnf
  repeat ((first | refine UGenReq.nilPtr hX rfl rfl rfl rfl rfl ?_ | (refine go1 ?_; try (clear hL; intro w hL))); conv => whnf)
  exact RetReq.int hL rfl
theorem stepNil_fn (m : Mem) (z b c : Int) : FnV Tryz.prog 11 [.pointer none, .int .i64 z, .int .u8 b, .int .u8 c] m (.tuple (toArr [.int .i64 0, .int .i64 1])) := by
  refine Fn.enter (N := 97) hX Tryz.func11 rfl rfl (by show _ ≤ _; simp) (fun w0 hL => ?_)
  conv => whnf
  refine go ?_; try (clear hL; intro w hL)
  refine CallReq.val (thereNil_fn m z) hL ?_
  clear hL
  intro w hL
  refine go ?_; try (clear hL; intro w hL)
  exact RetReq.mk hL ⟨rfl, rfl⟩
theorem ruleNil_fn (m : Mem) (z c : Int) : FnV Tryz.prog 12 [.pointer none, .int .i64 z, .int .u8 c] m (.int .i64 (-1)) := by
  refine Fn.enter (N := 24) hX Tryz.func12 rfl rfl (by show _ ≤ _; simp) (fun w0 hL => ?_)
  conv => whnf
  refine go ?_; try (clear hL; intro w hL)
  refine CallReq.val (thereNil_fn m z) hL ?_
  clear hL
  intro w hL
  refine go ?_; try (clear hL; intro w hL)
  exact RetReq.int hL rfl
theorem deadNil_fn (m : Mem) (z : Int) : FnV Tryz.prog 10 [.pointer none, .int .i64 z] m (.bool false) := by
  refine Fn.enter (N := 19) hX Tryz.func10 rfl rfl (by show _ ≤ _; simp) (fun w0 hL => ?_)
  conv => whnf
  refine go ?_; try (clear hL; intro w hL)
  refine CallReq.val (thereNil_fn m z) hL ?_
  clear hL
  intro w hL
  refine go ?_; try (clear hL; intro w hL)
  exact RetReq.bool hL rfl
theorem madeNil_fn (m : Mem) : FnV Tryz.prog 13 [.pointer none] m (.int .i64 0) := by
  refine Fn.enter (N := 9) hX Tryz.func13 rfl rfl (by show _ ≤ _; simp) (fun w0 hL => ?_)
  conv => whnf
  conv => whnf
  repeat ((first | refine UGenReq.nilPtr hX rfl rfl rfl rfl rfl ?_ | (refine go1 ?_; try (clear hL; intro w hL))); conv => whnf)
  exact RetReq.int hL rfl
theorem askedNil_fn (m : Mem) : FnV Tryz.prog 16 [.pointer none] m (.int .i64 0) := by
  refine Fn.enter (N := 9) hX Tryz.func16 rfl rfl (by show _ ≤ _; simp) (fun w0 hL => ?_)
  conv => whnf
  conv => whnf
  repeat ((first | refine UGenReq.nilPtr hX rfl rfl rfl rfl rfl ?_ | (refine go1 ?_; try (clear hL; intro w hL))); conv => whnf)
  exact RetReq.int hL rfl
theorem keptNil_fn (m : Mem) : FnV Tryz.prog 14 [.pointer none] m (.int .i64 0) := by
  refine Fn.enter (N := 32) hX Tryz.func14 rfl rfl (by show _ ≤ _; simp) (fun w0 hL => ?_)
  conv => whnf
  conv => whnf
  repeat ((first | refine UGenReq.nilPtr hX rfl rfl rfl rfl rfl ?_ | (refine go1 ?_; try (clear hL; intro w hL))); conv => whnf)
  exact RetReq.int hL rfl
theorem flushNil_fn (m : Mem) : FnV Tryz.prog 15 [.pointer none] m (.tuple #[]) := by
  refine Fn.enter (N := 8) hX Tryz.func15 rfl rfl (by show _ ≤ _; simp) (fun w0 hL => ?_)
  conv => whnf
  conv => whnf
  repeat ((first | refine UGenReq.nilPtrNe hX rfl rfl rfl rfl rfl ?_ | (refine go1 ?_; try (clear hL; intro w hL))); conv => whnf)
  exact RetReq.mk hL ⟨rfl, rfl⟩
theorem planNil_fn (m : Mem) : FnV Tryz.prog 17 [.pointer none] m (.agg (toArr [.slice none 0 0])) := by
  refine Fn.enter (N := 13) hX Tryz.func17 rfl rfl (by show _ ≤ _; simp) (fun w0 hL => ?_)
  conv => whnf
  refine NewReq.mk hL ?_
  clear hL
  intro g w hL
  conv => whnf
  conv => whnf
  repeat ((first | refine UGenReq.nilPtr hX rfl rfl rfl rfl rfl ?_ | (refine go1 ?_; try (clear hL; intro w hL))); conv => whnf)
  exact RetReq.mk hL.drop ⟨rfl, rfl⟩
theorem there_fn (m : Mem) (lb kb rb K : Nat) (mp av bv lv : Value) (hav : ∃ A c, av = .slice A K c) (hmp : mp.oneCell' = true) (hbv : bv.oneCell' = true) (hlv : lv.oneCell' = true) (room dn mu se made asked z : Int) (hz : i64 z) :
    FnL Tryz.prog 24 [.pointer (some ⟨lb, 0, none⟩), .int .i64 z] m [(lb, lzO mp room kb av bv rb dn mu se lv made asked)] (.bool (decide (0 ≤ z ∧ z < K))) := by
  obtain ⟨A, c, rfl⟩ := hav
  refine Fn.enter (N := 20) hX Tryz.func24 rfl rfl (by show _ ≤ _; simp) (fun w0 hL => ?_)
  conv => whnf
  generalize keys [(lb, lzO mp room kb (.slice A K c) bv rb dn mu se lv made asked)] = S0 at hL ⊢
  by_cases h0 : 0 ≤ z
  · have e : decide (0 ≤ z ∧ z < K) = decide (z < (K : Int)) := by simp [h0]
    rw [e]
    conv => whnf
    repeat' (first | ((first | refine UGenReq.nilPtrNe hX rfl rfl rfl rfl rfl ?_ | refine BrReq.yes h0 ?_ | refine zT ?_ | refine zF ?_ | refine zL hX hL ?_ | refine zB hX hL ?_ | (refine zS hX hL ?_; clear hL; intro w hL) | refine zI ?_ | refine zG hX ?_ | refine zO ?_); conv => whnf) | (refine BrReq.dec (fun _ => ?_) (fun _ => ?_) <;> (conv => whnf)) | (refine BrReq.not ?_; refine BrReq.dec (fun _ => ?_) (fun _ => ?_) <;> (conv => whnf)) | (refine BrReq.bool (fun _ => ?_) (fun _ => ?_) <;> (conv => whnf)))
    all_goals exact RetReq.mk hL ⟨rfl, rfl, rfl⟩
  · have e : decide (0 ≤ z ∧ z < K) = false := by simp [h0]
    rw [e]
    conv => whnf
    repeat' (first | ((first | refine UGenReq.nilPtrNe hX rfl rfl rfl rfl rfl ?_ | refine BrReq.no h0 ?_ | refine zT ?_ | refine zF ?_ | refine zL hX hL ?_ | refine zB hX hL ?_ | (refine zS hX hL ?_; clear hL; intro w hL) | refine zI ?_ | refine zG hX ?_ | refine zO ?_); conv => whnf) | (refine BrReq.dec (fun _ => ?_) (fun _ => ?_) <;> (conv => whnf)) | (refine BrReq.not ?_; refine BrReq.dec (fun _ => ?_) (fun _ => ?_) <;> (conv => whnf)) | (refine BrReq.bool (fun _ => ?_) (fun _ => ?_) <;> (conv => whnf)))
    all_goals exact RetReq.mk hL ⟨rfl, rfl, rfl⟩
theorem begin_fn (m : Mem) (lb kb rb : Nat) (mp av bv lv : Value) (bg : List Int) (Lb : Ev.Own) (hb : OwnS 3 1 bv (ints bg) Lb) (hav : av.oneCell' = true) (hmp : mp.oneCell' = true) (hlv : lv.oneCell' = true) (room dn mu se made asked z : Int) (hz : i64 z) :
    FnL Tryz.prog 9 [.pointer (some ⟨lb, 0, none⟩), .int .i64 z] m ((lb, lzO mp room kb av bv rb dn mu se lv made asked) :: Lb) (.int .i64 (if 0 ≤ z then bg.getD z.toNat (-1) else -1)) := by
  obtain ⟨A, n, c, rfl, -⟩ := hb.slice
  obtain ⟨hn, hc, hcm, hown⟩ := tk_own hb
  rw [ints, List.length_map] at hn
  have hmx : maxLen = 9223372036854775807 := rfl
  refine Fn.enter (N := 27) hX Tryz.func9 rfl rfl (by show _ ≤ _; simp) (fun w0 hL => ?_)
  conv => whnf
  generalize keys ((lb, lzO mp room kb av (.slice A n c) rb dn mu se lv made asked) :: Lb) = S0 at hL ⊢
  by_cases h0 : z < 0
  · rw [if_neg (by omega)]
    conv => whnf
    repeat ((first | refine UGenReq.nilPtr hX rfl rfl rfl rfl rfl ?_ | refine BrReq.yes h0 ?_ | (refine go1 ?_; try (clear hL; intro w hL))); conv => whnf)
    exact RetReq.mk hL ⟨rfl, rfl, rfl⟩
  rw [if_pos (by omega)]
  obtain ⟨k, rfl⟩ : ∃ k : Nat, z = k := ⟨z.toNat, by omega⟩
  rw [Int.toNat_natCast]
  by_cases h1 : (n : Int) ≤ k
  · rw [List.getD_eq_getElem?_getD, List.getElem?_eq_none (by omega)]
    conv => whnf
    repeat ((first | refine UGenReq.nilPtr hX rfl rfl rfl rfl rfl ?_ | refine BrReq.no h0 ?_ | refine BrReq.yes h1 ?_ | (refine go1 ?_; try (clear hL; intro w hL))); conv => whnf)
    exact RetReq.mk hL ⟨rfl, rfl, rfl⟩
  · have hk : k < bg.length := by omega
    obtain ⟨g, cur, rfl, rfl, hcur⟩ := hown (by intro h; rw [ints, List.map_eq_nil_iff] at h; rw [h] at hk; simp at hk)
    have hck := hcur k (.int .i64 bg[k]) (by rw [ints, List.getElem?_map, List.getElem?_eq_getElem hk]; rfl)
    rw [List.getD_eq_getElem?_getD, List.getElem?_eq_getElem hk]
    conv => whnf
    repeat ((first | refine UGenReq.nilPtr hX rfl rfl rfl rfl rfl ?_ | refine BrReq.no h0 ?_ | refine BrReq.no h1 ?_ | refine Idx2Req.mk k ⟨g, 0, none⟩ rfl (by omega) rfl ?_ | (refine LdReq.ownC hX rfl rfl hL (.t .h) (by rw [scale_eq, Nat.mul_one, Nat.zero_add]; exact hck) ?_) | (refine go1 ?_; try (clear hL; intro w hL))); conv => whnf)
    exact RetReq.mk hL ⟨rfl, rfl, rfl⟩
noncomputable def accB (ns : List Nd) (bits : Nat) (f : fo.Fml) : Bool := fo.dec (fo.holdsP f (li.keepQ ns bits (li.atomsP f)))
theorem rule1_fn (m : Mem) (mb ab b3 b5 bits : Nat) (ns : List Nd) (La : Ev.Own) (hA : Ar ab ns La) (hO : OkA ns) (hb : bits < 256) (fv : Value) (f : fo.Fml) (hf : fo.FmV m fv f) (hF : fo.FB ns.length f)
    (h3 : Cells m ⟨b3, 0, none⟩ [.pointer (some ⟨mb, 0, none⟩)]) (h5 : Cells m ⟨b5, 0, none⟩ [.int .u8 bits]) (hm : mcell m ((⟨mb, 0, none⟩ : Addr).add 0) = some (.pointer (some ⟨ab, 0, none⟩))) :
    FnM Tryz.prog 56 [fv, .pointer (some ⟨b3, 0, none⟩), .pointer (some ⟨b5, 0, none⟩)] m La (.bool (accB ns bits f)) := by
  have hacc := li.Accepts_fn m ab bits ns La hA hO hb fv f hf hF
  obtain ⟨A1, n1, c1, rfl, -⟩ := id hf
  have h30 := h3 0 _ rfl
  have h50 := h5 0 _ rfl
  refine Fn.enter (N := 12) hX Tryz.func56 rfl rfl (by show _ ≤ _; simp) (fun w0 hL => ?_)
  conv => whnf
  generalize keys La = S0 at hL ⊢
  refine DrawReq.plan hX (.fst 0 (.fst 1 (.fst 2 (.fst 3 (.fst 4 (.fst 5 (.alt 6 (.fst 7 (.done)) (.stop)))))))) [] (by kernel_rfl) (by kernel_rfl) hL (fun h => h.sublist (List.nil_sublist _)) ?_
  clear hL
  intro w hL
  conv => whnf
  repeat ((first | refine QLdReq.one hX rfl rfl h30 ?_ | refine QLdReq.one hX rfl rfl h50 ?_ | refine QLdReq.one hX rfl rfl hm ?_ | (refine goq1 ?_; try (clear hL; intro w hL))); conv => whnf)
  refine CallReq.lm (L1 := La) (L2 := []) hacc (by rw [List.append_nil]; exact hL) ?_
  clear hL
  intro m1 w hm1 hL
  rw [List.append_nil] at hL
  replace hL := hL.weaken hm1 (Mem.Le.refl m)
  refine SReq.mk (hL.sublist (List.nil_sublist _)) ?_
  refine goq ?_; try (clear hL; intro w hL)
  exact RetReq.mk hL ⟨rfl, rfl⟩
noncomputable def ruleZ (ns : List Nd) (bits : Nat) (fs : List fo.Fml) : Int := match fs.findIdx? (accB ns bits) with
  | some i => i
  | none => -1
theorem indexM_fn (m : Mem) (mb ab b3 b5 bits : Nat) (ns : List Nd) (La : Ev.Own) (hA : Ar ab ns La) (hO : OkA ns) (hb : bits < 256) (v : Value) (fs : List fo.Fml) (hs : MnV m v fs) (hF : ∀ f ∈ fs, fo.FB ns.length f)
    (h3 : Cells m ⟨b3, 0, none⟩ [.pointer (some ⟨mb, 0, none⟩)]) (h5 : Cells m ⟨b5, 0, none⟩ [.int .u8 bits]) (hmb : mcell m ((⟨mb, 0, none⟩ : Addr).add 0) = some (.pointer (some ⟨ab, 0, none⟩))) :
    FnM Tryz.prog 49 [v, .func (.func 56) #[] #[.pointer (some ⟨b3, 0, none⟩), .pointer (some ⟨b5, 0, none⟩)]] m La (.int .i64 (ruleZ ns bits fs)) := by
  obtain ⟨A1, n, c1, rfl, hn, hc, hm, -⟩ := id hs
  have hmx : maxLen = 9223372036854775807 := rfl
  refine Fn.enter (N := 19) hX Tryz.func49 rfl rfl (by show _ ≤ _; simp) (fun w0 hL => ?_)
  conv => whnf
  generalize keys La = S0 at hL ⊢
  refine go ?_; try (clear hL; intro w hL)
  refine LoopReq.inv hX (fun j : Nat => [(8, .int .i64 j)]) [0, 1, 7]
    (fun j w => (j ≤ n ∧ ∀ x ∈ fs.take j, accB ns bits x = false) ∧ Ev.Loc m S0 w0 m La w) (fun j => n - j) 0
    ⟨⟨by omega, by simp⟩, hL⟩ ⟨rfl, trivial⟩ ?_
  clear hL
  rintro j w e ⟨⟨hj, hdone⟩, hL⟩
  refine go ?_; try (clear hL; intro w hL)
  refine BrReq.dec (fun hlt => ?_) (fun hlt => ?_)
  · have hjl : j < fs.length := by omega
    obtain ⟨a, cs, rfl, hl1, hcells, u, rfl, hu⟩ := hs.elem j _ (List.getElem?_eq_getElem hjl)
    have htk := List.take_succ_eq_append_getElem hjl
    have hFj := hF _ (List.getElem_mem hjl)
    have hget := List.getElem?_eq_getElem hjl
    generalize fs[j] = x at hu htk hFj hget
    have hf := rule1_fn m mb ab b3 b5 bits ns La hA hO hb u x hu hFj h3 h5 hmb
    have hc0 := hcells 0 _ rfl
    have addr0 : ∀ z : Addr, z.add 0 = z := fun z => by cases z; rfl
    rw [addr0] at hc0
    obtain ⟨Au, nu, cu, rfl, -⟩ := id hu
    conv => whnf
    repeat ((first | refine Idx2Req.mk j a rfl (by omega) rfl ?_ | refine LdReq.one hX rfl rfl hL hc0 ?_ | (refine go1 ?_; try (clear hL; intro w hL))); conv => whnf)
    refine CallReq.lm (L1 := La) (L2 := []) hf (by rw [List.append_nil]; exact hL) ?_
    clear hL
    intro m1 w hm1 hL
    rw [List.append_nil] at hL
    replace hL := hL.weaken hm1 (Mem.Le.refl m)
    cases hacc : accB ns bits x with
    | true =>
      have hz : ruleZ ns bits fs = j := by
        have : fs.findIdx? (accB ns bits) = some j := by
          rw [List.findIdx?_eq_some_iff_getElem]
          refine ⟨hjl, by rw [List.getElem?_eq_getElem hjl] at hget; rw [Option.some.inj hget]; exact hacc, fun k hk => ?_⟩
          have := hdone fs[k] (by rw [List.mem_take_iff_getElem]; exact ⟨k, by omega, rfl⟩)
          rw [this]; decide
        unfold ruleZ; rw [this]
      rw [hz]
      refine go ?_; try (clear hL; intro w hL)
      exact RetReq.mk hL ⟨rfl, rfl⟩
    | false =>
      have hd2 := all_snoc htk hdone hacc
      refine go ?_; try (clear hL; intro w hL)
      refine ⟨j + 1, ⟨⟨by omega, hd2⟩, hL⟩, by first | omega | (simp only; omega) | (simp only [List.length_cons, List.length_append]; omega), ?_, ?_⟩
      · repeat (first | exact trivial | (refine And.intro (by (conv => lhs; whnf) <;> (conv => rhs; whnf) <;> (first | rfl)) ?_))
      · repeat (first | exact trivial | (refine And.intro (by (conv => lhs; whnf) <;> (conv => rhs; whnf) <;> (first | rfl)) ?_))
  · have hjn : j = fs.length := by omega
    rw [hjn, List.take_length] at hdone
    have hz : ruleZ ns bits fs = -1 := by
      have : fs.findIdx? (accB ns bits) = none := by rw [List.findIdx?_eq_none_iff]; exact hdone
      unfold ruleZ; rw [this]
    rw [hz]
    refine go ?_; try (clear hL; intro w hL)
    exact RetReq.mk hL ⟨rfl, rfl⟩
theorem Mkr.ar {m : Mem} {mb ab : Nat} {s : Sp} {ls : List Re} {fs : List fo.Fml} {of : List Nat} {N : Nat} (k : Mkr m mb ab s ls fs of N) : mcell m ((⟨mb, 0, none⟩ : Addr).add 0) = some (.pointer (some ⟨ab, 0, none⟩)) := by
  obtain ⟨⟨A, n, c, A2, n2, c2, A3, n3, c3, A4, n4, c4, h1, -⟩, -⟩ := k
  exact h1 0 _ rfl
theorem mrule_fn (m : Mem) (mb ab bits : Nat) (s : Sp) (ls : List Re) (fs0 : List fo.Fml) (of : List Nat) (N : Nat) (hM : Mkr m mb ab s ls fs0 of N) (ns : List Nd) (La : Ev.Own) (hA : Ar ab ns La) (hO : OkA ns) (hb : bits < 256) (v : Value) (fs : List fo.Fml) (hs : MnV m v fs) (hF : ∀ f ∈ fs, fo.FB ns.length f) :
    FnM Tryz.prog 32 [.pointer (some ⟨mb, 0, none⟩), v, .int .u8 bits] m La (.int .i64 (ruleZ ns bits fs)) := by
  obtain ⟨A1, n, c1, rfl, -⟩ := id hs
  refine Fn.enter (N := 10) hX Tryz.func32 rfl rfl (by show _ ≤ _; simp) (fun w0 hL => ?_)
  conv => whnf
  generalize keys La = S0 at hL ⊢
  refine NewReq.mk hL ?_
  clear hL
  intro b3 w hL
  conv => whnf
  refine NewReq.mk hL ?_
  clear hL
  intro b5 w hL
  conv => whnf
  replace hL : Ev.Loc m S0 w0 m ((b5, .cells (toArr [.int .u8 bits]) 5 (0, 0)) :: (b3, .cells (toArr [.pointer (some ⟨mb, 0, none⟩)]) 57 (0, 0)) :: La) w := hL
  have hle1 := hL.le_add
  replace hL := hL.freeze
  have hle2 := hL.le_add
  replace hL := hL.freeze
  generalize hm2 : (m.add b5 _).add b3 _ = m2 at hL hle2
  have hb5 : Cells m2 ⟨b5, 0, none⟩ [.int .u8 bits] := (cells_add0 (m := m) (b := b5) (te := 5) (fz := (0, 0)) [.int .u8 bits]).le hle2
  have hb3 : Cells m2 ⟨b3, 0, none⟩ [.pointer (some ⟨mb, 0, none⟩)] := by rw [← hm2]; exact cells_add0 _
  clear hm2
  have hm02 := hle1.trans hle2
  refine go ?_; try (clear hL; intro w hL)
  refine CallReq.lm (L1 := La) (L2 := []) (indexM_fn m2 mb ab b3 b5 bits ns La hA hO hb _ fs (hs.le hm02) hF hb3 hb5 (hM.le hm02).ar) (by rw [List.append_nil]; exact hL) ?_
  clear hL
  intro m3 w hm3 hL
  rw [List.append_nil] at hL
  refine go ?_; try (clear hL; intro w hL)
  exact RetReq.mk hL ⟨rfl, rfl⟩
theorem la_perm {α : Type} (a b c d : α) (Lb La R : List α) : (a :: b :: c :: d :: (Lb ++ (La ++ R))).Perm (La ++ (a :: b :: c :: d :: (Lb ++ R))) := by
  have := List.perm_append_comm_assoc (a :: b :: c :: d :: Lb) La R
  simpa using this
theorem Inv.at_ {m : Mem} {s : Sp} {ls : List Re} {fs : List fo.Fml} {of : List Nat} {N : Nat} {x : St} (h : Inv m s ls fs of N x) {k : Nat} (hk : k < x.l.length) : ∃ g cur n c u, x.av = .slice (some ⟨g, 0, none⟩) n c ∧ n = x.l.length ∧ n ≤ c ∧ x.Lm = [(g, .cells (toArr cur) 84 (0, 0))] ∧ cur[k]? = some u ∧ MnV m u (x.l.getD k []) := by
  obtain ⟨A, n, c, hav, -⟩ := h.ho.slice
  have ho := h.ho
  rw [hav] at ho
  obtain ⟨hn, hc, -, hown⟩ := tk_own ho
  have hul := h.all.len
  obtain ⟨g, cur, rfl, hLm, hcur⟩ := hown (by intro e; rw [e] at hul; simp at hul; rw [hul] at hk; simp at hk)
  obtain ⟨u, hu, hm⟩ := h.all.at_ k _ (List.getElem?_eq_getElem hk)
  exact ⟨g, cur, n, c, u, hav, by omega, hc, hLm, hcur k u hu, by rw [List.getD_eq_getElem?_getD, List.getElem?_eq_getElem hk]; exact hm⟩
theorem rule_fn (m : Mem) (lb bits : Nat) (s : Sp) (ls : List Re) (fs : List fo.Fml) (of : List Nat) (N : Nat) (x : St) (hI : Inv m s ls fs of N x) (hlv : x.lv.oneCell' = true) (hb : bits < 256) (z : Int) (hz : i64 z) :
    FnM Tryz.prog 12 [.pointer (some ⟨lb, 0, none⟩), .int .i64 z, .int .u8 bits] m (x.own lb) (.int .i64 (if 0 ≤ z ∧ z < x.l.length then ruleZ x.ns bits (x.l.getD z.toNat []) else -1)) := by
  obtain ⟨A, n, c, hav, -⟩ := hI.ho.slice
  obtain ⟨A6, n6, c6, hbv, -⟩ := hI.hb.slice
  have hn : n = x.l.length := by have := hI.ho; rw [hav] at this; have := (tk_own this).1; have := hI.all.len; omega
  have hth := there_fn m lb x.kb x.rb x.l.length (.pointer (some ⟨x.mb, 0, none⟩)) x.av x.bv x.lv ⟨A, c, by rw [hav, hn]⟩ rfl (by rw [hbv]; rfl) hlv x.room x.dn x.mu x.se x.made x.asked z hz
  refine Fn.enter (N := 24) hX Tryz.func12 rfl rfl (by show _ ≤ _; simp) (fun w0 hL => ?_)
  conv => whnf
  generalize hS0 : keys (x.own lb) = S0 at hL ⊢
  refine go ?_; try (clear hL; intro w hL)
  refine CallReq.li (L1 := [(lb, x.ob)]) (L2 := (x.kb, mapW (knW x.l 0)) :: (x.Lm ++ ((x.rb, mapW (rwW x.rows)) :: (x.Lb ++ (x.La ++ (rwB x.rows ++ x.Ll)))))) hth hL ?_
  clear hL
  intro w hL
  by_cases h0 : 0 ≤ z ∧ z < x.l.length
  · rw [decide_eq_true h0, if_pos h0]
    obtain ⟨k, rfl⟩ : ∃ k : Nat, z = k := ⟨z.toNat, by omega⟩
    rw [Int.toNat_natCast]
    have hk : k < x.l.length := by omega
    obtain ⟨g, cur, n1, c1, u, e1, e2, e3, e4, e5, e6⟩ := hI.at_ hk
    obtain ⟨Au, nu, cu, rfl, -⟩ := id e6
    have hmr := mrule_fn m x.mb x.ab bits s ls fs of N hI.mkr x.ns x.La hI.ar hI.ok hb _ _ e6 (by
      rw [List.getD_eq_getElem?_getD, List.getElem?_eq_getElem hk]
      exact (hI.all.fb _ (List.getElem_mem hk)).2)
    have hown : x.own lb = (lb, lzO (.pointer (some ⟨x.mb, 0, none⟩)) x.room x.kb (.slice (some ⟨g, 0, none⟩) n1 c1) x.bv x.rb x.dn x.mu x.se x.lv x.made x.asked) :: (x.kb, mapW (knW x.l 0)) :: (g, .cells (toArr cur) 84 (0, 0)) :: (x.rb, mapW (rwW x.rows)) :: (x.Lb ++ (x.La ++ (rwB x.rows ++ x.Ll))) := by
      unfold St.own St.ob; rw [e1, e4]; rfl
    replace hL : Ev.Loc m S0 w0 m (x.own lb) w := hL
    rw [hown] at hL ⊢
    rw [hbv] at hL ⊢
    generalize x.lv = lv at hlv hL ⊢
    generalize rwB x.rows ++ x.Ll = R at hL ⊢
    refine go ?_; try (clear hL; intro w hL)
    refine DrawReq.plan hX (.fst 0 (.fst 1 (.fst 2 (.fst 3 (.fst 4 (.fst 5 (.fst 6 (.fst 7 (.fst 8 (.fst 9 (.fst 10 (.fst 11 (.alt 12 (.fst 13 (.done)) (.stop)))))))))))))) [(lb, lzO (.pointer (some ⟨x.mb, 0, none⟩)) x.room x.kb (.slice (some ⟨g, 0, none⟩) n1 c1) (.slice A6 n6 c6) x.rb x.dn x.mu x.se lv x.made x.asked), (g, .cells (toArr cur) 84 (0, 0))] (by kernel_rfl) (by kernel_rfl) hL (fun h => h.sublist (.cons_cons _ (.cons _ (.cons_cons _ (List.nil_sublist _))))) ?_
    clear hL
    intro w hL
    conv => whnf
    repeat ((first | refine Idx2Req.mk k ⟨g, 0, none⟩ rfl (by omega) rfl ?_ | (refine QLdReq.ownC hX rfl rfl (.t .h) (by rw [scale_eq, Nat.mul_one, Nat.zero_add]; exact e5) ?_) | (refine goq1 ?_; try (clear hL; intro w hL))); conv => whnf)
    refine CallReq.lm (L1 := x.La) (L2 := (_ :: _ :: _ :: _ :: (x.Lb ++ R))) hmr (hL.perm (la_perm _ _ _ _ x.Lb x.La R)) ?_
    clear hL
    intro m1 w hm1 hL
    replace hL := (hL.perm (la_perm _ _ _ _ x.Lb x.La R).symm).weaken hm1 (Mem.Le.refl m)
    refine SReq.mk (hL.sublist (.cons_cons _ (.cons _ (.cons_cons _ (List.nil_sublist _))))) ?_
    refine goq ?_; try (clear hL; intro w hL)
    exact RetReq.mk hL ⟨rfl, rfl⟩
  · rw [decide_eq_false h0, if_neg h0]
    refine go ?_; try (clear hL; intro w hL)
    exact RetReq.mk hL ⟨rfl, rfl⟩
end Go.Proofs.YtaooenndoopgdaaGreatDoor.lz
namespace Go.Proofs.YtaooenndoopgdaaGreatDoor.lz
open Go Go.Ev Go.Proofs Go.Proofs.YtaooenndoopgdaaGreatDoor.ar Go.Proofs.YtaooenndoopgdaaGreatDoor.tree Go.Proofs.YtaooenndoopgdaaGreatDoor.looks
theorem _root_.Go.Ev.FnL.frame {P : Program} {f : Nat} {args : List Value} {m : Mem} {L L1 L2 : Ev.Own} {v : Value} (h : FnL P f args m L1 v) (hp : L.Perm (L1 ++ L2)) : FnL P f args m L v := by
  intro w hw
  have hc : CallReq P f (toArr args) w (fun u w' => u = v ∧ Ev.Loc m (keys L) w m L w') := CallReq.li (L1 := L1) (L2 := L2) (v := v) h (hw.loc.perm hp) (fun w' hl => ⟨rfl, hl.perm hp.symm⟩)
  refine hc.out.mono ?_
  intro e w' hq
  cases e with
  | returned u =>
    obtain ⟨h1, hl⟩ := hq
    exact ⟨u, m, L, rfl, hl, rfl, rfl, h1⟩
  | _ => exact hq.elim
def oneSp (r : Re) : Sp := ⟨[[109, 97, 105, 110]], [⟨[0], r, 0, 0⟩]⟩
theorem One_fn (m : Mem) (k s0 s1 s2 s3 lo hi : Int) (neg : Bool) (A : Option Addr) (n c : Nat) (r : Re) (hr : RepRe m (reC k s0 s1 s2 s3 (.slice A n c) lo hi neg) r) :
    Fn0 Tryz.prog 18 [.agg (toArr (reC k s0 s1 s2 s3 (.slice A n c) lo hi neg))] m fun m' u => ∃ cs, u = .agg (toArr cs) ∧ spV m' cs (oneSp r) := by
  refine Fn.enter (N := 9) hX Tryz.func18 rfl rfl (by show _ ≤ _; simp) (fun w0 hL => ?_)
  conv => whnf
  refine NewReq.mk hL ?_
  clear hL
  intro b1 w hL
  conv => whnf
  refine NewReq.mk hL ?_
  clear hL
  intro b2 w hL
  conv => whnf
  refine go ?_; try (clear hL; intro w hL)
  refine NewReq.mk hL ?_
  clear hL
  intro g3 w hL
  conv => whnf
  refine go ?_; try (clear hL; intro w hL)
  refine NewReq.mk hL ?_
  clear hL
  intro g4 w hL
  conv => whnf
  refine go ?_; try (clear hL; intro w hL)
  refine NewReq.mk hL ?_
  clear hL
  intro g5 w hL
  conv => whnf
  refine go ?_; try (clear hL; intro w hL)
  simp only [spliceL, zerosL, reC, toArr, Value.cells, List.set_cons_zero, List.set_cons_succ, List.take, List.drop, Nat.zero_mul, List.append_nil] at hL
  replace hL : Ev.Loc m (keys []) w0 m ((g5, .cells (toArr (ruC (.slice (some ⟨g4, 0, none⟩) 1 1) k s0 s1 s2 s3 (.slice A n c) lo hi neg 0 0)) 55 (0, 0)) :: (g4, .cells (toArr [.int .i64 0]) 3 (0, 0)) :: (g3, .cells (toArr [.string (bs [109, 97, 105, 110])]) 9 (0, 0)) :: [_, _]) _ := hL
  have hle1 := hL.le_add
  replace hL := hL.freeze
  have hle2 := hL.le_add
  replace hL := hL.freeze
  have hle3 := hL.le_add
  replace hL := hL.freeze
  generalize hm1 : m.add g5 _ = m1 at hL hle1 hle2 hle3
  have hc5 : Cells m1 ⟨g5, 0, none⟩ (ruC (.slice (some ⟨g4, 0, none⟩) 1 1) k s0 s1 s2 s3 (.slice A n c) lo hi neg 0 0) := by rw [← hm1]; exact cells_add0 _
  generalize hm2 : m1.add g4 _ = m2 at hL hle2 hle3
  have hc4 : Cells m2 ⟨g4, 0, none⟩ [.int .i64 0] := by rw [← hm2]; exact cells_add0 _
  generalize hm3 : m2.add g3 _ = m3 at hL hle3
  have hc3 : Cells m3 ⟨g3, 0, none⟩ [.string (bs [109, 97, 105, 110])] := by rw [← hm3]; exact cells_add0 _
  have hr3 := hr.le (hle1.trans (hle2.trans hle3))
  replace hc4 := hc4.le hle3
  replace hc5 := hc5.le (hle2.trans hle3)
  clear hm1 hm2 hm3
  have a0 : ∀ z : Addr, z.add 0 = z := fun z => by cases z; rfl
  have mx : (1 : Nat) ≤ maxLen := by decide
  refine RetReq.mk hL.drop.drop ⟨rfl, [.slice (some ⟨g3, 0, none⟩) 1 1, .slice (some ⟨g5, 0, none⟩) 1 1], rfl, _, _, _, _, _, _, rfl, ⟨_, _, _, rfl, rfl, Nat.le_refl _, mx, fun i x hx => ?_⟩, ⟨_, _, _, rfl, rfl, Nat.le_refl _, mx, fun i x hx => ?_⟩⟩
  · match i, hx with
    | 0, hx => cases hx; exact ⟨_, _, rfl, rfl, by rw [scale_eq, Nat.zero_mul, a0]; exact hc3, rfl⟩
  · match i, hx with
    | 0, hx =>
      cases hx
      refine ⟨_, _, rfl, rfl, by rw [scale_eq, Nat.zero_mul, a0]; exact hc5, _, _, _, _, _, _, _, _, _, _, _, _, _, _, rfl, ⟨_, _, _, rfl, rfl, Nat.le_refl _, mx, fun i x hx => ?_⟩, hr3⟩
      match i, hx with
      | 0, hx => cases hx; exact ⟨_, _, rfl, rfl, by rw [scale_eq, Nat.zero_mul, a0]; exact hc4, rfl⟩
theorem atoms_one : li.atomsP [[0]] = [0] := by
  unfold li.atomsP fo.sortI
  rw [show ([[0]] : fo.Fml).flatten = [0] from rfl, List.mergeSort_singleton]
  rfl
theorem acc_one : accB [ndK 1] 0 [[0]] = true := by
  unfold accB fo.dec
  refine @decide_eq_true _ (Classical.propDecidable _) ⟨[0], .head _, fun n hn => ?_⟩
  rw [List.mem_singleton.1 hn, atoms_one]
  have : li.nulP [ndK 1] 0 0 = true := by decide
  rw [li.keepQ_all (fun y hy => by rw [List.mem_singleton.1 hy]; exact this)]
  exact .head _
theorem one_one (s : Sp) (h : s = oneSp (leafR 1)) : OneS s := by
  subst h
  exact ⟨rfl, rfl, fun x hx => by rw [List.mem_singleton.1 hx]; exact ⟨rfl, rfl, rfl, rfl, rfl⟩⟩
theorem one_few : FewS (oneSp (leafR 1)) := ⟨by decide, fun x hx => by rw [List.mem_singleton.1 hx]; exact ⟨by decide, by decide⟩, by decide, fun x hx => by rw [List.mem_singleton.1 hx]; decide⟩
theorem own_perm (lb : Nat) (x : St) : (x.own lb).Perm (((lb, x.ob) :: x.Lb) ++ ((x.kb, mapW (knW x.l 0)) :: (x.Lm ++ ((x.rb, mapW (rwW x.rows)) :: (x.La ++ (rwB x.rows ++ x.Ll)))))) := by
  refine (fb_perm _ _ _ x.Lm x.Lb _).trans ?_
  exact List.perm_middle
theorem begin_own (m : Mem) (lb : Nat) (x : St) (s : Sp) (ls : List Re) (fs : List fo.Fml) (of : List Nat) (N : Nat) (hI : Inv m s ls fs of N x) (hlv : x.lv.oneCell' = true) (z : Int) (hz : i64 z) :
    FnL Tryz.prog 9 [.pointer (some ⟨lb, 0, none⟩), .int .i64 z] m (x.own lb) (.int .i64 (if 0 ≤ z then x.bg.getD z.toNat (-1) else -1)) := by
  obtain ⟨A, n, c, hav, -⟩ := hI.ho.slice
  exact (begin_fn m lb x.kb x.rb (.pointer (some ⟨x.mb, 0, none⟩)) x.av x.bv x.lv x.bg x.Lb hI.hb (by rw [hav]; rfl) rfl hlv x.room x.dn x.mu x.se x.made x.asked z hz).frame (own_perm lb x)
theorem awake_fn (m : Mem) (hQ : fk.TabMem m) : Fn0 Tryz.prog 6 [] m fun _ u => u = .bool true := by
  refine Fn.enter (N := 25) hX Tryz.func6 rfl rfl (by show _ ≤ _; simp) (fun w0 hL => ?_)
  conv => whnf
  refine go ?_; try (clear hL; intro w hL)
  refine CallReq.pure (One_fn m 1 0 0 0 0 0 0 false none 0 0 (leafR 1) (leaf_rep m 1 (by simp [inI]))) hL ?_
  clear hL
  rintro u m1 w hL hm1 ⟨cs, rfl, hs⟩
  refine go ?_; try (clear hL; intro w hL)
  refine CallReq.mk (L1 := []) (L2 := []) (New_fn m1 (hQ.le hm1) cs _ hs one_few 2 (by unfold i64; omega) (by decide)) hL ?_
  clear hL
  rintro u m2 L2 w hL hm2 hq
  obtain ⟨e, -, -, -, h⟩ | ⟨lb, x, ls, fs, of, N, rfl, rfl, hI, h1, h2, h3, h4, -, -, h5, h6, h7, h8, h9, -, h10⟩ := hq
  · exact absurd ⟨one_one _ rfl, rfl⟩ h
  obtain ⟨hbg, hl, hns⟩ := h10 (one_one _ rfl)
  rw [List.append_nil] at hL
  have hbe := begin_own m2 lb x _ ls fs of N hI (by rw [h3]; rfl) 0 (by unfold i64; omega)
  have hru := rule_fn m2 lb 0 _ ls fs of N x hI (by rw [h3]; rfl) (by decide) 0 (by unfold i64; omega)
  have e1 : ruleZ x.ns 0 (x.l.getD (0 : Int).toNat []) = 0 := by
    rw [hl, hns]
    show ruleZ [ndK 1] 0 [[[0]]] = 0
    unfold ruleZ
    simp [List.findIdx?_cons, acc_one]
  rw [if_pos (by decide), hbg] at hbe
  rw [if_pos ⟨by decide, by rw [hl]; decide⟩, e1] at hru
  replace hbe : FnL Tryz.prog 9 [.pointer (some ⟨lb, 0, none⟩), .int .i64 0] m2 (x.own lb) (.int .i64 0) := hbe
  generalize x.own lb = L3 at hL hbe hru
  conv => whnf
  repeat ((first | refine UGenReq.nilPtrNe hX rfl rfl rfl rfl rfl ?_ | (refine go1 ?_; try (clear hL; intro w hL))); conv => whnf)
  refine CallReq.lo hbe hL ?_
  clear hL
  intro w hL
  refine go ?_; try (clear hL; intro w hL)
  refine CallReq.lm (L1 := L3) (L2 := []) hru (by rw [List.append_nil]; exact hL) ?_
  clear hL
  intro m3 w hm3 hL
  refine go ?_; try (clear hL; intro w hL)
  exact RetReq.mk (hL.sublist (List.nil_sublist _)) ⟨rfl, rfl⟩
theorem nil_fn (m : Mem) (hQ : fk.TabMem m) (z b : Int) (hz : i64 z) : Fn0 Tryz.prog 5 [.int .i64 z, .int .u8 b] m fun _ u => u = .bool true := by
  refine Fn.enter (N := 64) hX Tryz.func5 rfl rfl (by show _ ≤ _; simp) (fun w0 hL => ?_)
  conv => whnf
  refine go ?_; try (clear hL; intro w hL)
  refine CallReq.pure (awake_fn m hQ) hL ?_
  clear hL
  rintro u m1 w hL hm1 rfl
  refine go ?_; try (clear hL; intro w hL)
  refine CallReq.val (stepNil_fn m1 z b 0) hL ?_
  clear hL
  intro w hL
  refine go ?_; try (clear hL; intro w hL)
  refine CallReq.val (flushNil_fn m1) hL ?_
  clear hL
  intro w hL
  refine go ?_; try (clear hL; intro w hL)
  refine CallReq.val (beginNil_fn m1 0) hL ?_
  clear hL
  intro w hL
  refine go ?_; try (clear hL; intro w hL)
  refine CallReq.val (ruleNil_fn m1 z 0) hL ?_
  clear hL
  intro w hL
  refine go ?_; try (clear hL; intro w hL)
  refine CallReq.val (deadNil_fn m1 z) hL ?_
  clear hL
  intro w hL
  refine go ?_; try (clear hL; intro w hL)
  refine CallReq.val (keptNil_fn m1) hL ?_
  clear hL
  intro w hL
  refine go ?_; try (clear hL; intro w hL)
  refine CallReq.val (madeNil_fn m1) hL ?_
  clear hL
  intro w hL
  refine go ?_; try (clear hL; intro w hL)
  refine CallReq.val (askedNil_fn m1) hL ?_
  clear hL
  intro w hL
  refine go ?_; try (clear hL; intro w hL)
  refine CallReq.val (planNil_fn m1) hL ?_
  clear hL
  intro w hL
  refine go ?_; try (clear hL; intro w hL)
  exact RetReq.mk hL ⟨rfl, rfl⟩
end Go.Proofs.YtaooenndoopgdaaGreatDoor.lz
namespace Go.Proofs.YtaooenndoopgdaaGreatDoor.lz
open Go Go.Ev Go.Proofs
theorem pow_data : (Rows.laid_internal_strconv_uint64pow10 : DataW Unit) = Lib.tabData .u64 Lib.pow10Tab := by
  unfold Lib.tabData Lib.pow10Tab Rows.laid_internal_strconv_uint64pow10
  simp only [List.range, List.range.loop, List.map_cons, List.map_nil]
  rfl
theorem pow_of {W : World} (h3 : laidMet Tryz.prog (("internal/strconv.uint64pow10", Rows.laid_internal_strconv_uint64pow10) :: []) W) : fk.TabMem (memOf W) := by
  rw [pow_data] at h3
  obtain ⟨g, hg⟩ : ∃ g, Tryz.prog.globalNamed "internal/strconv.uint64pow10" = some g := by
    obtain ⟨ps, ⟨g', t', cs, fuel, p, q, hg', _⟩, _⟩ := h3
    exact ⟨g', hg'⟩
  have hty : (Tryz.prog.globals[g]?).map (·.type) = some 295 := by
    have : ∀ g, Tryz.prog.globalNamed "internal/strconv.uint64pow10" = some g → (Tryz.prog.globals[g]?).map (·.type) = some 295 := by
      intro g hg
      obtain ⟨g0, h0⟩ : ∃ g0, g0 = Tryz.prog.globalNamed "internal/strconv.uint64pow10" := ⟨_, rfl⟩
      have h1 : (g0.bind fun g => (Tryz.prog.globals[g]?).map (·.type)) = some 295 := by rw [h0]; kernel_rfl
      rw [h0, hg] at h1
      exact h1
    exact this g hg
  have htab := Lib.tabIs_of_head hg hty Tryz.underlying295 Tryz.underlying48 (by kernel_rfl) (by kernel_rfl) h3
  unfold Lib.TabIs World.var? at htab
  rw [hg] at htab
  simp only [Option.bind_some] at htab
  cases hb : W.heap[g]? with
  | none => rw [hb] at htab; cases htab
  | some o =>
    rw [hb] at htab
    cases o with
    | cells cs t f =>
      simp only [Option.some.injEq] at htab
      subst htab
      exact ⟨g, t, f, hg, hb⟩
    | _ => cases htab
end Go.Proofs.YtaooenndoopgdaaGreatDoor.lz
