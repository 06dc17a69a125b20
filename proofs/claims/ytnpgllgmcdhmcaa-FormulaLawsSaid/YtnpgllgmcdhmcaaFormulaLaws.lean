/- FormulaLaws, proved. Conditions: none beyond the row's own. -/
import Derived.Test.YtnpgllgmcdhmcaaFoDual
import Derived.Test.YtnpgllgmcdhmcaaFoAtoms
import Derived.Test.YtnpgllgmcdhmcaaFoGiven
import Derived.Test.YtnpgllgmcdhmcaaRows

namespace Go.Proofs.Ytnpgllgmcdhmcaa.fol
open Go Go.Ev Go.Proofs Go.ChangeShapes Go.WideShapes Go.ChangeAt Go.RowKit Go.Proofs.Ytnpgllgmcdhmcaa.fo

theorem sm_or {A : Prt} {f g r : Fml} (s1 : Sm A f) (s2 : Sm A g) (k : Canon (f ++ g) r) : Sm A r := ⟨k.formed, k.in_ (s1.in_.app s2.in_)⟩
theorem sm_and {A : Prt} {f g r : Fml} (s1 : Sm A f) (s2 : Sm A g) (k : Canon (prods f g) r) : Sm A r := ⟨k.formed, k.in_ (prods_in s1.in_ s2.in_)⟩
theorem sm_dl {A : Prt} {f r : Fml} (k : Dl A f r) : Sm A r := ⟨k.formed, k.in_⟩
theorem tri_fs {m0 m : Mem} {S : List Nat} {w0 w : World} {b : Nat} {v1 v2 v3 : Value} {f g h : Fml} {L : Ev.Own} (h1 : FmV m v1 f) (h2 : FmV m v2 g) (h3 : FmV m v3 h) (hL : Ev.Loc m0 S w0 m ((b, .cells (toArr [v1, v2, v3]) 22 (0, 0)) :: L) w) :
    ∃ m', Ev.Loc m0 S w0 m' L w ∧ Mem.Le m m' ∧ FsV m' (.slice (some ⟨b, 0, none⟩) 3 3) [f, g, h] := by
  obtain ⟨m1, hL1, hm1, hfs⟩ := freeze1 (l := [f, g, h]) (R := fun u x => FmV m u x) (L2 := L) (OwnS.full (te := 22) (g := b) (n := 3) (cur := [v1, v2, v3]) (by decide) rfl) hL rfl (by
    intro i x hx
    match i, hx with
    | 0, hx => cases hx; exact ⟨_, rfl, h1⟩
    | 1, hx => cases hx; exact ⟨_, rfl, h2⟩
    | 2, hx => cases hx; exact ⟨_, rfl, h3⟩
    | i + 3, hx => cases hx)
  exact ⟨m1, hL1, hm1, Sl.le hfs (Mem.Le.refl _) fun _ _ _ ⟨u, e, h⟩ => ⟨u, e, h.le hm1⟩⟩
theorem few_len {f : Fml} {n : Nat} (h : sz f ≤ n) (hn : n ≤ 1000) : f.length ≤ 1000 ∧ ∀ p ∈ f, p.length ≤ 1000 := by
  have := sz_le f
  exact ⟨by omega, fun p hp => by have := this.2 p hp; omega⟩
theorem in_of {f : Fml} {l : Prt} {fs : List Fml} (h : ∀ z ∈ fs.flatten.flatten, z ∈ l) (hf : f ∈ fs) : In l f := fun p hp n hn => h n (List.mem_flatten.2 ⟨p, List.mem_flatten.2 ⟨f, hf, hp⟩, hn⟩)

set_option maxHeartbeats 8000000 in
set_option maxRecDepth 20000 in
theorem walk (m : Mem) (v1 v2 v3 : Value) (f g h : Fml) (h1 : FmV m v1 f) (h2 : FmV m v2 g) (h3 : FmV m v3 h) (k1 : Held f) (k2 : Held g) (k3 : Held h) :
    Fn0 Try.prog 4 [v1, v2, v3] m fun _ u => u = .bool true := by
  have hmx : maxLen = 9223372036854775807 := rfl
  obtain ⟨A1, n1, c1, rfl, -⟩ := id h1
  obtain ⟨A2, n2, c2, rfl, -⟩ := id h2
  obtain ⟨A3, n3, c3, rfl, -⟩ := id h3
  refine Fn.enter (N := 174) hX Try.func4 rfl rfl (by show _ ≤ _; simp) (fun w0 hL => ?_)
  conv => whnf
  conv => whnf
  repeat ((first | refine zT ?_ | refine zF ?_ | refine zL hX hL ?_ | refine zB hX hL ?_ | (refine zS hX hL ?_; clear hL; intro w hL) | refine zI ?_ | refine zG hX ?_ | refine zO ?_); conv => whnf)
  refine CallReq.val (awake_fn m) hL ?_
  clear hL
  intro w hL
  conv => whnf
  repeat ((first | refine zT ?_ | refine zF ?_ | refine zL hX hL ?_ | refine zB hX hL ?_ | (refine zS hX hL ?_; clear hL; intro w hL) | refine zI ?_ | refine zG hX ?_ | refine zO ?_); conv => whnf)
  refine CallReq.pure (few_fn m _ _ f g h1 h2 k1 k2) hL ?_
  clear hL
  rintro u m' w hL hle ⟨b1, rfl, hb1⟩
  replace hL := hL.weaken hle (Mem.Le.refl _)
  clear hle
  conv => whnf
  repeat ((first | refine zT ?_ | refine zF ?_ | refine zL hX hL ?_ | refine zB hX hL ?_ | (refine zS hX hL ?_; clear hL; intro w hL) | refine zI ?_ | refine zG hX ?_ | refine zO ?_); conv => whnf)
  refine BrReq.not ?_
  refine BrReq.bool (fun hx1 => ?_) (fun hx1 => ?_)
  rotate_left
  · subst hx1
    conv => whnf
    repeat ((first | refine zT ?_ | refine zF ?_ | refine zL hX hL ?_ | refine zB hX hL ?_ | (refine zS hX hL ?_; clear hL; intro w hL) | refine zI ?_ | refine zG hX ?_ | refine zO ?_); conv => whnf)
    refine CallReq.val (awake_fn _) hL ?_
    clear hL
    intro w hL
    conv => whnf
    repeat ((first | refine zT ?_ | refine zF ?_ | refine zL hX hL ?_ | refine zB hX hL ?_ | (refine zS hX hL ?_; clear hL; intro w hL) | refine zI ?_ | refine zG hX ?_ | refine zO ?_); conv => whnf)
    exact RetReq.mk hL ⟨rfl, rfl⟩
  replace hb1 := hb1 hx1
  subst hx1
  conv => whnf
  repeat ((first | refine zT ?_ | refine zF ?_ | refine zL hX hL ?_ | refine zB hX hL ?_ | (refine zS hX hL ?_; clear hL; intro w hL) | refine zI ?_ | refine zG hX ?_ | refine zO ?_); conv => whnf)
  refine CallReq.pure (few_fn m _ _ g h h2 h3 k2 k3) hL ?_
  clear hL
  rintro u m' w hL hle ⟨b2, rfl, hb2⟩
  replace hL := hL.weaken hle (Mem.Le.refl _)
  clear hle
  conv => whnf
  repeat ((first | refine zT ?_ | refine zF ?_ | refine zL hX hL ?_ | refine zB hX hL ?_ | (refine zS hX hL ?_; clear hL; intro w hL) | refine zI ?_ | refine zG hX ?_ | refine zO ?_); conv => whnf)
  refine BrReq.not ?_
  refine BrReq.bool (fun hx2 => ?_) (fun hx2 => ?_)
  rotate_left
  · subst hx2
    conv => whnf
    repeat ((first | refine zT ?_ | refine zF ?_ | refine zL hX hL ?_ | refine zB hX hL ?_ | (refine zS hX hL ?_; clear hL; intro w hL) | refine zI ?_ | refine zG hX ?_ | refine zO ?_); conv => whnf)
    refine CallReq.val (awake_fn _) hL ?_
    clear hL
    intro w hL
    conv => whnf
    repeat ((first | refine zT ?_ | refine zF ?_ | refine zL hX hL ?_ | refine zB hX hL ?_ | (refine zS hX hL ?_; clear hL; intro w hL) | refine zI ?_ | refine zG hX ?_ | refine zO ?_); conv => whnf)
    exact RetReq.mk hL ⟨rfl, rfl⟩
  replace hb2 := hb2 hx2
  subst hx2
  conv => whnf
  repeat ((first | refine zT ?_ | refine zF ?_ | refine zL hX hL ?_ | refine zB hX hL ?_ | (refine zS hX hL ?_; clear hL; intro w hL) | refine zI ?_ | refine zG hX ?_ | refine zO ?_); conv => whnf)
  refine CallReq.pure (few_fn m _ _ f h h1 h3 k1 k3) hL ?_
  clear hL
  rintro u m' w hL hle ⟨b3, rfl, hb3⟩
  replace hL := hL.weaken hle (Mem.Le.refl _)
  clear hle
  conv => whnf
  repeat ((first | refine zT ?_ | refine zF ?_ | refine zL hX hL ?_ | refine zB hX hL ?_ | (refine zS hX hL ?_; clear hL; intro w hL) | refine zI ?_ | refine zG hX ?_ | refine zO ?_); conv => whnf)
  refine BrReq.not ?_
  refine BrReq.bool (fun hx3 => ?_) (fun hx3 => ?_)
  rotate_left
  · subst hx3
    conv => whnf
    repeat ((first | refine zT ?_ | refine zF ?_ | refine zL hX hL ?_ | refine zB hX hL ?_ | (refine zS hX hL ?_; clear hL; intro w hL) | refine zI ?_ | refine zG hX ?_ | refine zO ?_); conv => whnf)
    refine CallReq.val (awake_fn _) hL ?_
    clear hL
    intro w hL
    conv => whnf
    repeat ((first | refine zT ?_ | refine zF ?_ | refine zL hX hL ?_ | refine zB hX hL ?_ | (refine zS hX hL ?_; clear hL; intro w hL) | refine zI ?_ | refine zG hX ?_ | refine zO ?_); conv => whnf)
    exact RetReq.mk hL ⟨rfl, rfl⟩
  replace hb3 := hb3 hx3
  subst hx3
  conv => whnf
  repeat ((first | refine zT ?_ | refine zF ?_ | refine zL hX hL ?_ | refine zB hX hL ?_ | (refine zS hX hL ?_; clear hL; intro w hL) | refine zI ?_ | refine zG hX ?_ | refine zO ?_); conv => whnf)
  refine CallReq.pure (refFormed_fn m _ f h1) hL ?_
  clear hL
  rintro u m' w hL hle rfl
  replace hL := hL.weaken hle (Mem.Le.refl _)
  clear hle
  conv => whnf
  repeat ((first | refine zT ?_ | refine zF ?_ | refine zL hX hL ?_ | refine zB hX hL ?_ | (refine zS hX hL ?_; clear hL; intro w hL) | refine zI ?_ | refine zG hX ?_ | refine zO ?_); conv => whnf)
  refine BrReq.not ?_
  refine BrReq.bool (fun hx => ?_) (fun hx => ?_)
  rotate_left
  · rw [hx]
    conv => whnf
    repeat ((first | refine zT ?_ | refine zF ?_ | refine zL hX hL ?_ | refine zB hX hL ?_ | (refine zS hX hL ?_; clear hL; intro w hL) | refine zI ?_ | refine zG hX ?_ | refine zO ?_); conv => whnf)
    refine CallReq.val (awake_fn _) hL ?_
    clear hL
    intro w hL
    conv => whnf
    repeat ((first | refine zT ?_ | refine zF ?_ | refine zL hX hL ?_ | refine zB hX hL ?_ | (refine zS hX hL ?_; clear hL; intro w hL) | refine zI ?_ | refine zG hX ?_ | refine zO ?_); conv => whnf)
    exact RetReq.mk hL ⟨rfl, rfl⟩
  have f1 := dec_iff.1 hx
  rw [hx]
  clear hx
  conv => whnf
  repeat ((first | refine zT ?_ | refine zF ?_ | refine zL hX hL ?_ | refine zB hX hL ?_ | (refine zS hX hL ?_; clear hL; intro w hL) | refine zI ?_ | refine zG hX ?_ | refine zO ?_); conv => whnf)
  refine CallReq.pure (refFormed_fn m _ g h2) hL ?_
  clear hL
  rintro u m' w hL hle rfl
  replace hL := hL.weaken hle (Mem.Le.refl _)
  clear hle
  conv => whnf
  repeat ((first | refine zT ?_ | refine zF ?_ | refine zL hX hL ?_ | refine zB hX hL ?_ | (refine zS hX hL ?_; clear hL; intro w hL) | refine zI ?_ | refine zG hX ?_ | refine zO ?_); conv => whnf)
  refine BrReq.not ?_
  refine BrReq.bool (fun hx => ?_) (fun hx => ?_)
  rotate_left
  · rw [hx]
    conv => whnf
    repeat ((first | refine zT ?_ | refine zF ?_ | refine zL hX hL ?_ | refine zB hX hL ?_ | (refine zS hX hL ?_; clear hL; intro w hL) | refine zI ?_ | refine zG hX ?_ | refine zO ?_); conv => whnf)
    refine CallReq.val (awake_fn _) hL ?_
    clear hL
    intro w hL
    conv => whnf
    repeat ((first | refine zT ?_ | refine zF ?_ | refine zL hX hL ?_ | refine zB hX hL ?_ | (refine zS hX hL ?_; clear hL; intro w hL) | refine zI ?_ | refine zG hX ?_ | refine zO ?_); conv => whnf)
    exact RetReq.mk hL ⟨rfl, rfl⟩
  have f2 := dec_iff.1 hx
  rw [hx]
  clear hx
  conv => whnf
  repeat ((first | refine zT ?_ | refine zF ?_ | refine zL hX hL ?_ | refine zB hX hL ?_ | (refine zS hX hL ?_; clear hL; intro w hL) | refine zI ?_ | refine zG hX ?_ | refine zO ?_); conv => whnf)
  refine CallReq.pure (refFormed_fn m _ h h3) hL ?_
  clear hL
  rintro u m' w hL hle rfl
  replace hL := hL.weaken hle (Mem.Le.refl _)
  clear hle
  conv => whnf
  repeat ((first | refine zT ?_ | refine zF ?_ | refine zL hX hL ?_ | refine zB hX hL ?_ | (refine zS hX hL ?_; clear hL; intro w hL) | refine zI ?_ | refine zG hX ?_ | refine zO ?_); conv => whnf)
  refine BrReq.not ?_
  refine BrReq.bool (fun hx => ?_) (fun hx => ?_)
  rotate_left
  · rw [hx]
    conv => whnf
    repeat ((first | refine zT ?_ | refine zF ?_ | refine zL hX hL ?_ | refine zB hX hL ?_ | (refine zS hX hL ?_; clear hL; intro w hL) | refine zI ?_ | refine zG hX ?_ | refine zO ?_); conv => whnf)
    refine CallReq.val (awake_fn _) hL ?_
    clear hL
    intro w hL
    conv => whnf
    repeat ((first | refine zT ?_ | refine zF ?_ | refine zL hX hL ?_ | refine zB hX hL ?_ | (refine zS hX hL ?_; clear hL; intro w hL) | refine zI ?_ | refine zG hX ?_ | refine zO ?_); conv => whnf)
    exact RetReq.mk hL ⟨rfl, rfl⟩
  have f3 := dec_iff.1 hx
  rw [hx]
  clear hx
  conv => whnf
  repeat ((first | refine zT ?_ | refine zF ?_ | refine zL hX hL ?_ | refine zB hX hL ?_ | (refine zS hX hL ?_; clear hL; intro w hL) | refine zI ?_ | refine zG hX ?_ | refine zO ?_); conv => whnf)
  refine NewReq.mk hL ?_
  clear hL
  intro b70 w hL
  conv => whnf
  obtain ⟨ma, hLa, hma, hfs⟩ := tri_fs h1 h2 h3 (show Ev.Loc m [] w0 m ((b70, .cells (toArr [.slice A1 n1 c1, .slice A2 n2 c2, .slice A3 n3 c3]) 22 (0, 0)) :: []) w from hL)
  clear hL
  have hL := hLa
  clear hLa
  replace h1 := h1.le hma
  replace h2 := h2.le hma
  replace h3 := h3.le hma
  conv => whnf
  repeat ((first | refine zT ?_ | refine zF ?_ | refine zL hX hL ?_ | refine zB hX hL ?_ | (refine zS hX hL ?_; clear hL; intro w hL) | refine zI ?_ | refine zG hX ?_ | refine zO ?_); conv => whnf)
  refine CallReq.pure (atoms_fn ma _ _ hfs (by simp) (fun x hx => by
    rcases List.mem_cons.1 hx with rfl | hx
    · exact few_len (n := 300) (by omega) (by omega)
    · rcases List.mem_cons.1 hx with rfl | hx
      · exact few_len (n := 300) (by omega) (by omega)
      · rw [List.mem_singleton.1 hx]; exact few_len (n := 300) (by omega) (by omega))) hL ?_
  clear hL
  rintro u mb w hL hle ⟨A, hAv, hAin⟩
  obtain ⟨Aa, na, ca, rfl, hna, -⟩ := id hAv
  replace h1 := h1.le hle
  replace h2 := h2.le hle
  replace h3 := h3.le hle
  clear hle
  conv => whnf
  repeat ((first | refine zT ?_ | refine zF ?_ | refine zL hX hL ?_ | refine zB hX hL ?_ | (refine zS hX hL ?_; clear hL; intro w hL) | refine zI ?_ | refine zG hX ?_ | refine zO ?_); conv => whnf)
  refine BrReq.dec (fun hgt => ?_) (fun hgt => ?_)
  · conv => whnf
    repeat ((first | refine zT ?_ | refine zF ?_ | refine zL hX hL ?_ | refine zB hX hL ?_ | (refine zS hX hL ?_; clear hL; intro w hL) | refine zI ?_ | refine zG hX ?_ | refine zO ?_); conv => whnf)
    refine CallReq.val (awake_fn _) hL ?_
    clear hL
    intro w hL
    conv => whnf
    repeat ((first | refine zT ?_ | refine zF ?_ | refine zL hX hL ?_ | refine zB hX hL ?_ | (refine zS hX hL ?_; clear hL; intro w hL) | refine zI ?_ | refine zG hX ?_ | refine zO ?_); conv => whnf)
    exact RetReq.mk hL ⟨rfl, rfl⟩
  have hA : A.length ≤ 9 := by omega
  have s1 : Sm A f := ⟨f1, in_of hAin (by simp)⟩
  have s2 : Sm A g := ⟨f2, in_of hAin (by simp)⟩
  have s3 : Sm A h := ⟨f3, in_of hAin (by simp)⟩
  clear hAv hAin hfs hgt f1 f2 f3 hb1 hb2 hb3 k1 k2 k3
  conv => whnf
  repeat ((first | refine zT ?_ | refine zF ?_ | refine zL hX hL ?_ | refine zB hX hL ?_ | (refine zS hX hL ?_; clear hL; intro w hL) | refine zI ?_ | refine zG hX ?_ | refine zO ?_); conv => whnf)
  refine CallReq.pure (Or_fn _ _ _ f g A hA h1 h2 s1 s2) hL ?_
  clear hL
  rintro u ma w hL hle ⟨va, ra, rfl, ha, ka⟩
  obtain ⟨Aa, na, ca, rfl, -⟩ := id ha
  replace h1 := h1.le hle
  replace h2 := h2.le hle
  replace h3 := h3.le hle
  clear hle
  have sa := sm_or s1 s2 ka
  conv => whnf
  repeat ((first | refine zT ?_ | refine zF ?_ | refine zL hX hL ?_ | refine zB hX hL ?_ | (refine zS hX hL ?_; clear hL; intro w hL) | refine zI ?_ | refine zG hX ?_ | refine zO ?_); conv => whnf)
  refine CallReq.pure (Or_fn _ _ _ g f A hA h2 h1 s2 s1) hL ?_
  clear hL
  rintro u mb w hL hle ⟨vb, rb, rfl, hb, kb⟩
  obtain ⟨Ab, nb, cb, rfl, -⟩ := id hb
  replace h1 := h1.le hle
  replace h2 := h2.le hle
  replace h3 := h3.le hle
  replace ha := ha.le hle
  clear hle
  have sb := sm_or s2 s1 kb
  conv => whnf
  repeat ((first | refine zT ?_ | refine zF ?_ | refine zL hX hL ?_ | refine zB hX hL ?_ | (refine zS hX hL ?_; clear hL; intro w hL) | refine zI ?_ | refine zG hX ?_ | refine zO ?_); conv => whnf)
  refine CallReq.pure (And_fn _ _ _ f g A hA h1 h2 s1 s2) hL ?_
  clear hL
  rintro u mc w hL hle ⟨vc, rc, rfl, hc, kc⟩
  obtain ⟨Ac, nc, cc, rfl, -⟩ := id hc
  replace h1 := h1.le hle
  replace h2 := h2.le hle
  replace h3 := h3.le hle
  replace ha := ha.le hle
  replace hb := hb.le hle
  clear hle
  have sc := sm_and s1 s2 kc
  conv => whnf
  repeat ((first | refine zT ?_ | refine zF ?_ | refine zL hX hL ?_ | refine zB hX hL ?_ | (refine zS hX hL ?_; clear hL; intro w hL) | refine zI ?_ | refine zG hX ?_ | refine zO ?_); conv => whnf)
  refine CallReq.pure (And_fn _ _ _ g f A hA h2 h1 s2 s1) hL ?_
  clear hL
  rintro u md w hL hle ⟨vd, rd, rfl, hd, kd⟩
  obtain ⟨Ad, nd, cd, rfl, -⟩ := id hd
  replace h1 := h1.le hle
  replace h2 := h2.le hle
  replace h3 := h3.le hle
  replace ha := ha.le hle
  replace hb := hb.le hle
  replace hc := hc.le hle
  clear hle
  have sd := sm_and s2 s1 kd
  conv => whnf
  repeat ((first | refine zT ?_ | refine zF ?_ | refine zL hX hL ?_ | refine zB hX hL ?_ | (refine zS hX hL ?_; clear hL; intro w hL) | refine zI ?_ | refine zG hX ?_ | refine zO ?_); conv => whnf)
  refine CallReq.pure (And_fn _ _ _ f f A hA h1 h1 s1 s1) hL ?_
  clear hL
  rintro u mx w hL hle ⟨vx, rx, rfl, hx, kx⟩
  obtain ⟨Ax, nx, cx, rfl, -⟩ := id hx
  replace h1 := h1.le hle
  replace h2 := h2.le hle
  replace h3 := h3.le hle
  replace ha := ha.le hle
  replace hb := hb.le hle
  replace hc := hc.le hle
  replace hd := hd.le hle
  clear hle
  have sx := sm_and s1 s1 kx
  conv => whnf
  repeat ((first | refine zT ?_ | refine zF ?_ | refine zL hX hL ?_ | refine zB hX hL ?_ | (refine zS hX hL ?_; clear hL; intro w hL) | refine zI ?_ | refine zG hX ?_ | refine zO ?_); conv => whnf)
  refine CallReq.pure (Or_fn _ _ _ f f A hA h1 h1 s1 s1) hL ?_
  clear hL
  rintro u my w hL hle ⟨vy, ry, rfl, hy, ky⟩
  obtain ⟨Ay, ny, cy, rfl, -⟩ := id hy
  replace h1 := h1.le hle
  replace h2 := h2.le hle
  replace h3 := h3.le hle
  replace ha := ha.le hle
  replace hb := hb.le hle
  replace hc := hc.le hle
  replace hd := hd.le hle
  replace hx := hx.le hle
  clear hle
  have sy := sm_or s1 s1 ky
  conv => whnf
  repeat ((first | refine zT ?_ | refine zF ?_ | refine zL hX hL ?_ | refine zB hX hL ?_ | (refine zS hX hL ?_; clear hL; intro w hL) | refine zI ?_ | refine zG hX ?_ | refine zO ?_); conv => whnf)
  refine CallReq.pure (Or_fn _ _ _ g h A hA h2 h3 s2 s3) hL ?_
  clear hL
  rintro u mp w hL hle ⟨vp, rp, rfl, hp, kp⟩
  obtain ⟨Ap, np, cp, rfl, -⟩ := id hp
  replace h1 := h1.le hle
  replace h2 := h2.le hle
  replace h3 := h3.le hle
  replace ha := ha.le hle
  replace hb := hb.le hle
  replace hc := hc.le hle
  replace hd := hd.le hle
  replace hx := hx.le hle
  replace hy := hy.le hle
  clear hle
  have sp := sm_or s2 s3 kp
  conv => whnf
  repeat ((first | refine zT ?_ | refine zF ?_ | refine zL hX hL ?_ | refine zB hX hL ?_ | (refine zS hX hL ?_; clear hL; intro w hL) | refine zI ?_ | refine zG hX ?_ | refine zO ?_); conv => whnf)
  refine CallReq.pure (And_fn _ _ _ f rp A hA h1 hp s1 sp) hL ?_
  clear hL
  rintro u mq w hL hle ⟨vq, rq, rfl, hq, kq⟩
  obtain ⟨Aq, nq, cq, rfl, -⟩ := id hq
  replace h1 := h1.le hle
  replace h2 := h2.le hle
  replace h3 := h3.le hle
  replace ha := ha.le hle
  replace hb := hb.le hle
  replace hc := hc.le hle
  replace hd := hd.le hle
  replace hx := hx.le hle
  replace hy := hy.le hle
  replace hp := hp.le hle
  clear hle
  have sq := sm_and s1 sp kq
  conv => whnf
  repeat ((first | refine zT ?_ | refine zF ?_ | refine zL hX hL ?_ | refine zB hX hL ?_ | (refine zS hX hL ?_; clear hL; intro w hL) | refine zI ?_ | refine zG hX ?_ | refine zO ?_); conv => whnf)
  refine CallReq.pure (And_fn _ _ _ f h A hA h1 h3 s1 s3) hL ?_
  clear hL
  rintro u mr w hL hle ⟨vr, rr, rfl, hr, kr⟩
  obtain ⟨Ar, nr, cr, rfl, -⟩ := id hr
  replace h1 := h1.le hle
  replace h2 := h2.le hle
  replace h3 := h3.le hle
  replace ha := ha.le hle
  replace hb := hb.le hle
  replace hc := hc.le hle
  replace hd := hd.le hle
  replace hx := hx.le hle
  replace hy := hy.le hle
  replace hp := hp.le hle
  replace hq := hq.le hle
  clear hle
  have sr := sm_and s1 s3 kr
  conv => whnf
  repeat ((first | refine zT ?_ | refine zF ?_ | refine zL hX hL ?_ | refine zB hX hL ?_ | (refine zS hX hL ?_; clear hL; intro w hL) | refine zI ?_ | refine zG hX ?_ | refine zO ?_); conv => whnf)
  refine CallReq.pure (Or_fn _ _ _ rc rr A hA hc hr sc sr) hL ?_
  clear hL
  rintro u ms w hL hle ⟨vs, rs, rfl, hs, ks⟩
  obtain ⟨As, ns, cs, rfl, -⟩ := id hs
  replace h1 := h1.le hle
  replace h2 := h2.le hle
  replace h3 := h3.le hle
  replace ha := ha.le hle
  replace hb := hb.le hle
  replace hc := hc.le hle
  replace hd := hd.le hle
  replace hx := hx.le hle
  replace hy := hy.le hle
  replace hp := hp.le hle
  replace hq := hq.le hle
  replace hr := hr.le hle
  clear hle
  have ss := sm_or sc sr ks
  conv => whnf
  repeat ((first | refine zT ?_ | refine zF ?_ | refine zL hX hL ?_ | refine zB hX hL ?_ | (refine zS hX hL ?_; clear hL; intro w hL) | refine zI ?_ | refine zG hX ?_ | refine zO ?_); conv => whnf)
  refine CallReq.pure (Dual_fn _ _ f A hA h1 s1) hL ?_
  clear hL
  rintro u mt w hL hle ⟨vt, rt, rfl, ht, kt⟩
  obtain ⟨At, nt, ct, rfl, -⟩ := id ht
  replace h1 := h1.le hle
  replace h2 := h2.le hle
  replace h3 := h3.le hle
  replace ha := ha.le hle
  replace hb := hb.le hle
  replace hc := hc.le hle
  replace hd := hd.le hle
  replace hx := hx.le hle
  replace hy := hy.le hle
  replace hp := hp.le hle
  replace hq := hq.le hle
  replace hr := hr.le hle
  replace hs := hs.le hle
  clear hle
  have st := sm_dl kt
  conv => whnf
  repeat ((first | refine zT ?_ | refine zF ?_ | refine zL hX hL ?_ | refine zB hX hL ?_ | (refine zS hX hL ?_; clear hL; intro w hL) | refine zI ?_ | refine zG hX ?_ | refine zO ?_); conv => whnf)
  refine CallReq.pure (Dual_fn _ _ rt A hA ht st) hL ?_
  clear hL
  rintro u mu w hL hle ⟨vu, ru, rfl, hu, ku⟩
  obtain ⟨Au, nu, cu, rfl, -⟩ := id hu
  replace h1 := h1.le hle
  replace h2 := h2.le hle
  replace h3 := h3.le hle
  replace ha := ha.le hle
  replace hb := hb.le hle
  replace hc := hc.le hle
  replace hd := hd.le hle
  replace hx := hx.le hle
  replace hy := hy.le hle
  replace hp := hp.le hle
  replace hq := hq.le hle
  replace hr := hr.le hle
  replace hs := hs.le hle
  replace ht := ht.le hle
  clear hle
  have su := sm_dl ku
  conv => whnf
  repeat ((first | refine zT ?_ | refine zF ?_ | refine zL hX hL ?_ | refine zB hX hL ?_ | (refine zS hX hL ?_; clear hL; intro w hL) | refine zI ?_ | refine zG hX ?_ | refine zO ?_); conv => whnf)
  have e : ra = rb := canon ka.formed kb.formed fun S => by rw [ka.holds, kb.holds, holds_app, holds_app]; exact Or.comm
  have ks := same_fn _ _ _ _ _ ha hb
  rw [decide_eq_true e] at ks
  refine CallReq.val ks hL ?_
  clear hL ks e
  intro w hL
  conv => whnf
  repeat ((first | refine zT ?_ | refine zF ?_ | refine zL hX hL ?_ | refine zB hX hL ?_ | (refine zS hX hL ?_; clear hL; intro w hL) | refine zI ?_ | refine zG hX ?_ | refine zO ?_); conv => whnf)
  have e : rc = rd := canon kc.formed kd.formed fun S => by rw [kc.holds, kd.holds, prods_holds, prods_holds]; exact And.comm
  have ks := same_fn _ _ _ _ _ hc hd
  rw [decide_eq_true e] at ks
  refine CallReq.val ks hL ?_
  clear hL ks e
  intro w hL
  conv => whnf
  repeat ((first | refine zT ?_ | refine zF ?_ | refine zL hX hL ?_ | refine zB hX hL ?_ | (refine zS hX hL ?_; clear hL; intro w hL) | refine zI ?_ | refine zG hX ?_ | refine zO ?_); conv => whnf)
  have e : rx = f := canon kx.formed s1.formed fun S => by rw [kx.holds, prods_holds]; exact and_self_iff
  have ks := same_fn _ _ _ _ _ hx h1
  rw [decide_eq_true e] at ks
  refine CallReq.val ks hL ?_
  clear hL ks e
  intro w hL
  conv => whnf
  repeat ((first | refine zT ?_ | refine zF ?_ | refine zL hX hL ?_ | refine zB hX hL ?_ | (refine zS hX hL ?_; clear hL; intro w hL) | refine zI ?_ | refine zG hX ?_ | refine zO ?_); conv => whnf)
  have e : ry = f := canon ky.formed s1.formed fun S => by rw [ky.holds, holds_app]; exact or_self_iff
  have ks := same_fn _ _ _ _ _ hy h1
  rw [decide_eq_true e] at ks
  refine CallReq.val ks hL ?_
  clear hL ks e
  intro w hL
  conv => whnf
  repeat ((first | refine zT ?_ | refine zF ?_ | refine zL hX hL ?_ | refine zB hX hL ?_ | (refine zS hX hL ?_; clear hL; intro w hL) | refine zI ?_ | refine zG hX ?_ | refine zO ?_); conv => whnf)
  have e : rq = rs := canon kq.formed ks.formed fun S => by rw [kq.holds, prods_holds, kp.holds, holds_app, ks.holds, holds_app, kc.holds, kr.holds, prods_holds, prods_holds]; exact and_or_left
  have ks := same_fn _ _ _ _ _ hq hs
  rw [decide_eq_true e] at ks
  refine CallReq.val ks hL ?_
  clear hL ks e
  intro w hL
  conv => whnf
  repeat ((first | refine zT ?_ | refine zF ?_ | refine zL hX hL ?_ | refine zB hX hL ?_ | (refine zS hX hL ?_; clear hL; intro w hL) | refine zI ?_ | refine zG hX ?_ | refine zO ?_); conv => whnf)
  have e : ru = f := canon ku.formed s1.formed fun S => dual_twice s1.in_ kt ku S
  have ks := same_fn _ _ _ _ _ hu h1
  rw [decide_eq_true e] at ks
  refine CallReq.val ks hL ?_
  clear hL ks e
  intro w hL
  conv => whnf
  repeat ((first | refine zT ?_ | refine zF ?_ | refine zL hX hL ?_ | refine zB hX hL ?_ | (refine zS hX hL ?_; clear hL; intro w hL) | refine zI ?_ | refine zG hX ?_ | refine zO ?_); conv => whnf)
  exact RetReq.mk hL ⟨rfl, rfl⟩

theorem contract (m : Mem) (vs : List Value) (hl : vs.length = Try.f4.params.size) (hg : ∀ (j : Nat) t v, Try.f4.params.toList[j]? = some t → vs[j]? = some v → Given X m t v) :
    Ev.Fn Try.prog 4 vs m [] fun _ _ v => v = .bool true := by
  match vs, hl with
  | [va, vb, vc], _ =>
    obtain ⟨f, h1, k1, -⟩ := given_fm (hg 0 23 va rfl rfl)
    obtain ⟨g, h2, k2, -⟩ := given_fm (hg 1 23 vb rfl rfl)
    obtain ⟨h, h3, k3, -⟩ := given_fm (hg 2 23 vc rfl rfl)
    exact (walk m va vb vc f g h h1 h2 h3 k1 k2 k3).mono fun _ _ _ _ h => h.2

theorem spec (H : Type) (ds : List (DataW H)) (h : ds.length = Try.f4.params.size) : Rows.formulaLawsSpec.fn H ds = { results := [.lit (.bool true)], args := ds } := by
  match ds, h with
  | [_, _, _], _ => rfl

set_option maxRecDepth 100000 in
theorem lifted (os : Os) (started : os.Started) (H : Type) (enc : TypeId × Value → H) :
    ReturnsInHanded {} Try.checked os 4 .any (Rows.formulaLawsSpec.pre6 enc Try.prog Try.f4 Rows.formulaLawsRow.domain false) (Rows.formulaLawsSpec.post enc Try.prog Try.f4 false true false false) := by
  refine returnsInHanded_of_change_sized (C := Try.checked) (by kernel_rfl) started (by kernel_rfl) Try.func4
    (ChangeSpec.witness6 (enc := enc) (C := Try.checked) false ⟨#[], #[.slice none 0 0, .slice none 0 0, .slice none 0 0], []⟩ 8 (by kernel_rfl) (by kernel_rfl) (by kernel_rfl) (by kernel_rfl)) ?_
  intro W base args ds gs before hval hW _ hsz _
  exact law_core hX (by kernel_rfl) rfl rfl Try.underlying4 (by decide +kernel) (fun H ds h => spec H ds h) contract W base args ds gs before hval hW hsz

set_option maxRecDepth 100000 in
theorem proved : Rows.FormulaLawsSaid :=
  OpenClaim.holds_of_wide 4 Try.f4 rfl rfl rfl rfl rfl rfl rfl ⟨rfl, rfl, rfl, rfl, rfl⟩ rfl rfl rfl rfl rfl (by kernel_rfl) Try.func4 (by kernel_rfl)
    (of_decide_eq_true (by kernel_rfl)) (by unfold Func.isWrapper; first | (rw [if_pos (by decide +kernel)]; kernel_rfl) | (rw [if_neg (by decide +kernel)]; exact ⟨rfl, rfl⟩))
    (fun os started H enc _ => lifted os started H enc)
end Go.Proofs.Ytnpgllgmcdhmcaa.fol
