/- The walks of layer 5, frame: the statement FrameGets. -/
import Derived.Test.YtcfjdldlcdomgaaFrJ
namespace Go.Proofs.FrW
open Go Go.RowKit Go.Tk Go.Sp Go.Rg Go.Lib Go.Shelf

def gK (xs : List UInt8) : UInt8 := match frameOf xs with | some (k, _, _) => k | none => 0
def gD (xs : List UInt8) : List UInt8 := match frameOf xs with | some (_, d, _) => d | none => []
def gN (xs : List UInt8) : Nat := match frameOf xs with | some (_, _, n) => n | none => 0
theorem gD_len (xs : List UInt8) : (gD xs).length ≤ 4194304 := by
  unfold gD
  rcases hf : frameOf xs with _ | ⟨k, d, n⟩
  · simp
  · exact (frame_len hf).2.2
theorem get_out {xs : List UInt8} {w w' : World} {e : Ending} (hp : GetPost xs w e w') :
    Mk w w' ∧ ∃ dv, w'.ownsRow w.heap.size 5 1 dv (gD xs).length (bv (gD xs)) ∧ e = .returned (.tuple #[.int .u8 ((gK xs).toNat : Int), dv, .int .i64 (gN xs : Int)]) := by
  unfold GetPost at hp
  unfold gD gK gN
  rcases hf : frameOf xs with _ | ⟨k, d, n⟩ <;> rw [hf] at hp <;> exact hp

theorem lent_taken (xs : List UInt8) : (xs ++ List.replicate 8 (201 : UInt8)).take xs.length = xs := by simp

theorem str_sl {w : World} {v : Value} {n : Nat} {xs : List UInt8} (h : Sl w 1 v n (bv xs)) : (convert 22 9 v).run Try.prog w = .ok (.string ⟨xs.toArray⟩) w := by
  obtain ⟨a, cap, rfl, _, _⟩ := h.form
  exact str_of h

theorem bs_of {w : World} {v : Value} {n : Nat} {xs : List UInt8} (h : Sl w 1 v n (bv xs)) (hl : xs.length = n) : Bs w v xs := by subst hl; exact h
theorem own_ne {w w' : World} {b1 b2 n1 n2 : Nat} {v1 v2 : Value} {xs ys : List Value} (h1 : w.ownsRow b1 5 1 v1 n1 xs) (h2 : w'.ownsRow b2 5 1 v2 n2 ys) (hb : w.heap.size ≤ b2) : v1.ownBlock = none ∨ v1.ownBlock ≠ v2.ownBlock := by
  rcases e : v1.ownBlock with _ | k
  · exact .inl rfl
  · refine .inr fun e2 => ?_
    have := (h1.lt k e).2
    have := (h2.lt k e2.symm).1
    omega
theorem ne_symm {a b : Option Nat} (h : a = none ∨ a ≠ b) : b = none ∨ b ≠ a := by
  rcases h with h | h
  · subst h
    cases b with
    | none => exact .inl rfl
    | some k => exact .inr (by simp)
  · exact .inr fun e => h e.symm
theorem fr_ne {w : World} {v v' u : Value} (hf : Tk.Fr w v v') (hn : v.ownBlock = none ∨ v.ownBlock ≠ u.ownBlock) (hu : ∀ k, u.ownBlock = some k → k < w.heap.size) : v'.ownBlock = none ∨ v'.ownBlock ≠ u.ownBlock := by
  rcases hf with e | ⟨g, e, hg⟩
  · rw [e]; exact hn
  · refine .inr fun e2 => ?_
    have := hu g (by rw [← e2, e])
    omega

set_option maxRecDepth 100000 in
theorem frameGets_any (w : World) (v : Value) (xs : List UInt8) (h : Bs w v xs) (hb : xs.length ≤ 1048576) :
    Calls Try.prog 4 #[v] w fun e w' => e = .returned (.bool true) ∧ Mk w w' := by
  obtain ⟨a, cap, rfl, hc1, hc2⟩ := h.form
  have H := Lib.hid h
  clear h hc1 hc2
  go_enter Try.func4, Try.ntmps4
  go_wp2_with fail
  refine (shown_any _).mono ?_
  rintro e w1 ⟨rfl, hm⟩
  have HM1 := Lib.hid hm
  clear hm
  go_wp2_with fail
  refine (lent_any w1 _ xs (H.out.mk HM1.out) (by omega)).mono ?_
  rintro e w2 ⟨g2, rfl, ho, hm⟩
  have HO2 := Lib.hid ho
  have HM2 := Lib.hid hm
  have HM02 := Lib.hid (mk_trans HM1.out hm)
  clear ho hm
  go_wp2_with fail
  have HXL := Lib.hid (show Bs w2 (.slice (some ⟨g2, 0, none⟩) (xs.length + 8) (xs.length + 8)) (xs ++ List.replicate 8 201) by
    have := own_sl HO2.out
    rw [Bs, show (xs ++ List.replicate 8 (201 : UInt8)).length = xs.length + 8 by simp]
    exact this)
  have HX := Lib.hid (show Bs w2 (.slice (some ⟨g2, 0, none⟩) xs.length (xs.length + 8)) xs by
    simpa using Sl.taken HXL.out xs.length (by simp))
  refine (Get_any _ _ xs HX.out (by omega)).mono ?_
  intro e w3 hp
  obtain ⟨hm, cv, ho, rfl⟩ := get_out hp
  have HM3 := Lib.hid hm
  have HOC := Lib.hid ho
  clear hp hm ho
  go_wp2_with fail
  refine (Get_any _ _ xs (HX.out.mk HM3.out) (by omega)).mono ?_
  intro e w4 hp
  obtain ⟨hm, dv, ho, rfl⟩ := get_out hp
  have HM4 := Lib.hid hm
  have HM24 := Lib.hid (mk_trans HM3.out hm)
  have HOD := Lib.hid ho
  clear hp hm ho
  go_wp2_with fail
  refine (getR_any _ _ xs (H.out.mk (mk_trans HM02.out HM24.out)) (by omega)).mono ?_
  intro e w5 hp
  obtain ⟨hm, rv, ho, rfl⟩ := get_out hp
  have HM5 := Lib.hid hm
  have HM25 := Lib.hid (mk_trans HM24.out hm)
  have HOR := Lib.hid ho
  clear hp hm ho
  have hD := gD_len xs
  generalize gD xs = D at *
  generalize (gK xs) = K at *
  generalize (gN xs) = N at *
  go_wp2_with fail
  refine (still_any _ _ _ (xs ++ List.replicate 8 201) xs (HXL.out.mk HM25.out) (H.out.mk (mk_trans HM02.out HM25.out)) (by simp; omega) (by omega) rfl).mono ?_
  rintro e w6 ⟨rfl, hm⟩
  have HM6 := Lib.hid hm
  have HM26 := Lib.hid (mk_trans HM25.out hm)
  clear hm
  have HOC6 := Lib.hid (own_mk HOC.out (mk_trans HM4.out (mk_trans HM5.out HM6.out)))
  have HOD6 := Lib.hid (own_mk HOD.out (mk_trans HM5.out HM6.out))
  have HOR6 := Lib.hid (own_mk HOR.out HM6.out)
  have k1 := str_sl (own_sl HOC6.out)
  have k2 := str_sl (own_sl HOD6.out)
  have k3 := str_sl (own_sl HOR6.out)
  go_wp2_with fail
  clear k1 k2 k3
  refine (full_any w6 _ cv D 1 HOC6.out (by omega) HM26.out.size).mono ?_
  rintro e w7 ⟨u, rfl, ho, hg, hf⟩
  have HOU := Lib.hid ho
  have HM27 := Lib.hid (mk_own HM26.out HOC6.out hg)
  have HFU := Lib.hid hf
  have HOD7 := Lib.hid (HOD6.out.kept hg (ne_symm (own_ne HOC.out HOD.out (Nat.le_refl _))))
  have HOR7 := Lib.hid (HOR6.out.kept hg (ne_symm (own_ne HOC.out HOR.out HM4.out.size)))
  have HS7 := Lib.hid hg.size
  clear ho hg hf
  have k2 := str_sl (own_sl HOD7.out)
  have k3 := str_sl (own_sl HOR7.out)
  go_wp2_with fail
  clear k2 k3
  have hs := And.intro HM3.out.size (And.intro HM4.out.size (And.intro HM5.out.size (And.intro HM6.out.size HS7.out)))
  have hsd : ∀ k, dv.ownBlock = some k → k < w4.heap.size := fun k hk => (HOD.out.lt k hk).2
  refine (full_any w7 _ dv D 2 HOD7.out (by omega) (by omega)).mono ?_
  rintro e w8 ⟨u2, rfl, ho, hg, hf⟩
  have HOU2 := Lib.hid ho
  have HM28 := Lib.hid (mk_own HM27.out (own_base HOD7.out HM3.out.size) hg)
  have HOU8 := Lib.hid (HOU.out.kept hg (fr_ne HFU.out (own_ne HOC.out HOD.out (Nat.le_refl _)) (fun k hk => by have := hsd k hk; omega)))
  clear ho hg hf hs hsd
  go_wp2_with fail
  refine (all_any w8 u (List.replicate (D.length + 64) 1) 1 (bs_of (own_sl HOU8.out) (by simp)) (by simp; omega) (by simp)).mono ?_
  rintro e w9 ⟨rfl, rfl⟩
  go_wp2_with fail
  refine (all_any _ u2 (List.replicate (D.length + 64) 2) 2 (bs_of (own_sl HOU2.out) (by simp)) (by simp; omega) (by simp)).mono ?_
  rintro e w9 ⟨rfl, rfl⟩
  go_wp2_with fail
  refine (still_any _ _ _ (xs ++ List.replicate 8 201) xs (HXL.out.mk HM28.out) (H.out.mk (mk_trans HM02.out HM28.out)) (by simp; omega) (by omega) rfl).mono ?_
  rintro e w10 ⟨rfl, hm⟩
  have HM10 := Lib.hid hm
  clear hm
  go_wp2_with fail
  go_ret
  exact ⟨rfl, mk_trans HM02.out (mk_trans HM28.out HM10.out)⟩
#print axioms frameGets_any
end Go.Proofs.FrW
