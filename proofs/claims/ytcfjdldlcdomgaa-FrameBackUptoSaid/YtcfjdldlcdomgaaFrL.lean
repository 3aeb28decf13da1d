/- The walks of layer 5, frame: the statement FramePuts. -/
import Derived.Test.YtcfjdldlcdomgaaFrK
namespace Go.Proofs.FrW
open Go Go.RowKit Go.Tk Go.Sp Go.Rg Go.Lib Go.Shelf

def pZ (b : List UInt8) (k : UInt8) (dat : List UInt8) : List UInt8 := if 4194304 < dat.length then [] else b ++ frm k dat
def pE (dat : List UInt8) : Nat := if 4194304 < dat.length then 50 else 0
theorem pZ_len (b : List UInt8) (k : UInt8) (dat : List UInt8) : (pZ b k dat).length ≤ b.length + dat.length + 9 := by
  unfold pZ
  split
  · simp
  · rw [List.length_append, frm_length]; omega
theorem put_out {b : List UInt8} {k : UInt8} {dat : List UInt8} {w w' : World} {e : Ending} (hp : PutPost b k dat w e w') :
    Mk w w' ∧ ∃ v, w'.ownsRow w.heap.size 5 1 v (pZ b k dat).length (bv (pZ b k dat)) ∧ e = .returned (.tuple #[v, .int .i64 (pE dat : Int)]) := by
  unfold PutPost at hp
  unfold pZ pE
  obtain ⟨hm, hp⟩ := hp
  refine ⟨hm, ?_⟩
  split at hp
  · rename_i h
    rw [if_pos h, if_pos h]
    subst hp
    exact ⟨_, World.ownsRow_nil _ _ _ _, rfl⟩
  · rename_i h
    rw [if_neg h, if_neg h]
    obtain ⟨v, rfl, ho⟩ := hp
    exact ⟨v, ho, rfl⟩
theorem sAt_enter {P : Program} {R : Value → World → Prop} {w' : World} {f : FuncId} {args : Array Value} (h : Calls P f args w' (fun e w'' => ∃ u, e = .returned u ∧ R u w'')) : sAt P R (.ok (.enter f args) w') := h

set_option maxHeartbeats 400000 in
set_option maxRecDepth 100000 in
theorem framePuts_any (w : World) (v0 : Value) (xs : List UInt8) (h : Bs w v0 xs) (hb : xs.length ≤ 1048576) (c : UInt8) (v2 : Value) (ys : List UInt8) (h2 : Bs w v2 ys) (hb2 : ys.length ≤ 1048576) (n : Int) (hn : (Lit.int .i64 n).wf = true) :
    Calls Try.prog 3 #[v0, .int .u8 (c.toNat : Int), v2, .int .i64 n] w fun e w' => e = .returned (.bool true) ∧ Mk w w' := by
  obtain ⟨a, cap, rfl, hc1, hc2⟩ := h.form
  obtain ⟨a2, cap2, rfl, hc3, hc4⟩ := h2.form
  have H := Lib.hid h
  have H2 := Lib.hid h2
  clear h hc1 hc2 h2 hc3 hc4 hn
  have hd1 : decide ((xs.length : Int) + (ys.length : Int) > 2147483638) = false := by simp; omega
  have hd2 : decide ((2147483638 : Int) < (xs.length : Int) + (ys.length : Int)) = false := by simp; omega
  go_enter Try.func3, Try.ntmps3
  go_wp2_with fail
  refine (shown_any _).mono ?_
  rintro e w1 ⟨rfl, hm⟩
  have HM1 := Lib.hid hm
  clear hm
  go_wp2_with fail
  refine (lent_any w1 _ xs (H.out.mk HM1.out) (by omega)).mono ?_
  rintro e w2 ⟨g2, rfl, ho, hm⟩
  have HOX := Lib.hid ho
  have HM2 := Lib.hid hm
  clear ho hm
  go_wp2_with fail
  refine (lent_any w2 _ ys (H2.out.mk (mk_trans HM1.out HM2.out)) (by omega)).mono ?_
  rintro e w3 ⟨g3, rfl, ho, hm⟩
  have HOY := Lib.hid ho
  have HM3 := Lib.hid hm
  have HM03 := Lib.hid (mk_trans HM1.out (mk_trans HM2.out hm))
  clear ho hm
  have HXL := Lib.hid ((bs_of (xs := xs ++ List.replicate 8 201) (own_sl HOX.out) (by simp)).mk HM3.out)
  have HYL := Lib.hid (bs_of (xs := ys ++ List.replicate 8 201) (own_sl HOY.out) (by simp))
  have HX := Lib.hid (show Bs w3 (.slice (some ⟨g2, 0, none⟩) xs.length (xs.length + 8)) xs by simpa using Sl.taken HXL.out xs.length (by simp))
  have HY := Lib.hid (show Bs w3 (.slice (some ⟨g3, 0, none⟩) ys.length (ys.length + 8)) ys by simpa using Sl.taken HYL.out ys.length (by simp))
  have hZ := pZ_len xs c ys
  go_wp2_with fail
  refine wp_region_sp (fun j => j == 9) (fun w' => Mk w3 w') (by kernel_rfl) (by kernel_rfl) (mk_refl _) (fun _ _ => mk_trans) ?_
  intro D hD hne
  have q1 := @qAt_value Try.prog
  iterate 9 (first | (refine spk (by rfl) (by rfl) (by rfl) (fun K hK => ?_); go_big_quiet_op; first | (refine hK _ ?_; clear hK K) | (apply Exists.intro; refine ⟨fun _ => ?_, hK _ ?_⟩; (exact fun _ => rfl); clear hK K)) | (refine spq (by rfl) (by rfl) (fun K hK => ?_); apply Exists.intro; refine ⟨fun w' hw' => ?_, ?_⟩; (go_simp; exact rfl); (go_simp; refine hK _ ?_; clear hK K)))
  refine sps (by rfl) (by rfl) (fun v w' => ∃ cv, v = .tuple #[cv, .int .i64 (pE ys : Int)] ∧ Mk w3 w' ∧ w'.ownsRow w3.heap.size 5 1 cv (pZ xs c ys).length (bv (pZ xs c ys))) (fun v w1 w2 ⟨cv, he, h, ho⟩ k => ⟨cv, he, mk_trans h k, own_mk ho k⟩) (fun v w' ⟨_, _, h, _⟩ => h) (fun w' hw' => ?_) (fun K dv hdv hK => ?_)
  · have HW := Lib.hid (hD.out w' hw').1
    go_simp
    refine sAt_enter ?_
    refine (Put_any _ _ _ xs ys c (HX.out.mk HW.out) (HY.out.mk HW.out) (by omega) (by omega)).mono ?_
    intro e w2 hp
    obtain ⟨hm, cv, ho, rfl⟩ := put_out hp
    exact ⟨_, rfl, cv, rfl, mk_trans HW.out hm, own_base ho HW.out.size⟩
  obtain ⟨w0, cv, rfl, h0, h0'⟩ := hdv
  clear h0 h0' w0 hne
  go_simp
  refine hK _ ?_
  clear hK K
  iterate 5 (first | (refine spk (by rfl) (by rfl) (by rfl) (fun K hK => ?_); go_big_quiet_op; first | (refine hK _ ?_; clear hK K) | (apply Exists.intro; refine ⟨fun _ => ?_, hK _ ?_⟩; (exact fun _ => rfl); clear hK K)) | (refine spq (by rfl) (by rfl) (fun K hK => ?_); apply Exists.intro; refine ⟨fun w' hw' => ?_, ?_⟩; (go_simp; exact rfl); (go_simp; refine hK _ ?_; clear hK K)))
  refine sp_nil ?_
  rintro w4 ⟨cv', he, hm, ho⟩
  cases he
  have HM4 := Lib.hid hm
  have HOC := Lib.hid ho
  clear hm ho hD D q1
  go_wp2_with fail
  refine wp_region_sp (fun j => j == 9) (fun w' => Mk w4 w') (by kernel_rfl) (by kernel_rfl) (mk_refl _) (fun _ _ => mk_trans) ?_
  intro D hD hne
  have q1 := @qAt_value Try.prog
  iterate 9 (first | (refine spk (by rfl) (by rfl) (by rfl) (fun K hK => ?_); go_big_quiet_op; first | (refine hK _ ?_; clear hK K) | (apply Exists.intro; refine ⟨fun _ => ?_, hK _ ?_⟩; (exact fun _ => rfl); clear hK K)) | (refine spq (by rfl) (by rfl) (fun K hK => ?_); apply Exists.intro; refine ⟨fun w' hw' => ?_, ?_⟩; (go_simp; exact rfl); (go_simp; refine hK _ ?_; clear hK K)))
  refine sps (by rfl) (by rfl) (fun v w' => ∃ cv, v = .tuple #[cv, .int .i64 (pE ys : Int)] ∧ Mk w4 w' ∧ w'.ownsRow w4.heap.size 5 1 cv (pZ xs c ys).length (bv (pZ xs c ys))) (fun v w1 w2 ⟨cv, he, h, ho⟩ k => ⟨cv, he, mk_trans h k, own_mk ho k⟩) (fun v w' ⟨_, _, h, _⟩ => h) (fun w' hw' => ?_) (fun K dv hdv hK => ?_)
  · have HW := Lib.hid (hD.out w' hw').1
    go_simp
    refine sAt_enter ?_
    refine (Put_any _ _ _ xs ys c (HX.out.mk (mk_trans HM4.out HW.out)) (HY.out.mk (mk_trans HM4.out HW.out)) (by omega) (by omega)).mono ?_
    intro e w2 hp
    obtain ⟨hm, cv, ho, rfl⟩ := put_out hp
    exact ⟨_, rfl, cv, rfl, mk_trans HW.out hm, own_base ho HW.out.size⟩
  obtain ⟨w0, dv, rfl, h0, h0'⟩ := hdv
  clear h0 h0' w0 hne
  go_simp
  refine hK _ ?_
  clear hK K
  iterate 5 (first | (refine spk (by rfl) (by rfl) (by rfl) (fun K hK => ?_); go_big_quiet_op; first | (refine hK _ ?_; clear hK K) | (apply Exists.intro; refine ⟨fun _ => ?_, hK _ ?_⟩; (exact fun _ => rfl); clear hK K)) | (refine spq (by rfl) (by rfl) (fun K hK => ?_); apply Exists.intro; refine ⟨fun w' hw' => ?_, ?_⟩; (go_simp; exact rfl); (go_simp; refine hK _ ?_; clear hK K)))
  refine sp_nil ?_
  rintro w5 ⟨cv', he, hm, ho⟩
  cases he
  have HM5 := Lib.hid hm
  have HOD := Lib.hid ho
  have HM35 := Lib.hid (mk_trans HM4.out hm)
  clear hm ho hD D q1
  go_wp2_with fail
  refine (still_any _ _ _ (xs ++ List.replicate 8 201) xs (HXL.out.mk HM35.out) (H.out.mk (mk_trans HM03.out HM35.out)) (by simp; omega) (by omega) rfl).mono ?_
  rintro e w6 ⟨rfl, hm⟩
  have HM36 := Lib.hid (mk_trans HM35.out hm)
  have HM56 := Lib.hid hm
  clear hm
  go_wp2_with fail
  refine (still_any _ _ _ (ys ++ List.replicate 8 201) ys (HYL.out.mk HM36.out) (H2.out.mk (mk_trans HM03.out HM36.out)) (by simp; omega) (by omega) rfl).mono ?_
  rintro e w7 ⟨rfl, hm⟩
  have HM37 := Lib.hid (mk_trans HM36.out hm)
  have HM57 := Lib.hid (mk_trans HM56.out hm)
  clear hm
  go_wp2_with fail
  refine (putR_any _ _ _ xs ys c (H.out.mk (mk_trans HM03.out HM37.out)) (H2.out.mk (mk_trans HM03.out HM37.out)) (by omega) (by omega)).mono ?_
  intro e w8 hp
  obtain ⟨hm, rv, ho, rfl⟩ := put_out hp
  have HOR := Lib.hid ho
  have HM8 := Lib.hid hm
  have HM38 := Lib.hid (mk_trans HM37.out hm)
  have HM58 := Lib.hid (mk_trans HM57.out hm)
  clear hm ho hp
  generalize pZ xs c ys = Z at *
  generalize pE ys = E at *
  have HOC8 := Lib.hid (own_mk HOC.out (mk_trans HM5.out HM58.out))
  have HOD8 := Lib.hid (own_mk HOD.out HM58.out)
  have k1 := str_sl (own_sl HOC8.out)
  have k2 := str_sl (own_sl HOD8.out)
  have k3 := str_sl (own_sl HOR.out)
  go_wp2_with (first | (go_at_call 20; refine (size_any _ _).mono ?_; rintro e w' ⟨rfl, rfl⟩) | (go_at_call 21; refine (sizeR_any _ _).mono ?_; rintro e w' ⟨rfl, rfl⟩))
  clear k1 k2 k3
  refine (full_any w8 _ cv Z 1 HOC8.out (by omega) HM38.out.size).mono ?_
  rintro e w9 ⟨u, rfl, ho, hg, hf⟩
  have HOU := Lib.hid ho
  have HM39 := Lib.hid (mk_own HM38.out HOC8.out hg)
  have HFU := Lib.hid hf
  have HOD9 := Lib.hid (HOD8.out.kept hg (ne_symm (own_ne HOC.out HOD.out (Nat.le_refl _))))
  have HOR9 := Lib.hid (HOR.out.kept hg (ne_symm (own_ne HOC.out HOR.out (by have := HM5.out.size; have := HM57.out.size; omega))))
  have HS9 := Lib.hid hg.size
  clear ho hg hf
  have k2 := str_sl (own_sl HOD9.out)
  have k3 := str_sl (own_sl HOR9.out)
  go_wp2_with fail
  clear k2 k3
  have hs := And.intro HM4.out.size (And.intro HM5.out.size (And.intro HM58.out.size HS9.out))
  have hsd : ∀ k, dv.ownBlock = some k → k < w5.heap.size := fun k hk => (HOD.out.lt k hk).2
  refine (full_any w9 _ dv Z 2 HOD9.out (by omega) (by omega)).mono ?_
  rintro e w10 ⟨u2, rfl, ho, hg, hf⟩
  have HOU2 := Lib.hid ho
  have HM310 := Lib.hid (mk_own HM39.out (own_base HOD9.out HM4.out.size) hg)
  have HOU8 := Lib.hid (HOU.out.kept hg (fr_ne HFU.out (own_ne HOC.out HOD.out (Nat.le_refl _)) (fun k hk => by have := hsd k hk; omega)))
  clear ho hg hf hs hsd
  go_wp2_with fail
  refine (all_any w10 u (List.replicate (Z.length + 64) 1) 1 (bs_of (own_sl HOU8.out) (by simp)) (by simp; omega) (by simp)).mono ?_
  rintro e w11 ⟨rfl, rfl⟩
  go_wp2_with fail
  refine (all_any _ u2 (List.replicate (Z.length + 64) 2) 2 (bs_of (own_sl HOU2.out) (by simp)) (by simp; omega) (by simp)).mono ?_
  rintro e w11 ⟨rfl, rfl⟩
  go_wp2_with fail
  refine (still_any _ _ _ (xs ++ List.replicate 8 201) xs (HXL.out.mk HM310.out) (H.out.mk (mk_trans HM03.out HM310.out)) (by simp; omega) (by omega) rfl).mono ?_
  rintro e w12 ⟨rfl, hm⟩
  have HM312 := Lib.hid (mk_trans HM310.out hm)
  clear hm
  go_wp2_with fail
  refine (still_any _ _ _ (ys ++ List.replicate 8 201) ys (HYL.out.mk HM312.out) (H2.out.mk (mk_trans HM03.out HM312.out)) (by simp; omega) (by omega) rfl).mono ?_
  rintro e w13 ⟨rfl, hm⟩
  have HM313 := Lib.hid (mk_trans HM312.out hm)
  clear hm
  go_wp2_with fail
  go_ret
  exact ⟨rfl, mk_trans HM03.out HM313.out⟩
#print axioms framePuts_any
end Go.Proofs.FrW
