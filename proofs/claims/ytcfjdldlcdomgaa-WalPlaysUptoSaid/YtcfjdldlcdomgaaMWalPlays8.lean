/- The walks of layer 5, frame: the statement FramePuts. Plain laws on frames: what was put is read; a beginning of a frame is none; a frame of which a byte is turned is none of that length. Layer 6, wal: the walks of the program's right, Weight, write, bytes. Layer 6, wal: the walk of a head's frame. The walks of layer 5, frame: the document's Scan. -/
import Derived.Test.YtcfjdldlcdomgaaMWalPlays7
import Derived.Test.YtcfjdldlcdomgaaMWalPlays5
import Derived.Test.YtcfjdldlcdomgaaMWalPlays6
set_option linter.unusedVariables false
set_option linter.unusedSimpArgs false
namespace Go.Proofs.FrW
open Go Go.RowKit Go.Tk Go.Sp Go.Rg Go.Lib Go.Shelf

def pZ (b : List UInt8) (k : UInt8) (dat : List UInt8) : List UInt8 := if 4194304 < dat.length then [] else b ++ frm k dat
def pE (dat : List UInt8) : Nat := if 4194304 < dat.length then 50 else 0
theorem pZ_len (b : List UInt8) (k : UInt8) (dat : List UInt8) : (pZ b k dat).length ≤ b.length + dat.length + 9 := by
  unfold pZ
  split
  · simp
  · rw [List.length_append, frm_length]; omega
theorem put_out {b : List UInt8} {k : UInt8} {dat : List UInt8} {w w' : World} {e : Ending} (hp : PutPost b k dat w e w') :
    Mk w w' ∧ ∃ v, w'.ownsRow w.heap.size 5 1 v (pZ b k dat).length (bv (pZ b k dat)) ∧ e = .returned (.tuple #[v, .int .i64 (pE dat : Int)]) := by
  unfold PutPost at hp
  unfold pZ pE
  obtain ⟨hm, hp⟩ := hp
  refine ⟨hm, ?_⟩
  split at hp
  · rename_i h
    rw [if_pos h, if_pos h]
    subst hp
    exact ⟨_, World.ownsRow_nil _ _ _ _, rfl⟩
  · rename_i h
    rw [if_neg h, if_neg h]
    obtain ⟨v, rfl, ho⟩ := hp
    exact ⟨v, ho, rfl⟩
theorem sAt_enter {P : Program} {R : Value → World → Prop} {w' : World} {f : FuncId} {args : Array Value} (h : Calls P f args w' (fun e w'' => ∃ u, e = .returned u ∧ R u w'')) : sAt P R (.ok (.enter f args) w') := h

set_option maxHeartbeats 400000 in
set_option maxRecDepth 100000 in
theorem framePuts_any (w : World) (v0 : Value) (xs : List UInt8) (h : Bs w v0 xs) (hb : xs.length ≤ 1048576) (c : UInt8) (v2 : Value) (ys : List UInt8) (h2 : Bs w v2 ys) (hb2 : ys.length ≤ 1048576) (n : Int) (hn : (Lit.int .i64 n).wf = true) :
    Calls Try.prog 3 #[v0, .int .u8 (c.toNat : Int), v2, .int .i64 n] w fun e w' => e = .returned (.bool true) ∧ Mk w w' := by
  obtain ⟨a, cap, rfl, hc1, hc2⟩ := h.form
  obtain ⟨a2, cap2, rfl, hc3, hc4⟩ := h2.form
  have H := Lib.hid h
  have H2 := Lib.hid h2
  clear h hc1 hc2 h2 hc3 hc4 hn
  have hd1 : decide ((xs.length : Int) + (ys.length : Int) > 2147483638) = false := by simp; omega
  have hd2 : decide ((2147483638 : Int) < (xs.length : Int) + (ys.length : Int)) = false := by simp; omega
  go_enter Try.func3, Try.ntmps3
  go_wp2_with fail
  refine (shown_any _).mono ?_
  rintro e w1 ⟨rfl, hm⟩
  have HM1 := Lib.hid hm
  clear hm
  go_wp2_with fail
  refine (lent_any w1 _ xs (H.out.mk HM1.out) (by omega)).mono ?_
  rintro e w2 ⟨g2, rfl, ho, hm⟩
  have HOX := Lib.hid ho
  have HM2 := Lib.hid hm
  clear ho hm
  go_wp2_with fail
  refine (lent_any w2 _ ys (H2.out.mk (mk_trans HM1.out HM2.out)) (by omega)).mono ?_
  rintro e w3 ⟨g3, rfl, ho, hm⟩
  have HOY := Lib.hid ho
  have HM3 := Lib.hid hm
  have HM03 := Lib.hid (mk_trans HM1.out (mk_trans HM2.out hm))
  clear ho hm
  have HXL := Lib.hid ((bs_of (xs := xs ++ List.replicate 8 201) (own_sl HOX.out) (by simp)).mk HM3.out)
  have HYL := Lib.hid (bs_of (xs := ys ++ List.replicate 8 201) (own_sl HOY.out) (by simp))
  have HX := Lib.hid (show Bs w3 (.slice (some ⟨g2, 0, none⟩) xs.length (xs.length + 8)) xs by simpa using Sl.taken HXL.out xs.length (by simp))
  have HY := Lib.hid (show Bs w3 (.slice (some ⟨g3, 0, none⟩) ys.length (ys.length + 8)) ys by simpa using Sl.taken HYL.out ys.length (by simp))
  have hZ := pZ_len xs c ys
  go_wp2_with fail
  refine wp_region_sp (fun j => j == 9) (fun w' => Mk w3 w') (by kernel_rfl) (by kernel_rfl) (mk_refl _) (fun _ _ => mk_trans) ?_
  intro D hD hne
  have q1 := @qAt_value Try.prog
  iterate 9 (first | (refine spk (by rfl) (by rfl) (by rfl) (fun K hK => ?_); go_big_quiet_op; first | (refine hK _ ?_; clear hK K) | (apply Exists.intro; refine ⟨fun _ => ?_, hK _ ?_⟩; (exact fun _ => rfl); clear hK K)) | (refine spq (by rfl) (by rfl) (fun K hK => ?_); apply Exists.intro; refine ⟨fun w' hw' => ?_, ?_⟩; (go_simp; exact rfl); (go_simp; refine hK _ ?_; clear hK K)))
  refine sps (by rfl) (by rfl) (fun v w' => ∃ cv, v = .tuple #[cv, .int .i64 (pE ys : Int)] ∧ Mk w3 w' ∧ w'.ownsRow w3.heap.size 5 1 cv (pZ xs c ys).length (bv (pZ xs c ys))) (fun v w1 w2 ⟨cv, he, h, ho⟩ k => ⟨cv, he, mk_trans h k, own_mk ho k⟩) (fun v w' ⟨_, _, h, _⟩ => h) (fun w' hw' => ?_) (fun K dv hdv hK => ?_)
  · have HW := Lib.hid (hD.out w' hw').1
    go_simp
    refine sAt_enter ?_
    refine (Put_any _ _ _ xs ys c (HX.out.mk HW.out) (HY.out.mk HW.out) (by omega) (by omega)).mono ?_
    intro e w2 hp
    obtain ⟨hm, cv, ho, rfl⟩ := put_out hp
    exact ⟨_, rfl, cv, rfl, mk_trans HW.out hm, own_base ho HW.out.size⟩
  obtain ⟨w0, cv, rfl, h0, h0'⟩ := hdv
  clear h0 h0' w0 hne
  go_simp
  refine hK _ ?_
  clear hK K
  iterate 5 (first | (refine spk (by rfl) (by rfl) (by rfl) (fun K hK => ?_); go_big_quiet_op; first | (refine hK _ ?_; clear hK K) | (apply Exists.intro; refine ⟨fun _ => ?_, hK _ ?_⟩; (exact fun _ => rfl); clear hK K)) | (refine spq (by rfl) (by rfl) (fun K hK => ?_); apply Exists.intro; refine ⟨fun w' hw' => ?_, ?_⟩; (go_simp; exact rfl); (go_simp; refine hK _ ?_; clear hK K)))
  refine sp_nil ?_
  rintro w4 ⟨cv', he, hm, ho⟩
  cases he
  have HM4 := Lib.hid hm
  have HOC := Lib.hid ho
  clear hm ho hD D q1
  go_wp2_with fail
  refine wp_region_sp (fun j => j == 9) (fun w' => Mk w4 w') (by kernel_rfl) (by kernel_rfl) (mk_refl _) (fun _ _ => mk_trans) ?_
  intro D hD hne
  have q1 := @qAt_value Try.prog
  iterate 9 (first | (refine spk (by rfl) (by rfl) (by rfl) (fun K hK => ?_); go_big_quiet_op; first | (refine hK _ ?_; clear hK K) | (apply Exists.intro; refine ⟨fun _ => ?_, hK _ ?_⟩; (exact fun _ => rfl); clear hK K)) | (refine spq (by rfl) (by rfl) (fun K hK => ?_); apply Exists.intro; refine ⟨fun w' hw' => ?_, ?_⟩; (go_simp; exact rfl); (go_simp; refine hK _ ?_; clear hK K)))
  refine sps (by rfl) (by rfl) (fun v w' => ∃ cv, v = .tuple #[cv, .int .i64 (pE ys : Int)] ∧ Mk w4 w' ∧ w'.ownsRow w4.heap.size 5 1 cv (pZ xs c ys).length (bv (pZ xs c ys))) (fun v w1 w2 ⟨cv, he, h, ho⟩ k => ⟨cv, he, mk_trans h k, own_mk ho k⟩) (fun v w' ⟨_, _, h, _⟩ => h) (fun w' hw' => ?_) (fun K dv hdv hK => ?_)
  · have HW := Lib.hid (hD.out w' hw').1
    go_simp
    refine sAt_enter ?_
    refine (Put_any _ _ _ xs ys c (HX.out.mk (mk_trans HM4.out HW.out)) (HY.out.mk (mk_trans HM4.out HW.out)) (by omega) (by omega)).mono ?_
    intro e w2 hp
    obtain ⟨hm, cv, ho, rfl⟩ := put_out hp
    exact ⟨_, rfl, cv, rfl, mk_trans HW.out hm, own_base ho HW.out.size⟩
  obtain ⟨w0, dv, rfl, h0, h0'⟩ := hdv
  clear h0 h0' w0 hne
  go_simp
  refine hK _ ?_
  clear hK K
  iterate 5 (first | (refine spk (by rfl) (by rfl) (by rfl) (fun K hK => ?_); go_big_quiet_op; first | (refine hK _ ?_; clear hK K) | (apply Exists.intro; refine ⟨fun _ => ?_, hK _ ?_⟩; (exact fun _ => rfl); clear hK K)) | (refine spq (by rfl) (by rfl) (fun K hK => ?_); apply Exists.intro; refine ⟨fun w' hw' => ?_, ?_⟩; (go_simp; exact rfl); (go_simp; refine hK _ ?_; clear hK K)))
  refine sp_nil ?_
  rintro w5 ⟨cv', he, hm, ho⟩
  cases he
  have HM5 := Lib.hid hm
  have HOD := Lib.hid ho
  have HM35 := Lib.hid (mk_trans HM4.out hm)
  clear hm ho hD D q1
  go_wp2_with fail
  refine (still_any _ _ _ (xs ++ List.replicate 8 201) xs (HXL.out.mk HM35.out) (H.out.mk (mk_trans HM03.out HM35.out)) (by simp; omega) (by omega) rfl).mono ?_
  rintro e w6 ⟨rfl, hm⟩
  have HM36 := Lib.hid (mk_trans HM35.out hm)
  have HM56 := Lib.hid hm
  clear hm
  go_wp2_with fail
  refine (still_any _ _ _ (ys ++ List.replicate 8 201) ys (HYL.out.mk HM36.out) (H2.out.mk (mk_trans HM03.out HM36.out)) (by simp; omega) (by omega) rfl).mono ?_
  rintro e w7 ⟨rfl, hm⟩
  have HM37 := Lib.hid (mk_trans HM36.out hm)
  have HM57 := Lib.hid (mk_trans HM56.out hm)
  clear hm
  go_wp2_with fail
  refine (putR_any _ _ _ xs ys c (H.out.mk (mk_trans HM03.out HM37.out)) (H2.out.mk (mk_trans HM03.out HM37.out)) (by omega) (by omega)).mono ?_
  intro e w8 hp
  obtain ⟨hm, rv, ho, rfl⟩ := put_out hp
  have HOR := Lib.hid ho
  have HM8 := Lib.hid hm
  have HM38 := Lib.hid (mk_trans HM37.out hm)
  have HM58 := Lib.hid (mk_trans HM57.out hm)
  clear hm ho hp
  generalize pZ xs c ys = Z at *
  generalize pE ys = E at *
  have HOC8 := Lib.hid (own_mk HOC.out (mk_trans HM5.out HM58.out))
  have HOD8 := Lib.hid (own_mk HOD.out HM58.out)
  have k1 := str_sl (own_sl HOC8.out)
  have k2 := str_sl (own_sl HOD8.out)
  have k3 := str_sl (own_sl HOR.out)
  go_wp2_with (first | (go_at_call 20; refine (size_any _ _).mono ?_; rintro e w' ⟨rfl, rfl⟩) | (go_at_call 21; refine (sizeR_any _ _).mono ?_; rintro e w' ⟨rfl, rfl⟩))
  clear k1 k2 k3
  refine (full_any w8 _ cv Z 1 HOC8.out (by omega) HM38.out.size).mono ?_
  rintro e w9 ⟨u, rfl, ho, hg, hf⟩
  have HOU := Lib.hid ho
  have HM39 := Lib.hid (mk_own HM38.out HOC8.out hg)
  have HFU := Lib.hid hf
  have HOD9 := Lib.hid (HOD8.out.kept hg (ne_symm (own_ne HOC.out HOD.out (Nat.le_refl _))))
  have HOR9 := Lib.hid (HOR.out.kept hg (ne_symm (own_ne HOC.out HOR.out (by have := HM5.out.size; have := HM57.out.size; omega))))
  have HS9 := Lib.hid hg.size
  clear ho hg hf
  have k2 := str_sl (own_sl HOD9.out)
  have k3 := str_sl (own_sl HOR9.out)
  go_wp2_with fail
  clear k2 k3
  have hs := And.intro HM4.out.size (And.intro HM5.out.size (And.intro HM58.out.size HS9.out))
  have hsd : ∀ k, dv.ownBlock = some k → k < w5.heap.size := fun k hk => (HOD.out.lt k hk).2
  refine (full_any w9 _ dv Z 2 HOD9.out (by omega) (by omega)).mono ?_
  rintro e w10 ⟨u2, rfl, ho, hg, hf⟩
  have HOU2 := Lib.hid ho
  have HM310 := Lib.hid (mk_own HM39.out (own_base HOD9.out HM4.out.size) hg)
  have HOU8 := Lib.hid (HOU.out.kept hg (fr_ne HFU.out (own_ne HOC.out HOD.out (Nat.le_refl _)) (fun k hk => by have := hsd k hk; omega)))
  clear ho hg hf hs hsd
  go_wp2_with fail
  refine (all_any w10 u (List.replicate (Z.length + 64) 1) 1 (bs_of (own_sl HOU8.out) (by simp)) (by simp; omega) (by simp)).mono ?_
  rintro e w11 ⟨rfl, rfl⟩
  go_wp2_with fail
  refine (all_any _ u2 (List.replicate (Z.length + 64) 2) 2 (bs_of (own_sl HOU2.out) (by simp)) (by simp; omega) (by simp)).mono ?_
  rintro e w11 ⟨rfl, rfl⟩
  go_wp2_with fail
  refine (still_any _ _ _ (xs ++ List.replicate 8 201) xs (HXL.out.mk HM310.out) (H.out.mk (mk_trans HM03.out HM310.out)) (by simp; omega) (by omega) rfl).mono ?_
  rintro e w12 ⟨rfl, hm⟩
  have HM312 := Lib.hid (mk_trans HM310.out hm)
  clear hm
  go_wp2_with fail
  refine (still_any _ _ _ (ys ++ List.replicate 8 201) ys (HYL.out.mk HM312.out) (H2.out.mk (mk_trans HM03.out HM312.out)) (by simp; omega) (by omega) rfl).mono ?_
  rintro e w13 ⟨rfl, hm⟩
  have HM313 := Lib.hid (mk_trans HM312.out hm)
  clear hm
  go_wp2_with fail
  go_ret
  exact ⟨rfl, mk_trans HM03.out HM313.out⟩
end Go.Proofs.FrW

namespace Go.Proofs.FrW
open Go Go.Tk

theorem le4_by4 (n : Nat) (hn : n < 4294967296) (r : List UInt8) : le4? (by4 n ++ r) = n := by
  simp only [by4, List.cons_append, le4?, le4, UInt8.toNat_ofNat', Nat.reducePow]
  omega
theorem body_len (k : UInt8) (dat : List UInt8) : (bodyOf k dat).length = 5 + dat.length := by simp [bodyOf, by4_length]; omega
theorem frm_eq (k : UInt8) (dat : List UInt8) : frm k dat = k :: (by4 dat.length ++ (dat ++ by4 (Fr.crc (bodyOf k dat)))) := by simp [frm, bodyOf]
theorem frame_put (k : UInt8) (dat r : List UInt8) (h : dat.length ≤ 4194304) : frameOf (frm k dat ++ r) = some (k, dat, dat.length + 9) := by
  have e1 : (frm k dat ++ r).drop 1 = by4 dat.length ++ (dat ++ (by4 (Fr.crc (bodyOf k dat)) ++ r)) := by rw [frm_eq]; simp
  have e2 : le4? ((frm k dat ++ r).drop 1) = dat.length := by rw [e1]; exact le4_by4 _ (by omega) _
  have e3 : (frm k dat ++ r).take (5 + dat.length) = bodyOf k dat := by
    rw [frm, List.append_assoc, List.take_append_of_le_length (by rw [body_len]; omega), List.take_of_length_le (by rw [body_len]; omega)]
  have e4 : (frm k dat ++ r).drop (5 + dat.length) = by4 (Fr.crc (bodyOf k dat)) ++ r := by
    rw [frm, List.append_assoc, ← body_len k, List.drop_left]
  have hl : (frm k dat ++ r).length = dat.length + 9 + r.length := by rw [List.length_append, frm_length]
  rw [frame_some (by omega) (by rw [e2]; omega) (by rw [e2]; omega) (by rw [e2, e3, e4]; exact le4_by4 _ (Fr.crc_lt _) _), e2, e3]
  have e5 : (bodyOf k dat).drop 5 = dat := by simp [bodyOf, by4]
  have e6 : (frm k dat ++ r).head?.getD 0 = k := by rw [frm_eq]; rfl
  rw [e5, e6, Nat.add_comm]
theorem le4_more (xs ys : List UInt8) (h : 4 ≤ xs.length) : le4? (xs ++ ys) = le4? xs := by
  match xs, h with
  | a :: b :: c :: d :: r, _ => rfl
  | [], h => simp at h
  | [_], h => simp at h
  | [_, _], h => simp at h
  | [_, _, _], h => simp at h
theorem torn_short (k : UInt8) (dat : List UInt8) (j : Nat) (h : dat.length ≤ 4194304) (hj : j < dat.length + 9) : frameOf ((frm k dat).take j) = none := by
  have hl : ((frm k dat).take j).length = j := by rw [List.length_take, frm_length]; omega
  unfold frameOf
  by_cases h9 : j < 9
  · rw [if_pos (by omega)]
  · have e : le4? (((frm k dat).take j).drop 1) = dat.length := by
      have e1 : (frm k dat).drop 1 = ((frm k dat).take j).drop 1 ++ (frm k dat).drop j := by
        have := List.take_append_drop j (frm k dat)
        conv => lhs; rw [← this]
        rw [List.drop_append_of_le_length (by omega)]
      have e2 : le4? ((frm k dat).drop 1) = dat.length := by rw [frm_eq]; exact le4_by4 _ (by omega) _
      rw [e1, le4_more _ _ (by rw [List.length_drop]; omega)] at e2
      exact e2
    rw [if_neg (by omega), e, if_neg (by omega), if_pos (by omega)]
theorem frame_inv {xs : List UInt8} {k : UInt8} {d : List UInt8} {n : Nat} (h : frameOf xs = some (k, d, n)) : ∃ m, n = 9 + m ∧ le4? (xs.drop (5 + m)) = Fr.crc (xs.take (5 + m)) := by
  unfold frameOf at h
  split at h
  · cases h
  · split at h
    · cases h
    · split at h
      · cases h
      · split at h
        · rename_i h4
          simp only [Option.some.injEq, Prod.mk.injEq] at h
          exact ⟨_, h.2.2.symm, h4⟩
        · cases h
theorem le4_set : ∀ (t : List UInt8) (j : Nat) (x : UInt8) (hj : j < t.length), t.length = 4 → le4? (t.set j x) = le4? t → x = t[j] := by
  intro t j x hj hl h
  match t, hl with
  | [a, b, c, d], _ =>
    have ha := a.toNat_lt; have hb := b.toNat_lt; have hc := c.toNat_lt; have hd := d.toNat_lt; have hx := x.toNat_lt
    simp only [List.length_cons, List.length_nil] at hj
    apply UInt8.toNat_inj.1
    match j, hj with
    | 0, _ => simp only [List.set, le4?, le4, List.getElem_cons_zero] at h ⊢; omega
    | 1, _ => simp only [List.set, le4?, le4, List.getElem_cons_zero, List.getElem_cons_succ] at h ⊢; omega
    | 2, _ => simp only [List.set, le4?, le4, List.getElem_cons_zero, List.getElem_cons_succ] at h ⊢; omega
    | 3, _ => simp only [List.set, le4?, le4, List.getElem_cons_zero, List.getElem_cons_succ] at h ⊢; omega
theorem torn_turned (k : UInt8) (dat : List UInt8) (i : Nat) (x : UInt8) (h : dat.length ≤ 4194304) (hi : i < (frm k dat).length) {k' : UInt8} {d' : List UInt8} {n : Nat}
    (hf : frameOf ((frm k dat).set i x) = some (k', d', n)) (hn : n = dat.length + 9) : x = (frm k dat)[i] := by
  obtain ⟨m, hm, hs⟩ := frame_inv hf
  obtain rfl : m = dat.length := by omega
  have hbl := body_len k dat
  have hfl := frm_length k dat
  by_cases hb : i < (bodyOf k dat).length
  · have e : (frm k dat).set i x = (bodyOf k dat).set i x ++ by4 (Fr.crc (bodyOf k dat)) := by rw [frm, List.set_append_left _ _ hb]
    have hl' : ((bodyOf k dat).set i x).length = 5 + dat.length := by rw [List.length_set]; exact hbl
    rw [e, ← hl', List.drop_left, List.take_left, ← List.append_nil (by4 _), le4_by4 _ (Fr.crc_lt _)] at hs
    have hg : (frm k dat)[i] = (bodyOf k dat)[i] := by simp only [frm]; rw [List.getElem_append_left hb]
    rw [hg]
    have e1 : bodyOf k dat = (bodyOf k dat).take i ++ (bodyOf k dat)[i] :: (bodyOf k dat).drop (i + 1) := by simp
    have e2 : (bodyOf k dat).set i x = (bodyOf k dat).take i ++ x :: (bodyOf k dat).drop (i + 1) := by rw [List.set_eq_take_append_cons_drop, if_pos hb]
    rw [e2] at hs
    conv at hs => lhs; rw [e1]
    exact (Fr.crc_turned _ _ _ _ hs).symm
  · have e : (frm k dat).set i x = bodyOf k dat ++ (by4 (Fr.crc (bodyOf k dat))).set (i - (bodyOf k dat).length) x := by rw [frm, List.set_append_right _ _ (by omega)]
    rw [e, ← hbl, List.drop_left, List.take_left] at hs
    have hj : i - (bodyOf k dat).length < (by4 (Fr.crc (bodyOf k dat))).length := by rw [by4_length]; omega
    have hg : (frm k dat)[i] = (by4 (Fr.crc (bodyOf k dat)))[i - (bodyOf k dat).length] := by simp only [frm]; rw [List.getElem_append_right (by omega)]
    rw [hg]
    refine le4_set _ _ _ hj rfl (hs.trans ?_)
    have := le4_by4 (Fr.crc (bodyOf k dat)) (Fr.crc_lt _) []
    rw [List.append_nil] at this
    exact this.symm
end Go.Proofs.FrW

namespace Go.Proofs.WlW
open Go Go.RowKit Go.Tk Go.Dk Go.Sp Go.Proofs.DkW

def rightB (c s : Int) : Bool := decide (1024 ≤ c) && decide (c ≤ 4194304) && decide (1 ≤ s) && decide (s ≤ 65536)
theorem right_any (w : World) (c s : Int) : Calls Try.prog 116 #[.int .i64 c, .int .i64 s] w fun e w' => e = .returned (.bool (rightB c s)) ∧ w = w' := by
  by_cases h1 : 1024 ≤ c
  · by_cases h2 : c ≤ 4194304
    · by_cases h3 : 1 ≤ s
      · by_cases h4 : s ≤ 65536
        · have H : Hid (rightB c s = true) := by show _ = _; simp [rightB, h1, h2, h3, h4]
          have d1 : decide (1024 ≤ c) = true := by simpa using h1
          have d2 : decide (c ≤ 4194304) = true := by simpa using h2
          have d3 : decide (1 ≤ s) = true := by simpa using h3
          have d4 : decide (s ≤ 65536) = true := by simpa using h4
          go_enter Try.func116, Try.ntmps116
          go_wp2
          go_ret
          rw [H.out]; exact ⟨rfl, rfl⟩
        · have H : Hid (rightB c s = false) := by show _ = _; simp [rightB, h4]
          have d1 : decide (1024 ≤ c) = true := by simpa using h1
          have d2 : decide (c ≤ 4194304) = true := by simpa using h2
          have d3 : decide (1 ≤ s) = true := by simpa using h3
          have d4 : decide (s ≤ 65536) = false := by simpa using h4
          go_enter Try.func116, Try.ntmps116
          go_wp2
          go_ret
          rw [H.out]; exact ⟨rfl, rfl⟩
      · have H : Hid (rightB c s = false) := by show _ = _; simp [rightB, h3]
        have d1 : decide (1024 ≤ c) = true := by simpa using h1
        have d2 : decide (c ≤ 4194304) = true := by simpa using h2
        have d3 : decide (1 ≤ s) = false := by simpa using h3
        go_enter Try.func116, Try.ntmps116
        go_wp2
        go_ret
        rw [H.out]; exact ⟨rfl, rfl⟩
    · have H : Hid (rightB c s = false) := by show _ = _; simp [rightB, h2]
      have d1 : decide (1024 ≤ c) = true := by simpa using h1
      have d2 : decide (c ≤ 4194304) = false := by simpa using h2
      go_enter Try.func116, Try.ntmps116
      go_wp2
      go_ret
      rw [H.out]; exact ⟨rfl, rfl⟩
  · have H : Hid (rightB c s = false) := by show _ = _; simp [rightB, h1]
    have d1 : decide (1024 ≤ c) = false := by simpa using h1
    go_enter Try.func116, Try.ntmps116
    go_wp2
    go_ret
    rw [H.out]; exact ⟨rfl, rfl⟩
def weight (n : Int) : Int := if n < 0 ∨ 4194280 < n then 0 else n + 33
theorem weight_any (w : World) (n : Int) : Calls Try.prog 110 #[.int .i64 n] w fun e w' => e = .returned (.int .i64 (weight n)) ∧ w = w' := by
  by_cases h1 : n < 0
  · have H : Hid (weight n = 0) := by show _ = _; simp [weight, h1]
    have d1 : decide (n < 0) = true := by simpa using h1
    go_enter Try.func110, Try.ntmps110
    go_wp2
    go_ret
    rw [H.out]; exact ⟨rfl, rfl⟩
  · have d1 : decide (n < 0) = false := by simpa using h1
    by_cases h2 : 4194280 < n
    · have H : Hid (weight n = 0) := by show _ = _; simp [weight, h2]
      go_enter Try.func110, Try.ntmps110
      go_wp2
      go_ret
      rw [H.out]; exact ⟨rfl, rfl⟩
    · have H : Hid (FrW.sizeF (n + 24) = weight n) := by show _ = _; unfold weight FrW.sizeF; rw [if_neg (by omega), if_neg (by omega), if_neg (by omega)]; omega
      go_enter Try.func110, Try.ntmps110
      go_wp2_with (go_at_call 20; refine (FrW.size_any _ _).mono ?_; rintro e w' ⟨rfl, rfl⟩; rw [H.out])
      go_ret
      exact ⟨rfl, rfl⟩

/-- Bytes behind a file's last, made to last. -/
def St.write (s : St) (f : Int) (b : List UInt8) : St × Int :=
  if (s.append f b).2 = 0 then (if ((s.append f b).1.sync f).2 = 0 then (((s.append f b).1.sync f).1, 0) else (((s.append f b).1.sync f).1, 40)) else ((s.append f b).1, 40)
theorem errs_append (s : St) (f : Int) (b : List UInt8) : (s.append f b).2 = 0 ∨ (s.append f b).2 = 1 ∨ (s.append f b).2 = 40 ∨ (s.append f b).2 = 41 := by
  unfold St.append; (repeat' split) <;> simp
theorem errs_sync (s : St) (f : Int) : (s.sync f).2 = 0 ∨ (s.sync f).2 = 1 ∨ (s.sync f).2 = 40 := by
  unfold St.sync; (repeat' split) <;> simp
theorem errs_truncate (s : St) (f n : Int) : (s.truncate f n).2 = 0 ∨ (s.truncate f n).2 = 1 ∨ (s.truncate f n).2 = 40 := by
  unfold St.truncate; (repeat' split) <;> simp

set_option maxHeartbeats 1000000 in
set_option maxRecDepth 100000 in
theorem write_any {S : Nat → Prop} {w : World} {p : Nat} {st : St} {M : Nat} (h : PD S w p st) (hok : st.Ok M) (hM : M < 1000000) (f : Int) (v : Value) (xs : List UInt8) (hb : Bs w v xs) (hbx : xs.length ≤ 1073741824)
    (hd : ∀ k, k < w.heap.size → v.ownBlock = some k → ¬ S k) :
    Calls Try.prog 117 #[.pointer (some ⟨p, 0, none⟩), .int .i64 f, v] w fun e w' => e = .returned (.int .i64 (St.write st f xs).2) ∧ PD (Gw S w) w' p (St.write st f xs).1 ∧ Chg S w w' := by
  have ha := append_any h hok (by omega) f v xs hb hbx hd
  have hok2 := append_ok hok f xs
  have he := errs_append st f xs
  have hwr : St.write st f xs = if (st.append f xs).2 = 0 then (if ((st.append f xs).1.sync f).2 = 0 then (((st.append f xs).1.sync f).1, 0) else (((st.append f xs).1.sync f).1, 40)) else ((st.append f xs).1, 40) := rfl
  generalize st.append f xs = r at *
  obtain ⟨t, er⟩ := r
  dsimp only at ha hok2 he hwr
  by_cases h0 : er = 0
  · subst h0
    rw [if_pos rfl] at hwr
    have hes := errs_sync t f
    have hsy : ∀ (w1 : World), PD (Gw S w) w1 p t → _ := fun w1 h1 => sync_any h1 hok2 (by omega) f
    generalize t.sync f = r2 at *
    obtain ⟨u, er2⟩ := r2
    dsimp only at hsy hes hwr
    have Ha := Lib.hid ha; have Hok2 := Lib.hid hok2; have He := Lib.hid he; have Hwr := Lib.hid hwr; have Hsy := Lib.hid hsy; have Hes := Lib.hid hes; clear ha hok2 he hwr hsy hes
    by_cases h2 : er2 = 0
    · subst h2
      go_enter Try.func117, Try.ntmps117
      go_wp2_with fail
      refine Ha.out.mono ?_
      rintro e w1 ⟨rfl, h1, hc1⟩
      have H1 := Lib.hid h1; have Hc1 := Lib.hid hc1; clear h1 hc1
      go_wp2_with fail
      refine (Hsy.out w1 H1.out).mono ?_
      rintro e w2 ⟨rfl, h2, hc2⟩
      have H2 := Lib.hid h2; have Hc2 := Lib.hid hc2; clear h2 hc2
      go_wp2
      go_ret
      rw [Hwr.out]
      exact ⟨rfl, H2.out, Hc1.out.then Hc2.out⟩
    · have h3 : (er2 != 0) = true := by simpa using h2
      go_enter Try.func117, Try.ntmps117
      go_wp2_with fail
      refine Ha.out.mono ?_
      rintro e w1 ⟨rfl, h1, hc1⟩
      have H1 := Lib.hid h1; have Hc1 := Lib.hid hc1; clear h1 hc1
      go_wp2_with fail
      refine (Hsy.out w1 H1.out).mono ?_
      rintro e w2 ⟨rfl, h4, hc2⟩
      have H4 := Lib.hid h4; have Hc2 := Lib.hid hc2; clear h4 hc2
      go_wp2
      go_ret
      rw [Hwr.out, if_neg h2]
      exact ⟨rfl, H4.out, Hc1.out.then Hc2.out⟩
  · rw [if_neg h0] at hwr
    have h3 : (er != 0) = true := by simpa using h0
    have Ha := Lib.hid ha; have Hok2 := Lib.hid hok2; have He := Lib.hid he; have Hwr := Lib.hid hwr; clear ha hok2 he hwr
    go_enter Try.func117, Try.ntmps117
    go_wp2_with fail
    refine Ha.out.mono ?_
    rintro e w1 ⟨rfl, h1, hc1⟩
    have H1 := Lib.hid h1; have Hc1 := Lib.hid hc1; clear h1 hc1
    go_wp2
    go_ret
    rw [Hwr.out]
    exact ⟨rfl, H1.out, Hc1.out⟩
end Go.Proofs.WlW

namespace Go.Proofs.WlW
open Go Go.RowKit Go.Tk Go.Dk Go.Sp Go.Proofs.DkW

def magic : List UInt8 := [116, 117, 114, 110, 107, 101, 121, 49]
/-- What a head's frame holds; the frame. -/
def headBytes (gen cap slots : Nat) (state : List UInt8) : List UInt8 := magic ++ leB gen 8 ++ leB cap 4 ++ leB slots 4 ++ state
def headFrame (gen cap slots : Nat) (state : List UInt8) : List UInt8 := FrW.frm 1 (headBytes gen cap slots state)
theorem headBytes_length (gen cap slots : Nat) (state : List UInt8) : (headBytes gen cap slots state).length = 24 + state.length := by simp [headBytes, leB_length, magic]; omega
theorem headFrame_length (gen cap slots : Nat) (state : List UInt8) : (headFrame gen cap slots state).length = state.length + 33 := by unfold headFrame; rw [FrW.frm_length, headBytes_length]; omega
def magicCells : Array Value := #[.int .u8 116, .int .u8 117, .int .u8 114, .int .u8 110, .int .u8 107, .int .u8 101, .int .u8 121, .int .u8 49]

set_option maxHeartbeats 1000000 in
set_option maxRecDepth 100000 in
theorem bytes_any (w : World) (gen cap slots : Nat) (v : Value) (state : List UInt8) (hb : Bs w v state) (hs : state.length ≤ 4194280) (hg : gen < 18446744073709551616) (hc : cap ≤ 4194304) (hsl : slots ≤ 65536) :
    Calls Try.prog 118 #[.agg #[.int .u64 (gen : Int), .int .i64 (cap : Int), .int .i64 (slots : Int)], v] w fun e w' => ∃ v', e = .returned v' ∧ w'.ownsRow w.heap.size 5 1 v' (state.length + 33) (bv (headFrame gen cap slots state)) ∧ Mk w w' := by
  obtain ⟨W0, hW0⟩ : ∃ W0, w.alloc (.cells #[.int .u64 (gen : Int), .int .i64 (cap : Int), .int .i64 (slots : Int)] 169) = W0 := ⟨_, rfl⟩
  have hbox : Bk W0 w.heap.size 169 #[.int .u64 (gen : Int), .int .i64 (cap : Int), .int .i64 (slots : Int)] := by rw [← hW0]; exact Bk.new w 169 _
  have hz0 : W0.heap.size = w.heap.size + 1 := by rw [← hW0]; simp
  have hm0 : Mk w W0 := by rw [← hW0]; exact mk_alloc _ _
  have kc : (convert 22 22 (.slice (some ⟨W0.heap.size, 0, none⟩) 8 8)).run Try.prog (W0.alloc (.cells #[.int .u8 116, .int .u8 117, .int .u8 114, .int .u8 110, .int .u8 107, .int .u8 101, .int .u8 121, .int .u8 49] 5)) = _ := Lib.run_convert_bytes_const (P := Try.prog) W0 22 5 #[.int .u8 116, .int .u8 117, .int .u8 114, .int .u8 110, .int .u8 107, .int .u8 101, .int .u8 121, .int .u8 49] 8 8 Try.underlying22 Try.underlying5
  obtain ⟨sa, sc, rfl, _, _⟩ := hb.form
  have hc0 : (0 : Int) ≤ (cap : Int) := by omega
  have hs0 : (0 : Int) ≤ (slots : Int) := by omega
  have hc1 : (cap : Int) ≤ 4194304 := by omega
  have hs1 : (slots : Int) ≤ 65536 := by omega
  have hl0 : ∀ o, (W0.alloc o).cell? ⟨w.heap.size, 0, none⟩ = some (.int .u64 (gen : Int)) := fun o => ((hbox.alloc o).cell 0).trans rfl
  have hb1 := hb.mk hm0
  have hlt := hbox.lt
  have Hb := Lib.hid hb; have Hb1 := Lib.hid hb1; have Hz0 := Lib.hid hz0; have Hm0 := Lib.hid hm0; have Hbox := Lib.hid hbox; clear hb hb1 hz0 hm0 hbox
  go_enter Try.func118, Try.ntmps118
  go_wp2_with fail
  have hlit := FrW.new_bytes_m W0 magic #[.int .u8 116, .int .u8 117, .int .u8 114, .int .u8 110, .int .u8 107, .int .u8 101, .int .u8 121, .int .u8 49] 5 8 (8, 9) rfl rfl (by simp [maxLen]) (by omega)
  have hbx1 := Hbox.out.alloc (.cells #[.int .u8 116, .int .u8 117, .int .u8 114, .int .u8 110, .int .u8 107, .int .u8 101, .int .u8 121, .int .u8 49] 5 (8, 9))
  have hmk1 : Mk W0 (W0.alloc (.cells #[.int .u8 116, .int .u8 117, .int .u8 114, .int .u8 110, .int .u8 107, .int .u8 101, .int .u8 121, .int .u8 49] 5 (8, 9))) := mk_alloc _ _
  have Hlit := Lib.hid hlit; have Hbx1 := Lib.hid hbx1; have Hmk1 := Lib.hid hmk1; clear hlit hbx1 hmk1
  clear kc hl0
  generalize W0.alloc (.cells #[.int .u8 116, .int .u8 117, .int .u8 114, .int .u8 110, .int .u8 107, .int .u8 101, .int .u8 121, .int .u8 49] 5 (8, 9)) = W1 at *
  refine (put_any W1 W0.heap.size _ magic gen 8 (.inr ⟨W0.heap.size, 0, rfl, Hlit.out, by decide, Nat.le_refl _⟩) (Hmk1.out.size) (by decide) hg (by decide) (by decide)).mono ?_
  rintro e w2 ⟨v2, rfl, ho2, hg2⟩
  obtain ⟨g2, c2, rfl, _, _, hgb2, _⟩ := own_form ho2 (by decide)
  have hbx2 : Bk w2 w.heap.size 169 _ := Hbx1.out.keep (Chg.of_grown (S := fun k => W0.heap.size ≤ k) hg2 fun k hk _ => by cases hk; exact Nat.le_refl _) (by omega)
  have hmk2 : Mk W0 w2 := mk_own' Hmk1.out (fun k hk => by cases hk; exact Nat.le_refl _) hg2
  have l1 : w2.cell? ⟨w.heap.size, 1, none⟩ = some (.int .i64 (cap : Int)) := (hbx2.cell 1).trans rfl
  have Ho2 := Lib.hid ho2; have Hbx2 := Lib.hid hbx2; have Hmk2 := Lib.hid hmk2; clear ho2 hbx2 hmk2
  clear hg2
  go_wp2_with fail
  refine (put_any w2 W0.heap.size _ (magic ++ leB gen 8) cap 4 (.inl (by rw [List.length_append, leB_length]; exact Ho2.out)) (Hmk2.out.size) (by simp [leB_length, magic]) (by omega) (by decide) (by decide)).mono ?_
  rintro e w3 ⟨v3, rfl, ho3, hg3⟩
  rw [List.length_append, leB_length] at ho3
  obtain ⟨g3, c3, rfl, _, _, hgb3, _⟩ := own_form ho3 (by decide)
  have hbx3 : Bk w3 w.heap.size 169 _ := Hbx2.out.keep (Chg.of_grown (S := fun k => W0.heap.size ≤ k) hg3 fun k hk _ => by cases hk; exact hgb2) (by omega)
  have hmk3 : Mk W0 w3 := mk_own' Hmk2.out (fun k hk => by cases hk; exact hgb2) hg3
  have l2 : w3.cell? ⟨w.heap.size, 2, none⟩ = some (.int .i64 (slots : Int)) := (hbx3.cell 2).trans rfl
  have Ho3 := Lib.hid ho3; have Hbx3 := Lib.hid hbx3; have Hmk3 := Lib.hid hmk3; clear ho3 hbx3 hmk3
  clear hg3 l1
  go_wp2_with fail
  refine (put_any w3 W0.heap.size _ (magic ++ leB gen 8 ++ leB cap 4) slots 4 (.inl (by rw [List.length_append, List.length_append, leB_length, leB_length]; exact Ho3.out)) (Hmk3.out.size) (by simp [leB_length, magic]) (by omega) (by decide) (by decide)).mono ?_
  rintro e w4 ⟨v4, rfl, ho4, hg4⟩
  rw [List.length_append, List.length_append, leB_length, leB_length] at ho4
  obtain ⟨g4, c4, rfl, _, _, hgb4, _⟩ := own_form ho4 (by decide)
  have hmk4 : Mk W0 w4 := mk_own' Hmk3.out (fun k hk => by cases hk; exact hgb3) hg4
  have hst4 := Hb1.out.mk hmk4
  have ho4' : w4.ownsRow W0.heap.size 5 1 (.slice (some ⟨g4, 0, none⟩) 24 c4) 24 (bv (magic ++ leB gen 8 ++ leB cap 4 ++ leB slots 4)) := ho4
  have Ho4' := Lib.hid ho4'; have Hmk4 := Lib.hid hmk4; have Hst4 := Lib.hid hst4; clear ho4' hmk4 hst4
  clear hg4 l2 ho4
  go_wp2_with (first | (at_builtin; refine wpList_append_bytes (P := Try.prog) Try.underlying22 FrW.info5 rfl (.tmp 22) (.tmp 23) rfl rfl Ho4'.out rfl Hst4.out (bv_one _) (by omega) (Hmk4.out.size) ?_; intro v5 w5 ho5 hg5 hn5 hf5; clear hn5 hf5; rw [← bv_append] at ho5; have Ho5 := Lib.hid ho5; have Hmk5 := Lib.hid (mk_own' Hmk4.out (fun k hk => by cases hk; exact hgb4) hg5); clear ho5 hg5) | fail)
  have hdat : (headBytes gen cap slots state).length = 24 + state.length := headBytes_length _ _ _ _
  have hb5 : Bs w5 v5 (headBytes gen cap slots state) := by rw [Bs, hdat]; exact own_sl Ho5.out
  refine (FrW.Put_any w5 (.slice none 0 0) _ [] (headBytes gen cap slots state) 1 (FrW.nil_bs _) hb5 (by decide) (by omega)).mono ?_
  intro e w6 hp
  unfold FrW.PutPost at hp
  rw [if_neg (by omega)] at hp
  obtain ⟨hm6, v6, rfl, ho6⟩ := hp
  rw [List.nil_append, FrW.frm_length, hdat] at ho6
  obtain ⟨g6, c6, rfl, _, _, _, _⟩ := own_form ho6 (by omega)
  have hfin : w6.ownsRow w.heap.size 5 1 (.slice (some ⟨g6, 0, none⟩) (24 + state.length + 9) c6) (state.length + 33) (bv (headFrame gen cap slots state)) := by
    have h1 := own_base ho6 (base' := w.heap.size) (by have h1 := Hmk5.out.size; have h2 := Hm0.out.size; omega)
    rw [show 24 + state.length + 9 = state.length + 33 by omega] at h1 ⊢
    exact h1
  have hmk6 := mk_trans Hm0.out (mk_trans Hmk5.out hm6)
  have Hfin := Lib.hid hfin; have Hmk6 := Lib.hid hmk6; clear hfin hmk6
  clear ho6 hm6
  go_wp2
  go_ret
  exact ⟨_, rfl, Hfin.out, Hmk6.out⟩

/-- What stands in a file: a head, its state, how long its frame is. -/
def lookP (xs : List UInt8) : Option (Nat × Nat × Nat × List UInt8 × Nat) :=
  match FrW.frameOf xs with
  | none => none
  | some (k, dat, n) => if k = 1 ∧ 24 ≤ dat.length ∧ dat.take 8 = magic ∧ 0 < numB ((dat.take 16).drop 8) ∧ rightB (numB ((dat.take 20).drop 16)) (numB ((dat.take 24).drop 20)) = true
      then some (numB ((dat.take 16).drop 8), numB ((dat.take 20).drop 16), numB ((dat.take 24).drop 20), dat.drop 24, n) else none
end Go.Proofs.WlW

namespace Go.Proofs.FrW
open Go Go.RowKit Go.Tk Go.Sp Go.Rg Go.Lib Go.Shelf

theorem info44 : (Try.prog.info? 44).map (fun i => (i.zero, i.size, i.bytes)) = some (some (.agg #[.int .u8 0, .slice none 0 0]), 2, 32) := by kernel_rfl
theorem under40 : Try.prog.underlying 40 = some (.slice 44) := by kernel_rfl

/-- Frames as they lie in a list of frames: each kind, and a list of its own beside row 'ob'. -/
def EncF (W : World) (base : Nat) (ob : Option Nat) : List (UInt8 × List UInt8) → List Value → Prop
  | [], vs => vs = []
  | (k, d) :: l, vs => ∃ dv r, vs = .int .u8 (k.toNat : Int) :: dv :: r ∧ W.ownsRow base 5 1 dv d.length (bv d) ∧ (dv.ownBlock = none ∨ dv.ownBlock ≠ ob) ∧ EncF W base ob l r

theorem EncF.grown {W W' : World} {base : Nat} {ob : Option Nat} (hg : W.grownBy W' ob) : ∀ {l : List (UInt8 × List UInt8)} {vs : List Value}, EncF W base ob l vs → EncF W' base ob l vs
  | [], _, h => h
  | (_, _) :: _, _, ⟨dv, r, h1, h2, h3, h4⟩ => ⟨dv, r, h1, h2.kept hg h3, h3, EncF.grown hg h4⟩
theorem EncF.mk {W W' : World} {base : Nat} {ob : Option Nat} (hm : Mk W W') : ∀ {l : List (UInt8 × List UInt8)} {vs : List Value}, EncF W base ob l vs → EncF W' base ob l vs
  | [], _, h => h
  | (_, _) :: _, _, ⟨dv, r, h1, h2, h3, h4⟩ => ⟨dv, r, h1, own_mk h2 hm, h3, EncF.mk hm h4⟩
theorem EncF.step {W W' : World} {base : Nat} {v v' : Value} (hg : W.grownBy W' v.ownBlock) (hf : Tk.Fr W v v') : ∀ {l : List (UInt8 × List UInt8)} {vs : List Value}, EncF W base v.ownBlock l vs → EncF W' base v'.ownBlock l vs
  | [], _, h => h
  | (_, _) :: _, _, ⟨dv, r, h1, h2, h3, h4⟩ => ⟨dv, r, h1, h2.kept hg h3, ne_symm (fr_ne hf (ne_symm h3) (fun k hk => (h2.lt k hk).2)), EncF.step hg hf h4⟩
theorem EncF.snoc {W : World} {base : Nat} {ob : Option Nat} {k : UInt8} {d : List UInt8} {dv : Value} (h2 : W.ownsRow base 5 1 dv d.length (bv d)) (h3 : dv.ownBlock = none ∨ dv.ownBlock ≠ ob) :
    ∀ {l : List (UInt8 × List UInt8)} {vs : List Value}, EncF W base ob l vs → EncF W base ob (l ++ [(k, d)]) (vs ++ [.int .u8 (k.toNat : Int), dv])
  | [], _, h => by cases h; exact ⟨dv, [], rfl, h2, h3, rfl⟩
  | (_, _) :: _, _, ⟨dv', r, h1, h2', h3', h4⟩ => ⟨dv', r ++ [.int .u8 (k.toNat : Int), dv], by rw [h1]; rfl, h2', h3', EncF.snoc h2 h3 h4⟩
theorem EncF.at {W : World} {base : Nat} {ob : Option Nat} : ∀ {l : List (UInt8 × List UInt8)} {vs : List Value} (i : Nat) (hi : i < l.length), EncF W base ob l vs →
    vs[i * 2]? = some (.int .u8 ((l[i]).1.toNat : Int)) ∧ ∃ dv, vs[i * 2 + 1]? = some dv ∧ W.ownsRow base 5 1 dv (l[i]).2.length (bv (l[i]).2)
  | [], _, i, hi, _ => by simp at hi
  | (k, d) :: l, _, 0, _, ⟨dv, r, h1, h2, _, _⟩ => by subst h1; exact ⟨rfl, dv, rfl, h2⟩
  | (k, d) :: l, _, i + 1, hi, ⟨dv, r, h1, _, _, h4⟩ => by
    subst h1
    have := EncF.at i (by simpa using hi) h4
    simp only [show (i + 1) * 2 = i * 2 + 1 + 1 by omega, List.getElem?_cons_succ, List.getElem_cons_succ]
    exact this
theorem own_one {w : World} {base : Nat} {v : Value} {n : Nat} {xs : List Value} (h : w.ownsRow base 5 1 v n xs) : v.oneCell' = true := by
  obtain ⟨a, cap, rfl, _, _⟩ := (own_sl h).form
  rfl
theorem new_two (w : World) (u v : Value) (e : TypeId) : Sl (w.alloc (.cells #[u, v] e)) 2 (.slice (some ⟨w.heap.size, 0, none⟩) 1 1) 1 [u, v] := by
  refine ⟨rfl, _, _, rfl, Nat.le_refl _, by simp [maxLen], (fun h => by cases h), fun _ => ⟨_, _, rfl, fun j x hx => ?_⟩⟩
  rw [World.cell?_alloc_mark (fr := (0, 0)), Nat.zero_add]
  rw [← hx]
  exact (Array.getElem?_toList (xs := #[u, v])).symm

theorem drop_bs {w : World} {a : Option Addr} {cap : Nat} {xs : List UInt8} (h : Bs w (.slice a xs.length cap) xs) (n : Nat) (hn : n < xs.length) : ∃ b off, a = some ⟨b, off, none⟩ ∧ Bs w (.slice (some ⟨b, off + n, none⟩) (xs.length - n) (cap - n)) (xs.drop n) := by
  obtain ⟨b, off, rfl, _⟩ := h.cellAt (by omega)
  obtain ⟨_, _, he, h1, h2⟩ := h.form
  cases he
  refine ⟨b, off, rfl, ?_⟩
  have := sub_some h rfl n xs.length (xs.length - n) (cap - n) (off + n) (by omega) (by omega) rfl (by omega) (by omega) rfl
  rwa [List.take_length] at this

theorem own_mk2 {w w' : World} {base n size : Nat} {e : TypeId} {v : Value} {xs : List Value} (h : w.ownsRow base e size v n xs) (hm : Mk w w') : w'.ownsRow base e size v n xs := own_mk h hm
theorem own_ne' {w w' : World} {b1 b2 n1 n2 s1 s2 : Nat} {e1 e2 : TypeId} {v1 v2 : Value} {xs ys : List Value} (h1 : w.ownsRow b1 e1 s1 v1 n1 xs) (h2 : w'.ownsRow b2 e2 s2 v2 n2 ys) (hb : w.heap.size ≤ b2) : v1.ownBlock = none ∨ v1.ownBlock ≠ v2.ownBlock := by
  rcases e : v1.ownBlock with _ | k
  · exact .inl rfl
  · refine .inr fun e2 => ?_
    have := (h1.lt k e).2
    have := (h2.lt k e2.symm).1
    omega
theorem bs_nil {w : World} {a : Option Addr} {cap : Nat} (h : a = none → cap = 0) (hc : cap ≤ maxLen) : Bs w (.slice a 0 cap) [] := ⟨rfl, _, _, rfl, Nat.zero_le _, hc, h, fun hp => absurd hp (by simp)⟩
theorem bs_drop {w : World} {a : Option Addr} {cap : Nat} {xs : List UInt8} (h : Bs w (.slice a xs.length cap) xs) (n : Nat) (hn : n ≤ xs.length) (hc : ¬ cap = n) : Bs w (.slice (Option.map (fun x => x.add n) a) (xs.length - n) (cap - n)) (xs.drop n) := by
  have h' := h
  obtain ⟨_, a', c', he, h1, h2, h3, h4⟩ := h'
  cases he
  rcases Nat.lt_or_ge n xs.length with hl | hl
  · obtain ⟨b, off, rfl, hb⟩ := drop_bs h n hl
    have e : Option.map (fun x : Addr => x.add n) (some ⟨b, off, none⟩) = some ⟨b, off + n, none⟩ := by
      by_cases h0 : n = 0 <;> simp [Addr.add, h0]
    rw [e]; exact hb
  · rw [List.drop_eq_nil_of_le hl, show xs.length - n = 0 by omega]
    refine bs_nil (fun ha => ?_) (by omega)
    cases a with
    | none => have := h3 rfl; omega
    | some x => simp at ha

theorem info_of {P : Program} {e : TypeId} {z : Option Value} {s b : Nat} (h : (P.info? e).map (fun i => (i.zero, i.size, i.bytes)) = some (z, s, b)) : ∃ i, P.info? e = some i ∧ i.zero = z ∧ i.size = s ∧ i.bytes = b := by
  cases hi : P.info? e with
  | none => simp [hi] at h
  | some i => simp [hi] at h; exact ⟨i, rfl, h.1, h.2.1, h.2.2⟩
theorem wpList_append_two {w : World} {ops : Array Oper} {rest : List Oper} {o : Oper} {a : Act} {Q : Exit → Act → World → Prop} (hgd : o.guard = none) (s x : Operand)
    (ho : o.op = .call { callee := .builtin .append, args := #[s, x], argTypes := #[40, 40] })
    {base : Nat} {v : Value} {n : Nat} {xs : List Value} (hs : a.eval s = v) (hown : w.ownsRow base 44 2 v n xs)
    {xv : Value} {m : Nat} {news : List Value} (hxe : a.eval x = xv) (hx : Sl w 2 xv m news) (h1 : ∀ u ∈ news, u.oneCell' = true)
    (hb : n + m ≤ 4398046511104) (hbase : base ≤ w.heap.size)
    (h : ∀ v' w', w'.ownsRow base 44 2 v' (n + m) (xs ++ news) → w.grownBy w' v.ownBlock → Tk.Fr w v v' → wpList Try.prog ops Q rest (a.put o.dst v') w') :
    wpList Try.prog ops Q (o :: rest) a w := by
  obtain ⟨i0, hi1, hz0, hz1, hz2⟩ := info_of info44
  exact wpList_append_sl hgd s x 40 ho base 44 i0 (.agg #[.int .u8 0, .slice none 0 0]) 2 32 under40 hi1 hz0 hz1 hz2 rfl (by decide) v n xs hs hown xv m news hxe hx h1 (by simp only [maxLen]; omega) (by omega) hbase (fun v' w' g1 g2 _ g4 => h v' w' g1 g2 g4)

set_option maxHeartbeats 400000 in
set_option maxRecDepth 100000 in
theorem scanR_any (w : World) (v : Value) (xs : List UInt8) (h : Bs w v xs) (hb : xs.length ≤ 1048576) :
    Calls Try.prog 28 #[v] w fun e w' => ∃ fv vs, e = .returned (.tuple #[fv, .int .i64 (wholeOf (framesOf xs) : Int)]) ∧ w'.ownsRow w.heap.size 44 2 fv (framesOf xs).length vs ∧ EncF w' w.heap.size fv.ownBlock (framesOf xs) vs ∧ Mk w w' := by
  obtain ⟨a, cap, rfl, hc1, hc2⟩ := h.form
  have H := Lib.hid h
  clear h
  go_enter Try.func28, Try.ntmps28
  go_wp2_with fail
  go_loopw [4, 5] (fun o i wr => ∃ (pre : List (UInt8 × List UInt8)) (vs : List Value) (n : Nat), i = .int .i64 (n : Int) ∧ n = wholeOf pre ∧ n ≤ xs.length ∧ pre.length ≤ n ∧ framesOf xs = pre ++ framesOf (xs.drop n) ∧ wr.ownsRow w.heap.size 44 2 o pre.length vs ∧ EncF wr w.heap.size o.ownBlock pre vs ∧ Mk w wr)
    (fun _ i _ => xs.length - (intOf i).toNat)
  case atStart => exact ⟨[], [], 0, rfl, rfl, by omega, by simp, rfl, World.ownsRow_nil _ _ _ _, rfl, mk_refl _⟩
  case round =>
    obtain ⟨pre, vs, n, rfl, hn, hnl, hpl, hfr, ho, he, hm⟩ := hrel
    have HN := Lib.hid hn
    have HFR := Lib.hid hfr
    have HO := Lib.hid ho
    have HE := Lib.hid he
    have HM := Lib.hid hm
    clear hn hfr ho he hm
    by_cases hcn : cap = n
    · have hx : xs.drop n = [] := List.drop_eq_nil_of_le (by omega)
      have hS : Bs wr (.slice a (xs.length - n) 0) [] := by rw [show xs.length - n = 0 by omega]; exact bs_nil (fun _ => rfl) (by simp [maxLen])
      have hnone : framesOf ([] : List UInt8) = [] := framesOf_none (by decide +kernel)
      rw [hx, hnone, List.append_nil] at HFR
      have HS := Lib.hid hS
      clear hS hx hnone
      go_wp2_with (go_at_call 25; refine (getR_any _ _ [] HS.out (by simp)).mono ?_; intro e w1 hp; unfold GetPost at hp; rw [show frameOf [] = none from by decide +kernel] at hp; dsimp only at hp; obtain ⟨hm1, dv, _, rfl⟩ := hp; have HM1 := Lib.hid hm1; clear hm1)
      go_ret2
      refine ⟨u4, vs, by rw [HFR.out, ← HN.out]; rfl, ?_, ?_, mk_trans HM.out HM1.out⟩
      · rw [HFR.out]; exact own_mk2 HO.out HM1.out
      · rw [HFR.out]; exact HE.out.mk HM1.out
    · have HS := Lib.hid ((bs_drop H.out n hnl hcn).mk HM.out)
      rcases hf : frameOf (xs.drop n) with _ | ⟨k, dat, m⟩
      · rw [framesOf_none hf, List.append_nil] at HFR
        have HF := Lib.hid hf
        clear hf
        go_wp2_with (go_at_call 25; refine (getR_any _ _ (xs.drop n) HS.out (by simp; omega)).mono ?_; intro e w1 hp; unfold GetPost at hp; rw [HF.out] at hp; dsimp only at hp; obtain ⟨hm1, dv, _, rfl⟩ := hp; have HM1 := Lib.hid hm1; clear hm1)
        go_ret2
        refine ⟨u4, vs, by rw [HFR.out, ← HN.out]; rfl, ?_, ?_, mk_trans HM.out HM1.out⟩
        · rw [HFR.out]; exact own_mk2 HO.out HM1.out
        · rw [HFR.out]; exact HE.out.mk HM1.out
      · obtain ⟨hm1, hm2, hm3⟩ := frame_len hf
        rw [framesOf_some hf, List.drop_drop] at HFR
        rw [List.length_drop] at hm2
        have HF := Lib.hid hf
        have H1 := Lib.hid hm1
        have hm9 : 9 ≤ m := by omega
        have hmne : ((m : Int) == 0) = false := by simp; omega
        clear hf hm1
        go_wp2_with (first | (go_at_call 25; refine (getR_any _ _ (xs.drop n) HS.out (by simp; omega)).mono ?_; intro e w1 hp; unfold GetPost at hp; rw [HF.out] at hp; dsimp only at hp; obtain ⟨hm1', dv, hod, rfl⟩ := hp; obtain ⟨da, dc, rfl, _, _⟩ := (own_sl hod).form; have HM1 := Lib.hid hm1'; have HOD := Lib.hid hod; clear hm1' hod) | (at_builtin; refine wpList_append_two rfl (.tmp 21) (.tmp 25) rfl rfl (own_mk HO.out (mk_trans HM1.out (mk_alloc _ _))) rfl (new_two w1 (.int .u8 (k.toNat : Int)) (.slice da dat.length dc) 44) (by intro u hu; simp at hu; rcases hu with rfl | rfl; rfl; exact own_one HOD.out) (by omega) (by have := HM.out.size; have := HM1.out.size; simp; omega) ?_; intro v2 w2 ho2 hg2 hf2; have HO2 := Lib.hid ho2; have HG2 := Lib.hid (alloc_grown (show (w1.alloc _).grownBy w2 u4.ownBlock from hg2)); have HF2 := Lib.hid (show Tk.Fr w1 u4 v2 from own_fresh_alloc hf2); clear ho2 hg2 hf2))
        have hne : (Value.slice da dat.length dc).ownBlock = none ∨ (Value.slice da dat.length dc).ownBlock ≠ u4.ownBlock := ne_symm (own_ne' HO.out HOD.out (Nat.le_refl _))
        have hod := own_base HOD.out HM.out.size
        have he := EncF.step HG2.out HF2.out (EncF.snoc (k := k) hod hne (HE.out.mk HM1.out))
        refine ⟨⟨pre ++ [(k, dat)], _, n + m, by simp, ?_, by omega, by simp; omega, ?_, by simpa using HO2.out, he, mk_own (mk_trans HM.out HM1.out) (own_mk HO.out HM1.out) HG2.out⟩, ?_⟩
        · rw [wholeOf_append, ← HN.out]; simp [wholeOf]; exact H1.out
        · rw [HFR.out]; simp
        · simp [intOf]; omega
end Go.Proofs.FrW
