/- The walks of layer 5, frame: the iterator behind Scan; Scan; Whole. -/
import Derived.Test.YtcfjdldlcdomgaaFrG
import Derived.Test.YtcfjdldlcdomgaaRg
import Derived.Shelf.Abstract
import Derived.Shelf.RegionOpen
import Derived.OwnWalkIn
import Derived.TacticsInMore
import Derived.LoopNIn
import Derived.LoopIn
namespace Go.Proofs.FrW
open Go Go.RowKit Go.Tk Go.Sp Go.Rg

/-- All frames with which bytes begin. -/
def framesOf (xs : List UInt8) : List (UInt8 × List UInt8) :=
  match h : frameOf xs with
  | none => []
  | some (k, dat, n) => (k, dat) :: framesOf (xs.drop n)
termination_by xs.length
decreasing_by have := frame_len h; simp; omega

theorem framesOf_none {xs : List UInt8} (h : frameOf xs = none) : framesOf xs = [] := by
  rw [framesOf]; split
  · rfl
  · rename_i h'; rw [h] at h'; cases h'
theorem framesOf_some {xs : List UInt8} {k : UInt8} {dat : List UInt8} {n : Nat} (h : frameOf xs = some (k, dat, n)) : framesOf xs = (k, dat) :: framesOf (xs.drop n) := by
  rw [framesOf]; split
  · rename_i h'; rw [h] at h'; cases h'
  · rename_i h'; rw [h] at h'; cases h'; rfl

/-- What is handed on: a kind, data, and the list in which they lie. -/
abbrev Item := UInt8 × List UInt8 × Value
def key (x : Item) : UInt8 × List UInt8 := (x.1, x.2.1)
def encI (x : Item) : Array Value := #[.int .u8 (x.1.toNat : Int), x.2.2]
def GI (b : Nat) (x : Item) (W : World) : Prop := W.ownsRow b 5 1 x.2.2 x.2.1.length (bv x.2.1)
def NxI (xs : List UInt8) (pre : List Item) (x : Item) : Prop := pre.map key ++ [key x] <+: framesOf xs
def lenOf : Value → Nat | .slice _ n _ => n | _ => 0
/-- Of the blocks from lo to hi nothing turns. -/
def KpI (lo hi : Nat) (A B : World) : Prop := A.heap.size ≤ B.heap.size ∧ ∀ k, lo ≤ k → k < hi → B.heap[k]? = A.heap[k]?
theorem KpI.trans {lo hi : Nat} {A B C : World} (h : KpI lo hi A B) (k : KpI lo hi B C) : KpI lo hi A C := ⟨Nat.le_trans h.1 k.1, fun i h1 h2 => (k.2 i h1 h2).trans (h.2 i h1 h2)⟩
theorem mk_kp {lo hi : Nat} {A B : World} (h : Mk A B) (hh : hi ≤ A.heap.size) : KpI lo hi A B := ⟨h.size, fun k _ h2 => h.block k (by omega)⟩
theorem bs_kp {lo hi : Nat} {A B : World} {v : Value} {xs : List UInt8} (h : Bs A v xs) (hv : ∀ k, v.ownBlock = some k → lo ≤ k ∧ k < hi) (hk : KpI lo hi A B) : Bs B v xs :=
  h.moved fun k _ e => hk.2 k (hv k e.symm).1 (hv k e.symm).2

set_option maxRecDepth 100000 in
theorem scan1_seq (w : World) (gb lo hi : Nat) (v : Value) (xs : List UInt8) (hc : w.cell? ⟨gb, 0, none⟩ = some v) (hv : Bs w v xs) (hgb : lo ≤ gb ∧ gb < hi) (hvb : ∀ k, v.ownBlock = some k → lo ≤ k ∧ k < hi) (hhi : hi ≤ w.heap.size) (hxl : xs.length ≤ 140737488355328) :
    SeqG Try.prog 82 #[.pointer (some ⟨gb, 0, none⟩)] encI GI (NxI xs) (KpI lo hi) (fun ys => ys.map key = framesOf xs) (fun pre => pre.map key <+: framesOf xs) w := by
  intro n l J Jx W hW hJ hJx hY h0
  have hcW : W.cell? ⟨gb, 0, none⟩ = some v := (hW.cell (p := ⟨gb, 0, none⟩) (by show gb < _; omega)).trans hc
  have hvW : Bs W v xs := hv.mk hW
  have hhiW : hi ≤ W.heap.size := by have := hW.size; omega
  refine callsIn_of_wp Try.func82 rfl trivial ?_ rfl
  simp only [Try.ntmps82, List.size_toArray, List.length_cons, List.length_nil, Nat.reduceAdd, Nat.reduceSub, Array.replicate_succ, Array.replicate_zero, List.push_toArray, List.append_toArray, List.nil_append, List.cons_append]
  have HY := Lib.hid hY
  have HJ := Lib.hid hJ
  have HJx := Lib.hid hJx
  have HV := Lib.hid hvW
  have HVB := Lib.hid hvb
  have HW := Lib.hid hW
  have H0 := Lib.hid h0
  clear hY hJ hJx hvW hvb hW h0 hv hc
  gi_wp2
  gi_loopw [3] (fun rv wr => ∃ (pre : List Item) (ys : List UInt8), Bs wr rv ys ∧ (∀ k, rv.ownBlock = some k → lo ≤ k ∧ k < hi) ∧ framesOf xs = pre.map key ++ framesOf ys ∧ ys.length ≤ xs.length ∧ J pre wr ∧ hi ≤ wr.heap.size ∧ W.heap.size ≤ wr.heap.size)
    (fun rv _ => lenOf rv)
  case atStart => exact ⟨[], xs, HV.out, HVB.out, rfl, Nat.le_refl _, H0.out, hhiW, Nat.le_refl _⟩
  case round =>
    obtain ⟨pre, ys, hbs, hob, hfr, hyl, hJp, hsz, hsz2⟩ := hrel
    obtain ⟨a, cap, hrv, hc1, hc2⟩ := hbs.form
    subst hrv
    have HS := Lib.hid hbs
    have HOB := Lib.hid hob
    have HFR := Lib.hid hfr
    have HJP := Lib.hid hJp
    clear hbs hob hfr hJp
    rcases hf : frameOf ys with _ | ⟨k, dat, m⟩
    · have HF := Lib.hid hf
      clear hf
      gi_wp2_with (first | (refine ⟨trivial, ?_⟩; gi_at_call 78; refine (callsIn_wide.2 (first_any _ _ ys HS.out (by omega))).mono ?_; intro e w1 hp; unfold FirstPost at hp; rw [HF.out] at hp; obtain ⟨hm, rfl⟩ := hp; have HM := Lib.hid hm; clear hm))
      refine ⟨trivial, ?_⟩
      gi_wp2_with (fail)
      refine ⟨fun _ _ => trivial, ?_⟩
      gi_wp2_with (fail)
      refine bodyPost_ret (results_none rfl _ _ _) rfl ?_
      refine ⟨⟨_, rfl⟩, .inl ⟨pre, ?_, HJ.out _ _ _ HJP.out HM.out⟩⟩
      rw [HFR.out, framesOf_none HF.out, List.append_nil]
    · obtain ⟨hm1, hm2, hm3⟩ := frame_len hf
      obtain ⟨b, off, rfl, _⟩ := HS.out.cellAt (by omega)
      have hm9 : 9 ≤ m := by omega
      have hmne : ((m : Int) == 0) = false := by simp; omega
      have HF := Lib.hid hf
      clear hf hm1
      gi_wp2_with (first | (refine ⟨trivial, ?_⟩; gi_at_call 78; refine (callsIn_wide.2 (first_any _ _ ys HS.out (by omega))).mono ?_; intro e w1 hp; unfold FirstPost at hp; rw [HF.out] at hp; obtain ⟨hm, dv0, rfl, hbs⟩ := hp; have HM := Lib.hid hm; have HS1 := Lib.hid (hbs.mk hm); clear hm hbs) | (refine ⟨trivial, ?_⟩; gi_at_call 79; refine (callsIn_wide.2 (clone_any _ _ dat HS1.out (by omega))).mono ?_; rintro e w2 ⟨dv, rfl, ho2, hm2⟩; have HO2 := Lib.hid ho2; have HM2 := Lib.hid hm2; clear ho2 hm2; obtain ⟨fn, tmps, assign, body, hy, hR⟩ := HY.out pre (k, dat, dv) w2 (HJ.out _ _ _ HJP.out (mk_trans HM.out HM2.out)) (by unfold NxI; rw [HFR.out, framesOf_some HF.out]; exact ⟨framesOf (ys.drop m), by simp [key]⟩) (own_base HO2.out (by have := HM.out.size; omega)); dsimp only [encI] at hy; have HR := Lib.hid hR; clear hR))
      refine HR.out.mono ?_
      rintro e W3 (⟨rfl, hJ3, hk3⟩ | ⟨rfl, hJx3⟩)
      · have HJ3 := Lib.hid hJ3
        have HK3 := Lib.hid hk3
        clear hJ3 hk3 hy HR
        have hB3 : Bs W3 (.slice (some ⟨b, off, none⟩) ys.length cap) ys := bs_kp (HS.out.mk (mk_trans HM.out HM2.out)) HOB.out HK3.out
        have hlen : (ys.drop m).length = ys.length - m := by simp
        have hs3 : w2.heap.size ≤ W3.heap.size := HK3.out.1
        have hs2 : wr.heap.size ≤ w2.heap.size := (mk_trans HM.out HM2.out).size
        have hnext : framesOf xs = (pre ++ [(k, dat, dv)]).map key ++ framesOf (ys.drop m) := by rw [HFR.out, framesOf_some HF.out]; simp [key]
        have HN := Lib.hid hnext
        have HB3 := Lib.hid hB3
        have HLen := Lib.hid hlen
        clear hB3 hnext hlen
        by_cases hcm : cap = m
        · gi_wp2
          refine ⟨⟨pre ++ [(k, dat, dv)], ys.drop m, ?_, fun j hj => HOB.out j hj, HN.out, by rw [HLen.out]; omega, HJ3.out, by omega, by omega⟩, ?_⟩
          · have e : ys.drop m = [] := List.drop_eq_nil_of_le (by omega)
            rw [e, show ys.length - m = 0 by omega]
            exact bs_empty _ _
          · simp [lenOf]; omega
        · gi_wp2
          refine ⟨⟨pre ++ [(k, dat, dv)], ys.drop m, ?_, fun j hj => HOB.out j hj, HN.out, by rw [HLen.out]; omega, HJ3.out, by omega, by omega⟩, ?_⟩
          · have := sub_some HB3.out rfl m ys.length (ys.length - m) (cap - m) (off + m) (by omega) (by omega) rfl (by omega) (by omega) rfl
            rwa [List.take_length] at this
          · simp [lenOf]; omega
      · have HJX3 := Lib.hid hJx3
        clear hJx3 hy HR
        gi_wp2
        refine bodyPost_ret (results_none rfl _ _ _) rfl ?_
        refine ⟨⟨_, rfl⟩, .inr ⟨pre ++ [(k, dat, dv)], ?_, HJX3.out⟩⟩
        rw [HFR.out, framesOf_some HF.out]
        exact ⟨framesOf (ys.drop m), by simp [key]⟩

/-- Scan hands back a function that has a box and a list of its own. -/
theorem scan_any (w : World) (v : Value) (xs : List UInt8) (h : Bs w v xs) (hb : xs.length ≤ 140737488355328) :
    Calls Try.prog 27 #[v] w fun e w' => ∃ (gb : Nat) (v' : Value), e = .returned (.func (.func 82) #[] #[.pointer (some ⟨gb, 0, none⟩)]) ∧ w'.cell? ⟨gb, 0, none⟩ = some v' ∧ Bs w' v' xs ∧
      (w.heap.size ≤ gb ∧ gb < w'.heap.size) ∧ (∀ k, v'.ownBlock = some k → w.heap.size ≤ k ∧ k < w'.heap.size) ∧ Mk w w' := by
  obtain ⟨a, cap, rfl, hc1, hc2⟩ := h.form
  have H := Lib.hid h
  clear h hc1 hc2
  go_enter Try.func27, Try.ntmps27
  go_wp2_with (go_at_call 79; refine (clone_any _ _ xs (H.out.mk (mk_alloc _ _)) hb).mono ?_; rintro e w1 ⟨v1, rfl, ho1, hm1⟩; obtain ⟨a1, c1, rfl, _, _⟩ := (own_sl ho1).form; have HO1 := Lib.hid ho1; have HM1 := Lib.hid hm1; have hbx : w1.heap[w.heap.size]? = some (.cells #[.slice a xs.length cap] 22 (0, 0)) := (hm1.block _ (by simp)).trans (heap_alloc_new w _); have HBX := Lib.hid hbx; have hc1 : w1.cell? ⟨w.heap.size, 0, none⟩ = some (.slice a xs.length cap) := cell_of_row _ _ _ _ _ _ hbx; have hf1 : w1.frozen? ⟨w.heap.size, 0, none⟩ = false := frozen_of_row _ _ _ _ _ hbx; clear hbx ho1 hm1)
  go_ret
  have hsz := HM1.out.size
  simp only [World.size_alloc] at hsz
  have hx := heap_setCell_same w1 w.heap.size 0 _ 22 (.slice a1 xs.length c1) HBX.out
  have hl := own_lt HO1.out
  refine ⟨w.heap.size, .slice a1 xs.length c1, rfl, ?_, ?_, ⟨Nat.le_refl _, by simp; omega⟩, ?_, ?_⟩
  · rw [cell_of_row _ _ _ _ _ _ hx]; simp
  · refine (own_sl HO1.out).moved fun k hk e => Below.heap_setCell _ _ _ _ ?_
    have := hl k e.symm
    simp at this ⊢; omega
  · intro k hk
    have h1 := HO1.out.lt k hk
    simp at h1 ⊢; omega
  · exact mk_trans (mk_alloc w _) HM1.out |>.setCell (Nat.le_refl _) _
end Go.Proofs.FrW
