/- The walks of layer 5, frame: the iterator behind Scan; Scan; Whole. The walks of layer 5, frame: Whole. The walks of layer 5, frame: the document's examples. Layer 4, disk: the walks of the statement DiskKeeps' own words. -/
import Derived.Test.YtcfjdldlcdomgaaMWalPlays5
import Derived.Test.YtcfjdldlcdomgaaMWalPlays4
import Derived.Shelf.Abstract
import Derived.Shelf.RegionOpen
import Derived.OwnWalkIn
import Derived.TacticsInMore
import Derived.LoopNIn
import Derived.LoopIn
import Derived.Lib.SlBytesConst
import Derived.Laws.IdiomStrings
import Derived.Laws.BytesArg
import Derived.Laws.BytesString
set_option linter.unusedVariables false
set_option linter.unusedSimpArgs false
namespace Go.Proofs.FrW
open Go Go.RowKit Go.Tk Go.Sp Go.Rg

/-- All frames with which bytes begin. -/
def framesOf (xs : List UInt8) : List (UInt8 × List UInt8) :=
  match h : frameOf xs with
  | none => []
  | some (k, dat, n) => (k, dat) :: framesOf (xs.drop n)
termination_by xs.length
decreasing_by have := frame_len h; simp; omega

theorem framesOf_none {xs : List UInt8} (h : frameOf xs = none) : framesOf xs = [] := by
  rw [framesOf]; split
  · rfl
  · rename_i h'; rw [h] at h'; cases h'
theorem framesOf_some {xs : List UInt8} {k : UInt8} {dat : List UInt8} {n : Nat} (h : frameOf xs = some (k, dat, n)) : framesOf xs = (k, dat) :: framesOf (xs.drop n) := by
  rw [framesOf]; split
  · rename_i h'; rw [h] at h'; cases h'
  · rename_i h'; rw [h] at h'; cases h'; rfl

/-- What is handed on: a kind, data, and the list in which they lie. -/
abbrev Item := UInt8 × List UInt8 × Value
def key (x : Item) : UInt8 × List UInt8 := (x.1, x.2.1)
def encI (x : Item) : Array Value := #[.int .u8 (x.1.toNat : Int), x.2.2]
def GI (b : Nat) (x : Item) (W : World) : Prop := W.ownsRow b 5 1 x.2.2 x.2.1.length (bv x.2.1)
def NxI (xs : List UInt8) (pre : List Item) (x : Item) : Prop := pre.map key ++ [key x] <+: framesOf xs
def lenOf : Value → Nat | .slice _ n _ => n | _ => 0
/-- Of the blocks from lo to hi nothing turns. -/
def KpI (lo hi : Nat) (A B : World) : Prop := A.heap.size ≤ B.heap.size ∧ ∀ k, lo ≤ k → k < hi → B.heap[k]? = A.heap[k]?
theorem KpI.trans {lo hi : Nat} {A B C : World} (h : KpI lo hi A B) (k : KpI lo hi B C) : KpI lo hi A C := ⟨Nat.le_trans h.1 k.1, fun i h1 h2 => (k.2 i h1 h2).trans (h.2 i h1 h2)⟩
theorem mk_kp {lo hi : Nat} {A B : World} (h : Mk A B) (hh : hi ≤ A.heap.size) : KpI lo hi A B := ⟨h.size, fun k _ h2 => h.block k (by omega)⟩
theorem bs_kp {lo hi : Nat} {A B : World} {v : Value} {xs : List UInt8} (h : Bs A v xs) (hv : ∀ k, v.ownBlock = some k → lo ≤ k ∧ k < hi) (hk : KpI lo hi A B) : Bs B v xs :=
  h.moved fun k _ e => hk.2 k (hv k e.symm).1 (hv k e.symm).2

set_option maxRecDepth 100000 in
theorem scan1_seq (w : World) (gb lo hi : Nat) (v : Value) (xs : List UInt8) (hc : w.cell? ⟨gb, 0, none⟩ = some v) (hv : Bs w v xs) (hgb : lo ≤ gb ∧ gb < hi) (hvb : ∀ k, v.ownBlock = some k → lo ≤ k ∧ k < hi) (hhi : hi ≤ w.heap.size) (hxl : xs.length ≤ 140737488355328) :
    SeqG Try.prog 82 #[.pointer (some ⟨gb, 0, none⟩)] encI GI (NxI xs) (KpI lo hi) (fun ys => ys.map key = framesOf xs) (fun pre => pre.map key <+: framesOf xs) w := by
  intro n l J Jx W hW hJ hJx hY h0
  have hcW : W.cell? ⟨gb, 0, none⟩ = some v := (hW.cell (p := ⟨gb, 0, none⟩) (by show gb < _; omega)).trans hc
  have hvW : Bs W v xs := hv.mk hW
  have hhiW : hi ≤ W.heap.size := by have := hW.size; omega
  refine callsIn_of_wp Try.func82 rfl trivial ?_ rfl
  simp only [Try.ntmps82, List.size_toArray, List.length_cons, List.length_nil, Nat.reduceAdd, Nat.reduceSub, Array.replicate_succ, Array.replicate_zero, List.push_toArray, List.append_toArray, List.nil_append, List.cons_append]
  have HY := Lib.hid hY
  have HJ := Lib.hid hJ
  have HJx := Lib.hid hJx
  have HV := Lib.hid hvW
  have HVB := Lib.hid hvb
  have HW := Lib.hid hW
  have H0 := Lib.hid h0
  clear hY hJ hJx hvW hvb hW h0 hv hc
  gi_wp2
  gi_loopw [3] (fun rv wr => ∃ (pre : List Item) (ys : List UInt8), Bs wr rv ys ∧ (∀ k, rv.ownBlock = some k → lo ≤ k ∧ k < hi) ∧ framesOf xs = pre.map key ++ framesOf ys ∧ ys.length ≤ xs.length ∧ J pre wr ∧ hi ≤ wr.heap.size ∧ W.heap.size ≤ wr.heap.size)
    (fun rv _ => lenOf rv)
  case atStart => exact ⟨[], xs, HV.out, HVB.out, rfl, Nat.le_refl _, H0.out, hhiW, Nat.le_refl _⟩
  case round =>
    obtain ⟨pre, ys, hbs, hob, hfr, hyl, hJp, hsz, hsz2⟩ := hrel
    obtain ⟨a, cap, hrv, hc1, hc2⟩ := hbs.form
    subst hrv
    have HS := Lib.hid hbs
    have HOB := Lib.hid hob
    have HFR := Lib.hid hfr
    have HJP := Lib.hid hJp
    clear hbs hob hfr hJp
    rcases hf : frameOf ys with _ | ⟨k, dat, m⟩
    · have HF := Lib.hid hf
      clear hf
      gi_wp2_with (first | (refine ⟨trivial, ?_⟩; gi_at_call 78; refine (callsIn_wide.2 (first_any _ _ ys HS.out (by omega))).mono ?_; intro e w1 hp; unfold FirstPost at hp; rw [HF.out] at hp; obtain ⟨hm, rfl⟩ := hp; have HM := Lib.hid hm; clear hm))
      refine ⟨trivial, ?_⟩
      gi_wp2_with (fail)
      refine ⟨fun _ _ => trivial, ?_⟩
      gi_wp2_with (fail)
      refine bodyPost_ret (results_none rfl _ _ _) rfl ?_
      refine ⟨⟨_, rfl⟩, .inl ⟨pre, ?_, HJ.out _ _ _ HJP.out HM.out⟩⟩
      rw [HFR.out, framesOf_none HF.out, List.append_nil]
    · obtain ⟨hm1, hm2, hm3⟩ := frame_len hf
      obtain ⟨b, off, rfl, _⟩ := HS.out.cellAt (by omega)
      have hm9 : 9 ≤ m := by omega
      have hmne : ((m : Int) == 0) = false := by simp; omega
      have HF := Lib.hid hf
      clear hf hm1
      gi_wp2_with (first | (refine ⟨trivial, ?_⟩; gi_at_call 78; refine (callsIn_wide.2 (first_any _ _ ys HS.out (by omega))).mono ?_; intro e w1 hp; unfold FirstPost at hp; rw [HF.out] at hp; obtain ⟨hm, dv0, rfl, hbs⟩ := hp; have HM := Lib.hid hm; have HS1 := Lib.hid (hbs.mk hm); clear hm hbs) | (refine ⟨trivial, ?_⟩; gi_at_call 79; refine (callsIn_wide.2 (clone_any _ _ dat HS1.out (by omega))).mono ?_; rintro e w2 ⟨dv, rfl, ho2, hm2⟩; have HO2 := Lib.hid ho2; have HM2 := Lib.hid hm2; clear ho2 hm2; obtain ⟨fn, tmps, assign, body, hy, hR⟩ := HY.out pre (k, dat, dv) w2 (HJ.out _ _ _ HJP.out (mk_trans HM.out HM2.out)) (by unfold NxI; rw [HFR.out, framesOf_some HF.out]; exact ⟨framesOf (ys.drop m), by simp [key]⟩) (own_base HO2.out (by have := HM.out.size; omega)); dsimp only [encI] at hy; have HR := Lib.hid hR; clear hR))
      refine HR.out.mono ?_
      rintro e W3 (⟨rfl, hJ3, hk3⟩ | ⟨rfl, hJx3⟩)
      · have HJ3 := Lib.hid hJ3
        have HK3 := Lib.hid hk3
        clear hJ3 hk3 hy HR
        have hB3 : Bs W3 (.slice (some ⟨b, off, none⟩) ys.length cap) ys := bs_kp (HS.out.mk (mk_trans HM.out HM2.out)) HOB.out HK3.out
        have hlen : (ys.drop m).length = ys.length - m := by simp
        have hs3 : w2.heap.size ≤ W3.heap.size := HK3.out.1
        have hs2 : wr.heap.size ≤ w2.heap.size := (mk_trans HM.out HM2.out).size
        have hnext : framesOf xs = (pre ++ [(k, dat, dv)]).map key ++ framesOf (ys.drop m) := by rw [HFR.out, framesOf_some HF.out]; simp [key]
        have HN := Lib.hid hnext
        have HB3 := Lib.hid hB3
        have HLen := Lib.hid hlen
        clear hB3 hnext hlen
        by_cases hcm : cap = m
        · gi_wp2
          refine ⟨⟨pre ++ [(k, dat, dv)], ys.drop m, ?_, fun j hj => HOB.out j hj, HN.out, by rw [HLen.out]; omega, HJ3.out, by omega, by omega⟩, ?_⟩
          · have e : ys.drop m = [] := List.drop_eq_nil_of_le (by omega)
            rw [e, show ys.length - m = 0 by omega]
            exact bs_empty _ _
          · simp [lenOf]; omega
        · gi_wp2
          refine ⟨⟨pre ++ [(k, dat, dv)], ys.drop m, ?_, fun j hj => HOB.out j hj, HN.out, by rw [HLen.out]; omega, HJ3.out, by omega, by omega⟩, ?_⟩
          · have := sub_some HB3.out rfl m ys.length (ys.length - m) (cap - m) (off + m) (by omega) (by omega) rfl (by omega) (by omega) rfl
            rwa [List.take_length] at this
          · simp [lenOf]; omega
      · have HJX3 := Lib.hid hJx3
        clear hJx3 hy HR
        gi_wp2
        refine bodyPost_ret (results_none rfl _ _ _) rfl ?_
        refine ⟨⟨_, rfl⟩, .inr ⟨pre ++ [(k, dat, dv)], ?_, HJX3.out⟩⟩
        rw [HFR.out, framesOf_some HF.out]
        exact ⟨framesOf (ys.drop m), by simp [key]⟩

/-- Scan hands back a function that has a box and a list of its own. -/
theorem scan_any (w : World) (v : Value) (xs : List UInt8) (h : Bs w v xs) (hb : xs.length ≤ 140737488355328) :
    Calls Try.prog 27 #[v] w fun e w' => ∃ (gb : Nat) (v' : Value), e = .returned (.func (.func 82) #[] #[.pointer (some ⟨gb, 0, none⟩)]) ∧ w'.cell? ⟨gb, 0, none⟩ = some v' ∧ Bs w' v' xs ∧
      (w.heap.size ≤ gb ∧ gb < w'.heap.size) ∧ (∀ k, v'.ownBlock = some k → w.heap.size ≤ k ∧ k < w'.heap.size) ∧ Mk w w' := by
  obtain ⟨a, cap, rfl, hc1, hc2⟩ := h.form
  have H := Lib.hid h
  clear h hc1 hc2
  go_enter Try.func27, Try.ntmps27
  go_wp2_with (go_at_call 79; refine (clone_any _ _ xs (H.out.mk (mk_alloc _ _)) hb).mono ?_; rintro e w1 ⟨v1, rfl, ho1, hm1⟩; obtain ⟨a1, c1, rfl, _, _⟩ := (own_sl ho1).form; have HO1 := Lib.hid ho1; have HM1 := Lib.hid hm1; have hbx : w1.heap[w.heap.size]? = some (.cells #[.slice a xs.length cap] 22 (0, 0)) := (hm1.block _ (by simp)).trans (heap_alloc_new w _); have HBX := Lib.hid hbx; have hc1 : w1.cell? ⟨w.heap.size, 0, none⟩ = some (.slice a xs.length cap) := cell_of_row _ _ _ _ _ _ hbx; have hf1 : w1.frozen? ⟨w.heap.size, 0, none⟩ = false := frozen_of_row _ _ _ _ _ hbx; clear hbx ho1 hm1)
  go_ret
  have hsz := HM1.out.size
  simp only [World.size_alloc] at hsz
  have hx := heap_setCell_same w1 w.heap.size 0 _ 22 (.slice a1 xs.length c1) HBX.out
  have hl := own_lt HO1.out
  refine ⟨w.heap.size, .slice a1 xs.length c1, rfl, ?_, ?_, ⟨Nat.le_refl _, by simp; omega⟩, ?_, ?_⟩
  · rw [cell_of_row _ _ _ _ _ _ hx]; simp
  · refine (own_sl HO1.out).moved fun k hk e => Below.heap_setCell _ _ _ _ ?_
    have := hl k e.symm
    simp at this ⊢; omega
  · intro k hk
    have h1 := HO1.out.lt k hk
    simp at h1 ⊢; omega
  · exact mk_trans (mk_alloc w _) HM1.out |>.setCell (Nat.le_refl _) _
end Go.Proofs.FrW

namespace Go.Proofs.FrW
open Go Go.RowKit Go.Tk Go.Sp Go.Rg Go.Shelf
attribute [local go_sem] Oper.semAt_some

/-- How many bytes frames have. -/
def wholeOf : List (UInt8 × List UInt8) → Nat
  | [] => 0
  | p :: l => p.2.length + 9 + wholeOf l
theorem wholeOf_append (l m : List (UInt8 × List UInt8)) : wholeOf (l ++ m) = wholeOf l + wholeOf m := by
  induction l with
  | nil => simp [wholeOf]
  | cons p l ih => simp [wholeOf, ih]; omega
theorem wholeOf_le (n : Nat) : ∀ xs : List UInt8, xs.length ≤ n → wholeOf (framesOf xs) ≤ xs.length := by
  induction n with
  | zero =>
    intro xs h
    have : frameOf xs = none := by unfold frameOf; rw [if_pos (by omega)]
    rw [framesOf_none this]; simp [wholeOf]
  | succ n ih =>
    intro xs h
    rcases hf : frameOf xs with _ | ⟨k, dat, m⟩
    · rw [framesOf_none hf]; simp [wholeOf]
    · rw [framesOf_some hf]
      obtain ⟨h1, h2, h3⟩ := frame_len hf
      have := ih (xs.drop m) (by simp; omega)
      simp [wholeOf] at this ⊢; omega
theorem own_from (B b : Nat) : OwnFrom B (GI b) := fun s W W' row hs hg hr => by
  refine World.ownsRow.kept hs hg ?_
  rcases hs.2 with ⟨hv, _⟩ | ⟨g, cap, cur, hv, _, hgg, _⟩
  · rw [hv]; exact .inl rfl
  · refine .inr fun e => ?_
    rw [hv] at e
    obtain ⟨_, o, ho, hc⟩ := hr g e.symm
    rw [hgg] at ho
    cases ho
    cases hc
/-- A variable in a block of its own. -/
def Bx (W : World) (g : Nat) (t : TypeId) (v : Value) : Prop := W.heap[g]? = some (.cells #[v] t (0, 0))
theorem Bx.cell {W : World} {g : Nat} {t : TypeId} {v : Value} (h : Bx W g t v) : W.cell? ⟨g, 0, none⟩ = some v := cell_of_row _ _ _ _ _ _ h
theorem Bx.frozen {W : World} {g : Nat} {t : TypeId} {v : Value} (h : Bx W g t v) : W.frozen? ⟨g, 0, none⟩ = false := frozen_of_row _ _ _ _ _ h
theorem Bx.set {W : World} {g : Nat} {t : TypeId} {v : Value} (h : Bx W g t v) (u : Value) : Bx (W.setCell ⟨g, 0, none⟩ u) g t u := by
  have := heap_setCell_same W g 0 _ t u h
  simpa [Bx] using this
theorem Bx.mk {W W' : World} {g : Nat} {t : TypeId} {v : Value} (h : Bx W g t v) (hm : Mk W W') : Bx W' g t v := (hm.block _ (Array.getElem?_eq_some_iff.1 h).1).trans h
theorem bx_from {β : Type} (B g : Nat) (t : TypeId) (f : β → Value) : OwnFrom B (fun s W => Bx W g t (f s)) := fun s W W' row hs hg hr => by
  refine (hg.block g (Array.getElem?_eq_some_iff.1 hs).1 fun e => ?_).trans hs
  obtain ⟨_, o, ho, hc⟩ := hr g e.symm
  rw [hs] at ho
  cases ho
  cases hc
theorem mk_from {β : Type} (B : Nat) (w : World) (hB : w.heap.size ≤ B) : OwnFrom B (fun (_ : β) W => Mk w W) := fun s W W' row hs hg hr =>
  hs.grown hg hs.size fun k e => by have := (hr k e).1; omega

theorem sizeF_nat (n : Nat) (h : n ≤ 4194304) : sizeF (n : Int) = ((n + 9 : Nat) : Int) := by unfold sizeF; rw [if_neg (by omega), if_neg (by omega)]; omega
theorem frames_small (n : Nat) : ∀ xs : List UInt8, xs.length ≤ n → ∀ p ∈ framesOf xs, p.2.length ≤ 4194304 := by
  induction n with
  | zero =>
    intro xs h p hp
    have : frameOf xs = none := by unfold frameOf; rw [if_pos (by omega)]
    rw [framesOf_none this] at hp; cases hp
  | succ n ih =>
    intro xs h p hp
    rcases hf : frameOf xs with _ | ⟨k, dat, m⟩
    · rw [framesOf_none hf] at hp; cases hp
    · rw [framesOf_some hf] at hp
      obtain ⟨h1, h2, h3⟩ := frame_len hf
      cases hp with
      | head => exact h3
      | tail _ hp => exact ih (xs.drop m) (by simp; omega) p hp

set_option maxRecDepth 100000 in
theorem whole_any (w : World) (v : Value) (xs : List UInt8) (h : Bs w v xs) (hb : xs.length ≤ 140737488355328) :
    Calls Try.prog 26 #[v] w fun e w' => e = .returned (.int .i64 (wholeOf (framesOf xs) : Int)) ∧ Mk w w' := by
  obtain ⟨a, cap, rfl, hc1, hc2⟩ := h.form
  have H := Lib.hid h
  have HBd := Lib.hid hb
  clear h hc1 hc2 hb
  refine calls_of_marks Try.func26 rfl ?_
  simp only [Try.ntmps26, List.size_toArray, List.length_cons, List.length_nil, Nat.reduceAdd, Nat.reduceSub, Array.replicate_succ, Array.replicate_zero, List.push_toArray, List.append_toArray, List.nil_append, List.cons_append]
  go_wp2_with (go_at_call 27; refine (scan_any _ _ xs (H.out.mk (mk_alloc _ _)) HBd.out).mono ?_; rintro e w1 ⟨gb, v1, rfl, hcl, hbs, hgb, hob, hm1⟩; have HC := Lib.hid hcl; have HS := Lib.hid hbs; have HG := Lib.hid hgb; have HO := Lib.hid hob; have HM := Lib.hid hm1; clear hcl hbs hgb hob hm1)
  have hbx1 : Bx w1 w.heap.size 3 (.int .i64 0) := Bx.mk (heap_alloc_new w _) HM.out
  have hm1 : Mk w w1 := mk_trans (mk_alloc w _) HM.out
  have hsz := HM.out.size
  simp only [World.size_alloc] at hsz
  refine wp_range (gf := 82) (lb := #[.pointer (some ⟨gb, 0, none⟩)]) rfl (enters_of Try.func82 (by kernel_rfl) rfl)
    (scan1_seq w1 gb (w.heap.size + 1) w1.heap.size v1 xs HC.out HS.out (by simpa using HG.out) (by simpa using HO.out) (Nat.le_refl _) HBd.out) (fun h k => h.trans k)
    (fun W l o hl => ⟨by simp, fun k _ h2 => World.putObj_heap_other (by omega)⟩) (fun _ => rfl) (own_from _)
    (fun pre W => Bx W w.heap.size 3 (.int .i64 (wholeOf (pre.map key) : Int)) ∧ Mk w W) (fun _ _ _ => False)
    (OwnFrom.and (bx_from _ _ _ _) (mk_from _ _ (by omega))) (fun _ _ _ _ _ h _ _ => h) ⟨hbx1, hm1⟩
    (fun x => { tmps := #[.slice a xs.length cap, undef, .int .i64 0, .pointer (some ⟨w.heap.size, 0, none⟩), undef, x.2.2, .slice a xs.length cap, .func (.func 82) #[] #[.pointer (some ⟨gb, 0, none⟩)], .int .u8 (x.1.toNat : Int), x.2.2, undef, undef, undef, undef, undef, undef], defers := [] }) ?assign ?body ?done ?stop
  case assign =>
    intro l x W K hK
    simp only [encI]
    gi_wp2
    exact hK
  case body =>
    rintro l pre ⟨k, dat, dv⟩ W ⟨hbx, hmk⟩ hnx hgi
    obtain ⟨a2, c2, hdv, _, _⟩ := (own_sl hgi).form
    dsimp only at hdv
    subst hdv
    obtain ⟨rest, hrest⟩ := hnx
    have hsm : dat.length ≤ 4194304 := frames_small _ xs (Nat.le_refl _) (k, dat) (by rw [← hrest]; simp [key])
    have hle := wholeOf_le _ xs (Nat.le_refl _)
    rw [← hrest, wholeOf_append, wholeOf_append] at hle
    have hone : wholeOf [key (k, dat, Value.slice a2 dat.length c2)] = dat.length + 9 := by simp [wholeOf, key]
    rw [hone] at hle
    have hbd := HBd.out
    have hbnd : wholeOf (pre.map key) + (dat.length + 9) ≤ 140737488355328 := by omega
    obtain ⟨t, ht⟩ : ∃ t, t = wholeOf (pre.map key) := ⟨_, rfl⟩
    rw [← ht] at hbx hbnd
    have hsF := sizeF_nat dat.length hsm
    have HSF := Lib.hid hsF
    have HBX := Lib.hid hbx
    have HMK := Lib.hid hmk
    have HT := Lib.hid ht
    have hcell := hbx.cell
    have hfro := hbx.frozen
    have hmx : Try.prog.follows .mixedOrders = true := by kernel_rfl
    clear hbx hmk ht hsF hle hone hrest hbd hgi
    gi_wp2
    gi_region_with_o (refine ⟨trivial, rfl, ?_⟩; gi_at_call 20; refine (CallsIn.inRound l (callsIn_wide.2 (size_any _ _))).mono ?_; rintro e w' ⟨rfl, rfl⟩)
    all_goals gi_wp2
    all_goals (rw [show IntKind.i64.wrap ((t : Int) + sizeF (dat.length : Int)) = (wholeOf ((pre ++ [(k, dat, Value.slice a2 dat.length c2)]).map key) : Int) by rw [HSF.out, IntWalk.i64_in _ (by omega), List.map_append, wholeOf_append, ← HT.out]; simp [wholeOf, key]]; exact ⟨(KeepsOthers.setCell _ _ _).trans (KeepsOthers.drew _), ⟨by simp [World.drew], fun j h1 _ => Below.heap_setCell _ _ _ _ (by show j ≠ w.heap.size; omega)⟩, HBX.out.set _, (HMK.out.setCell (Nat.le_refl _) _).drew⟩)
  case done =>
    rintro D ys W hD hS ⟨hbx, hmk⟩ hK
    have hcell := hbx.cell
    have HK := Lib.hid hK
    have HS' := Lib.hid hS
    have HMK := Lib.hid hmk
    clear hbx hmk hK hS
    go_wp2
    refine ⟨by simp, .inl ⟨_, _, rfl, run_takeDeferred HK.out, ?_⟩⟩
    exact ⟨_, results_tmp rfl _ _ _, by rw [← HS'.out]; rfl, HMK.out.grown (grownBy_putObj' W D _) HMK.out.size (fun k e => by cases e; omega)⟩
  case stop =>
    rintro D c pre W _ _ h _
    exact h.elim
end Go.Proofs.FrW

namespace Go.Proofs.FrW
open Go Go.RowKit Go.Tk Go.Sp Go.Rg Go.Lib Go.Shelf

theorem new_bytes_m (w : World) (ys : List UInt8) (cs : Array Value) (e : TypeId) (k : Nat) (fr : Nat × Nat) (hk : k = ys.length) (h : cs.toList = bv ys) (hm : k ≤ maxLen) (hp : 0 < k) :
    Sl (w.alloc (.cells cs e fr)) 1 (.slice (some ⟨w.heap.size, 0, none⟩) k k) k (bv ys) := by
  refine ⟨by rw [bv_length]; omega, _, _, rfl, Nat.le_refl _, hm, (fun h => by cases h), fun _ => ⟨_, _, rfl, fun j u hu => ?_⟩⟩
  rw [World.cell?_alloc_mark, Nat.zero_add, ← Array.getElem?_toList, h]
  exact hu
theorem Sl.taken {w : World} {a : Option Addr} {n c : Nat} {xs : List UInt8} (h : Bs w (.slice a n c) xs) (k : Nat) (hk : k ≤ xs.length) : Bs w (.slice a k c) (xs.take k) := by
  obtain ⟨hl, a', c', he, h1, h2, h3, hc⟩ := h
  cases he
  have hkl : (xs.take k).length = k := by simp; omega
  refine ⟨by rw [bv_length]; omega, a, c, by rw [hkl], by omega, h2, h3, fun hp => ?_⟩
  obtain ⟨b, off, rfl, hd⟩ := hc (by omega)
  refine ⟨b, off, rfl, fun j u hu => hd j u ?_⟩
  unfold bv at hu ⊢
  rw [List.map_take] at hu
  rw [List.getElem?_take] at hu
  split at hu
  · exact hu
  · cases hu
theorem str_of {w : World} {a : Option Addr} {n c : Nat} {xs : List UInt8} (h : Sl w 1 (.slice a n c) n (bv xs)) : (convert 22 9 (.slice a n c)).run Try.prog w = .ok (.string ⟨xs.toArray⟩) w := by
  have hl : xs.length = n := by have := h.1; rw [bv_length] at this; omega
  rcases Nat.eq_zero_or_pos n with h0 | h0
  · subst h0
    have : xs = [] := List.length_eq_zero_iff.1 hl
    subst this
    rw [run_convert_bytes_string w 22 9 5 a 0 c Try.underlying22 Try.underlying5 (by kernel_rfl)]
    cases a <;> simp [Conv.bytesToString, loadCells]
    all_goals rfl
  · obtain ⟨b, off, rfl, hd⟩ := h.cellAt h0
    subst hl
    exact run_convert_bytes_back w 22 9 5 _ c xs Try.underlying22 Try.underlying5 (by kernel_rfl) (fun j hj => by have := hd j _ (bv_get xs j hj); by_cases h : j = 0 <;> simp_all [Addr.add])
def shB : List UInt8 := [7, 2, 0, 0, 0, 97, 98, 105, 26, 89, 202]
theorem shB_eq : frm 7 [97, 98] = shB := by decide +kernel
theorem shGet : frameOf (shB ++ [1, 2, 3]) = some (7, [97, 98], 11) := by decide +kernel
theorem shNone : frameOf (shB.take 10) = none := by decide +kernel
theorem shOne : frameOf shB = some (7, [97, 98], 11) := by decide +kernel
theorem shFrames : framesOf shB = [(7, [97, 98])] := by
  rw [framesOf_some shOne, show shB.drop 11 = [] from rfl, framesOf_none (by decide +kernel)]

set_option maxRecDepth 100000 in
theorem shown_any (w : World) : Calls Try.prog 15 #[] w fun e w' => e = .returned (.bool true) ∧ Mk w w' := by
  have kc := fun (w : World) (C : Array Value) (n c : Nat) => Lib.run_convert_bytes_const (P := Try.prog) w 22 5 C n c Try.underlying22 Try.underlying5
  go_enter Try.func15, Try.ntmps15
  go_wp2_with fail
  refine (Put_any _ (.slice none 0 0) _ [] [97, 98] 7 (nil_bs _) (new_bytes_m w [97, 98] #[.int .u8 97, .int .u8 98] 5 2 (2, 3) rfl rfl (by simp [maxLen]) (by omega)) (by simp) (by simp)).mono ?_
  intro e w1 hp
  unfold PutPost at hp
  rw [if_neg (by simp), List.nil_append, shB_eq] at hp
  obtain ⟨hm1, v1, rfl, ho1⟩ := hp
  rw [show shB.length = 11 from rfl] at ho1
  have ho1' := own_base ho1 (base' := w.heap.size) (by simp)
  obtain ⟨g1, c1, rfl, hc1, hc2, hg1, hg2⟩ := own_form ho1' (by decide)
  have HO1 := Lib.hid ho1'
  have HM1 := Lib.hid (mk_trans (mk_alloc w _) hm1)
  clear ho1 hm1 ho1' hg1 hg2 hc2
  go_wp2_with (first | (at_builtin; refine wpList_append_bytes (P := Try.prog) Try.underlying22 info5 rfl (.tmp 16) (.tmp 17) rfl rfl (lit_own w1 #[] 5 (by simp [maxLen])) rfl ((own_sl HO1.out).mk (mk_alloc _ _)) (bv_one _) (by simp) (by simp) ?_; intro v2 w2 ho2 hg2 hn hf; clear hn hf; have HO2 := Lib.hid (show w2.ownsRow w1.heap.size 5 1 v2 11 (bv shB) by simpa using ho2); have HM2 := Lib.hid (mk_own (mk_alloc w1 _) (lit_own w1 #[] 5 (by simp [maxLen])) hg2); clear ho2 hg2) | (at_builtin; refine wpList_append_bytes (P := Try.prog) Try.underlying22 info5 rfl (.tmp 18) (.tmp 19) rfl rfl (HO2.out.alloc _) rfl (new_bytes w2 [1, 2, 3] _ 5 3 rfl rfl (by simp [maxLen])) (bv_one _) (by simp) (by have := HM2.out.size; simp; omega) ?_; intro v3 w3 ho3 hg3 hn hf; clear hn hf; rw [← bv_append] at ho3; have HO3 := Lib.hid ho3; have HM3 := Lib.hid (mk_own HM2.out HO2.out (alloc_grown hg3)); clear ho3 hg3))
  refine (Get_any _ _ (shB ++ [1, 2, 3]) (own_sl HO3.out) (by decide)).mono ?_
  intro e w4 hp
  unfold GetPost at hp
  rw [shGet] at hp
  dsimp only at hp
  obtain ⟨hm4, v4, ho4, rfl⟩ := hp
  obtain ⟨g4, c4, rfl, hc41, hc42, hg41, hg42⟩ := own_form ho4 (by decide)
  have HO4 := Lib.hid ho4
  have HM4 := Lib.hid hm4
  clear ho4 hm4 hc42 hg41 hg42 hc41
  go_wp2_with fail
  refine (Get_any _ _ (shB.take 10) (Sl.taken ((own_sl HO1.out).mk (mk_trans HM3.out HM4.out)) 10 (by decide)) (by decide)).mono ?_
  intro e w5 hp
  unfold GetPost at hp
  rw [shNone] at hp
  dsimp only at hp
  obtain ⟨hm5, v5, ho5, rfl⟩ := hp
  have HM5 := Lib.hid (mk_trans (mk_trans HM3.out HM4.out) hm5)
  have HB := Lib.hid ((own_sl HO1.out).mk HM5.out)
  have k1 := str_of (Sl.taken HB.out 7 (by decide))
  have k2 := str_of ((own_sl HO4.out).mk hm5)
  rw [show [(97 : UInt8), 98].length = 2 from rfl] at k2
  rw [show shB.take 7 = [7, 2, 0, 0, 0, 97, 98] from rfl] at k1
  clear ho5 hm5 kc
  go_wp2_with (first | (go_at_call 20; refine (size_any _ _).mono ?_; rintro e w' ⟨rfl, rfl⟩; first | rw [show sizeF 2 = 11 from rfl] | rw [show sizeF (-1) = 0 from rfl]) | (go_at_call 26; refine (whole_any _ _ shB HB.out (by decide)).mono ?_; rw [shFrames]; rintro e w6 ⟨rfl, hm6⟩; rw [show wholeOf [(7, [97, 98])] = 11 from rfl]; have HM6 := Lib.hid hm6; clear hm6))
  go_ret
  exact ⟨rfl, mk_trans HM1.out (mk_trans HM5.out HM6.out)⟩
end Go.Proofs.FrW

namespace Go.Proofs.DkW
open Go Go.RowKit Go.Tk Go.Dk Go.Sp
attribute [local go_sem] Oper.semAt_some

def str (xs : List UInt8) : Value := .string ⟨xs.toArray⟩
/-- Files told by hand. -/
def enc : List (List UInt8 × Nat) → List Value
  | [] => []
  | x :: l => str x.1 :: .int .i64 (x.2 : Int) :: enc l
theorem enc_length (l : List (List UInt8 × Nat)) : (enc l).length = 2 * l.length := by
  induction l with
  | nil => rfl
  | cons x l ih => simp [enc, ih]; omega
theorem enc_s : ∀ (l : List (List UInt8 × Nat)) (k : Nat) (h : k < l.length), (enc l)[k * 2]? = some (str l[k].1)
  | x :: l, 0, _ => rfl
  | x :: l, k + 1, h => by
    have := enc_s l k (by simpa using h)
    rw [show (k + 1) * 2 = k * 2 + 1 + 1 by omega]
    simpa [enc] using this
theorem enc_n : ∀ (l : List (List UInt8 × Nat)) (k : Nat) (h : k < l.length), (enc l)[k * 2 + 1]? = some (.int .i64 (l[k].2 : Int))
  | x :: l, 0, _ => rfl
  | x :: l, k + 1, h => by
    have := enc_n l k (by simpa using h)
    rw [show (k + 1) * 2 + 1 = k * 2 + 1 + 1 + 1 by omega]
    simpa [enc] using this
theorem enc_set_s : ∀ (l : List (List UInt8 × Nat)) (k : Nat) (h : k < l.length) (s : List UInt8), (enc l).set (k * 2) (str s) = enc (l.set k (s, l[k].2))
  | x :: l, 0, _, s => rfl
  | x :: l, k + 1, h, s => by
    have := enc_set_s l k (by simpa using h) s
    rw [show (k + 1) * 2 = k * 2 + 1 + 1 by omega]
    simpa [enc] using this
theorem enc_set_n : ∀ (l : List (List UInt8 × Nat)) (k : Nat) (h : k < l.length) (n : Nat), (enc l).set (k * 2 + 1) (.int .i64 (n : Int)) = enc (l.set k (l[k].1, n))
  | x :: l, 0, _, n => rfl
  | x :: l, k + 1, h, n => by
    have := enc_set_n l k (by simpa using h) n
    rw [show (k + 1) * 2 + 1 = k * 2 + 1 + 1 + 1 by omega]
    simpa [enc] using this

/-- Which of n things a raw number speaks of. -/
def pickN (c : Int) (n : Nat) : Nat := ((if c < 0 then -(c + 1) else c) % (n : Int)).toNat
theorem pickN_lt (c : Int) {n : Nat} (h : 0 < n) : pickN c n < n := by
  unfold pickN
  have := Int.emod_lt_of_pos (if c < 0 then -(c + 1) else c) (show (0 : Int) < n by omega)
  have := Int.emod_nonneg (if c < 0 then -(c + 1) else c) (show (n : Int) ≠ 0 by omega)
  omega
theorem pickN_cast (c : Int) {n : Nat} (h : 0 < n) : (pickN c n : Int) = (if c < 0 then -(c + 1) else c) % (n : Int) := by
  unfold pickN
  have := Int.emod_nonneg (if c < 0 then -(c + 1) else c) (show (n : Int) ≠ 0 by omega)
  omega
set_option maxHeartbeats 400000 in
theorem pick_any (w : World) (c : Int) (m : Int) (n : Nat) (hm : m = (n : Int)) (h0 : 0 < n) (hn : n ≤ 1000000000) (hc : -9223372036854775808 ≤ c ∧ c ≤ 9223372036854775807) :
    Calls Try.prog 31 #[.int .i64 c, .int .i64 m] w fun e w' => e = .returned (.int .i64 (pickN c n : Int)) ∧ w = w' := by
  subst hm
  rw [pickN_cast c h0]
  by_cases hneg : c < 0
  · have h1 : 0 ≤ -(c + 1) := by omega
    have h2 : -(c + 1) ≤ 9223372036854775807 := by omega
    have h3 : IntKind.i64.wrap (c + 1) = c + 1 := IntWalk.i64_in _ (by omega)
    have hz : ((n : Int) == 0) = false := by simp; omega
    go_enter Try.func31, Try.ntmps31
    go_wp2
    go_ret
    refine ⟨?_, rfl⟩
    rw [← Int.tmod_eq_emod_of_nonneg h1, Int.neg_tmod]
    rfl
  · have h1 : 0 ≤ c := by omega
    have hz : ((n : Int) == 0) = false := by simp; omega
    have hn0 : (0 : Int) ≤ (n : Int) := by omega
    go_enter Try.func31, Try.ntmps31
    go_wp2
    go_ret
    refine ⟨?_, rfl⟩
    first | rfl | (rw [← Int.tmod_eq_emod_of_nonneg h1]; rfl)

theorem read_all {st : St} {k : Nat} (hoff : st.off = false) (hk : k < st.files.length) : st.read (k : Int) 0 ((st.file k).1.length : Int) = ((st.file k).1, 0) := by
  have hi : st.is (k : Int) = true := by simp [St.is]; omega
  simp [St.read, hoff, hi]
set_option maxHeartbeats 1000000 in
set_option maxRecDepth 100000 in
theorem same_any {S : Nat → Prop} {w : World} {p : Nat} {st : St} {M : Nat} (h : PD S w p st) (hok : st.Ok M) (hoff : st.off = false) (h3 : st.files.length = 3) :
    Calls Try.prog 39 #[.pointer (some ⟨p, 0, none⟩), .agg (enc st.files).toArray] w fun e w' => e = .returned (.bool true) ∧ Mk w w' := by
  have hel := enc_length st.files
  rw [h3] at hel
  have hrow := Bk.new w 55 (enc st.files).toArray
  have HROW := Lib.hid hrow
  have H := Lib.hid h; have Hok := Lib.hid hok; have Hel := Lib.hid hel; clear h hok hel
  clear hrow
  go_enter Try.func39, Try.ntmps39
  go_wp2
  generalize hg3 : w.heap.size = g3 at *
  have hm0 := mk_alloc w (.cells (enc st.files).toArray 55)
  have hg3' := Lib.hid hg3
  clear hg3
  generalize w.alloc (.cells (enc st.files).toArray 55) = w0 at *
  have Hm0 := Lib.hid hm0; clear hm0
  go_loopw [5] (fun i wr => ∃ k : Nat, i = .int .i64 (k : Int) ∧ k ≤ 3 ∧ Mk w0 wr) (fun i _ => 3 - (intOf i).toNat)
  case atStart => exact ⟨0, rfl, by omega, mk_refl _⟩
  case round =>
    obtain ⟨k, rfl, hk, hm⟩ := hrel
    have Hm := Lib.hid hm; clear hm
    by_cases hlt : k < 3
    · have hkl : k < st.files.length := by omega
      have hr := HROW.out.mk Hm.out
      have c0 : wr.cell? ⟨g3, k * 2, none⟩ = some (.string ⟨(st.file k).1.toArray⟩) := by
        rw [hr.cell, List.getElem?_toArray, enc_s _ k hkl, St.file_eq hkl]; rfl
      have hrd := read_any (H.out.made (mk_trans Hm0.out Hm.out)) Hok.out (k : Int) 0 ((st.file k).1.length : Int)
      rw [read_all hoff hkl] at hrd
      have Hr := Lib.hid hr; have Hrd := Lib.hid hrd; clear hr hrd
      go_wp2_with fail
      refine Hrd.out.mono ?_
      rintro e w1 ⟨rv, rfl, ho, hm1⟩
      have hsl := own_sl ho
      obtain ⟨ra, rc, rfl, _, _⟩ := hsl.form
      have hP1 := H.out.made (mk_trans Hm0.out (mk_trans Hm.out hm1))
      have hs1 : st.size (k : Int) = ((st.file k).1.length : Int) := by simp [St.size, St.is]; omega
      have hs2 : st.lasts (k : Int) = ((st.file k).2 : Int) := by simp [St.lasts, St.is]; omega
      have l0 : ∀ w', Mk w1 w' → w'.cell? ⟨g3, k * 2, none⟩ = some (.string ⟨(st.file k).1.toArray⟩) := fun w' h => by
        rw [(Hr.out.mk (mk_trans hm1 h)).cell, List.getElem?_toArray, enc_s _ k hkl, St.file_eq hkl]; rfl
      have l1 : ∀ w', Mk w1 w' → w'.cell? ⟨g3, k * 2 + 1, none⟩ = some (.int .i64 ((st.file k).2 : Int)) := fun w' h => by
        rw [(Hr.out.mk (mk_trans hm1 h)).cell, List.getElem?_toArray, enc_n _ k hkl, St.file_eq hkl]
      have cv : ∀ w', Mk w1 w' → (convert 22 9 (.slice ra (st.file k).1.length rc)).run Try.prog w' = .ok (.string ⟨(st.file k).1.toArray⟩) w' := fun w' h => FrW.str_of (hsl.mk h)
      have q1 := @qAt_value Try.prog
      have Hm1 := Lib.hid hm1; have Ho := Lib.hid ho; have Hsl := Lib.hid hsl; have HP1 := Lib.hid hP1; have Hs1 := Lib.hid hs1; have Hs2 := Lib.hid hs2; clear hm1 ho hsl hP1 hs1 hs2
      clear c0
      go_wp2_with fail
      refine wp_region_sp (fun _ => false) (fun w' => Mk w1 w') (by kernel_rfl) (by kernel_rfl) (mk_refl _) (fun _ _ => mk_trans) ?_
      intro D hD hne
      iterate 14 (first | (refine spk (by rfl) (by rfl) (by rfl) (fun K hK => ?_); go_big_quiet_op; first | (refine hK _ ?_; clear hK K) | (apply Exists.intro; refine ⟨fun _ => ?_, hK _ ?_⟩; (exact fun _ => rfl); clear hK K)) | (refine spq (by rfl) (by rfl) (fun K hK => ?_); apply Exists.intro; refine ⟨fun w' hw' => ?_, ?_⟩; (go_simp; exact rfl); (go_simp; refine hK _ ?_; clear hK K)))
      (refine spq (by rfl) (by rfl) (fun K hK => ?_); apply Exists.intro; refine ⟨fun w' hw' => ?_, ?_⟩; (have q2 := @qAt_enter Try.prog; go_simp; refine ⟨rfl, (size_any (k : Int) (HP1.out.made hw')).mono fun e w'' ⟨h1, h2⟩ => by subst h2; rw [h1, Hs1.out]; exact ⟨rfl, mk_refl _⟩⟩); (go_simp; refine hK _ ?_; clear hK K))
      iterate 10 (first | (refine spk (by rfl) (by rfl) (by rfl) (fun K hK => ?_); go_big_quiet_op; first | (refine hK _ ?_; clear hK K) | (apply Exists.intro; refine ⟨fun _ => ?_, hK _ ?_⟩; (exact fun _ => rfl); clear hK K)) | (refine spq (by rfl) (by rfl) (fun K hK => ?_); apply Exists.intro; refine ⟨fun w' hw' => ?_, ?_⟩; (go_simp; exact rfl); (go_simp; refine hK _ ?_; clear hK K)))
      (refine spq (by rfl) (by rfl) (fun K hK => ?_); apply Exists.intro; refine ⟨fun w' hw' => ?_, ?_⟩; (have q2 := @qAt_enter Try.prog; go_simp; refine ⟨rfl, (lasts_any (k : Int) (HP1.out.made hw')).mono fun e w'' ⟨h1, h2⟩ => by subst h2; rw [h1, Hs2.out]; exact ⟨rfl, mk_refl _⟩⟩); (go_simp; refine hK _ ?_; clear hK K))
      iterate 6 (first | (refine spk (by rfl) (by rfl) (by rfl) (fun K hK => ?_); go_big_quiet_op; first | (refine hK _ ?_; clear hK K) | (apply Exists.intro; refine ⟨fun _ => ?_, hK _ ?_⟩; (exact fun _ => rfl); clear hK K)) | (refine spq (by rfl) (by rfl) (fun K hK => ?_); apply Exists.intro; refine ⟨fun w' hw' => ?_, ?_⟩; (go_simp; exact rfl); (go_simp; refine hK _ ?_; clear hK K)))
      refine sp_nil ?_
      intro w9 hw9
      have HM9 := Lib.hid (hD.out _ hw9).1
      clear hw9 hD hne D l0 l1 q1 cv
      go_wp2
      go_roundw
      case rel => exact ⟨k + 1, by go_num, by omega, mk_trans Hm.out (mk_trans Hm1.out HM9.out)⟩
      case measure => simp [intOf]; omega
    · obtain rfl : k = 3 := by omega
      go_wp2
      go_ret
      exact ⟨rfl, mk_trans Hm0.out Hm.out⟩
end Go.Proofs.DkW
