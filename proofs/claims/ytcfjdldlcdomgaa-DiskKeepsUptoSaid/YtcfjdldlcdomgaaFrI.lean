/- The walks of layer 5, frame: Whole. -/
import Derived.Test.YtcfjdldlcdomgaaFrH
namespace Go.Proofs.FrW
open Go Go.RowKit Go.Tk Go.Sp Go.Rg Go.Shelf
attribute [local go_sem] Oper.semAt_some

/-- How many bytes frames have. -/
def wholeOf : List (UInt8 × List UInt8) → Nat
  | [] => 0
  | p :: l => p.2.length + 9 + wholeOf l
theorem wholeOf_append (l m : List (UInt8 × List UInt8)) : wholeOf (l ++ m) = wholeOf l + wholeOf m := by
  induction l with
  | nil => simp [wholeOf]
  | cons p l ih => simp [wholeOf, ih]; omega
theorem wholeOf_le (n : Nat) : ∀ xs : List UInt8, xs.length ≤ n → wholeOf (framesOf xs) ≤ xs.length := by
  induction n with
  | zero =>
    intro xs h
    have : frameOf xs = none := by unfold frameOf; rw [if_pos (by omega)]
    rw [framesOf_none this]; simp [wholeOf]
  | succ n ih =>
    intro xs h
    rcases hf : frameOf xs with _ | ⟨k, dat, m⟩
    · rw [framesOf_none hf]; simp [wholeOf]
    · rw [framesOf_some hf]
      obtain ⟨h1, h2, h3⟩ := frame_len hf
      have := ih (xs.drop m) (by simp; omega)
      simp [wholeOf] at this ⊢; omega
theorem own_from (B b : Nat) : OwnFrom B (GI b) := fun s W W' row hs hg hr => by
  refine World.ownsRow.kept hs hg ?_
  rcases hs.2 with ⟨hv, _⟩ | ⟨g, cap, cur, hv, _, hgg, _⟩
  · rw [hv]; exact .inl rfl
  · refine .inr fun e => ?_
    rw [hv] at e
    obtain ⟨_, o, ho, hc⟩ := hr g e.symm
    rw [hgg] at ho
    cases ho
    cases hc
/-- A variable in a block of its own. -/
def Bx (W : World) (g : Nat) (t : TypeId) (v : Value) : Prop := W.heap[g]? = some (.cells #[v] t (0, 0))
theorem Bx.cell {W : World} {g : Nat} {t : TypeId} {v : Value} (h : Bx W g t v) : W.cell? ⟨g, 0, none⟩ = some v := cell_of_row _ _ _ _ _ _ h
theorem Bx.frozen {W : World} {g : Nat} {t : TypeId} {v : Value} (h : Bx W g t v) : W.frozen? ⟨g, 0, none⟩ = false := frozen_of_row _ _ _ _ _ h
theorem Bx.set {W : World} {g : Nat} {t : TypeId} {v : Value} (h : Bx W g t v) (u : Value) : Bx (W.setCell ⟨g, 0, none⟩ u) g t u := by
  have := heap_setCell_same W g 0 _ t u h
  simpa [Bx] using this
theorem Bx.mk {W W' : World} {g : Nat} {t : TypeId} {v : Value} (h : Bx W g t v) (hm : Mk W W') : Bx W' g t v := (hm.block _ (Array.getElem?_eq_some_iff.1 h).1).trans h
theorem bx_from {β : Type} (B g : Nat) (t : TypeId) (f : β → Value) : OwnFrom B (fun s W => Bx W g t (f s)) := fun s W W' row hs hg hr => by
  refine (hg.block g (Array.getElem?_eq_some_iff.1 hs).1 fun e => ?_).trans hs
  obtain ⟨_, o, ho, hc⟩ := hr g e.symm
  rw [hs] at ho
  cases ho
  cases hc
theorem mk_from {β : Type} (B : Nat) (w : World) (hB : w.heap.size ≤ B) : OwnFrom B (fun (_ : β) W => Mk w W) := fun s W W' row hs hg hr =>
  hs.grown hg hs.size fun k e => by have := (hr k e).1; omega

theorem sizeF_nat (n : Nat) (h : n ≤ 4194304) : sizeF (n : Int) = ((n + 9 : Nat) : Int) := by unfold sizeF; rw [if_neg (by omega), if_neg (by omega)]; omega
theorem frames_small (n : Nat) : ∀ xs : List UInt8, xs.length ≤ n → ∀ p ∈ framesOf xs, p.2.length ≤ 4194304 := by
  induction n with
  | zero =>
    intro xs h p hp
    have : frameOf xs = none := by unfold frameOf; rw [if_pos (by omega)]
    rw [framesOf_none this] at hp; cases hp
  | succ n ih =>
    intro xs h p hp
    rcases hf : frameOf xs with _ | ⟨k, dat, m⟩
    · rw [framesOf_none hf] at hp; cases hp
    · rw [framesOf_some hf] at hp
      obtain ⟨h1, h2, h3⟩ := frame_len hf
      cases hp with
      | head => exact h3
      | tail _ hp => exact ih (xs.drop m) (by simp; omega) p hp

set_option maxRecDepth 100000 in
theorem whole_any (w : World) (v : Value) (xs : List UInt8) (h : Bs w v xs) (hb : xs.length ≤ 140737488355328) :
    Calls Try.prog 26 #[v] w fun e w' => e = .returned (.int .i64 (wholeOf (framesOf xs) : Int)) ∧ Mk w w' := by
  obtain ⟨a, cap, rfl, hc1, hc2⟩ := h.form
  have H := Lib.hid h
  have HBd := Lib.hid hb
  clear h hc1 hc2 hb
  refine calls_of_marks Try.func26 rfl ?_
  simp only [Try.ntmps26, List.size_toArray, List.length_cons, List.length_nil, Nat.reduceAdd, Nat.reduceSub, Array.replicate_succ, Array.replicate_zero, List.push_toArray, List.append_toArray, List.nil_append, List.cons_append]
  go_wp2_with (go_at_call 27; refine (scan_any _ _ xs (H.out.mk (mk_alloc _ _)) HBd.out).mono ?_; rintro e w1 ⟨gb, v1, rfl, hcl, hbs, hgb, hob, hm1⟩; have HC := Lib.hid hcl; have HS := Lib.hid hbs; have HG := Lib.hid hgb; have HO := Lib.hid hob; have HM := Lib.hid hm1; clear hcl hbs hgb hob hm1)
  have hbx1 : Bx w1 w.heap.size 3 (.int .i64 0) := Bx.mk (heap_alloc_new w _) HM.out
  have hm1 : Mk w w1 := mk_trans (mk_alloc w _) HM.out
  have hsz := HM.out.size
  simp only [World.size_alloc] at hsz
  refine wp_range (gf := 82) (lb := #[.pointer (some ⟨gb, 0, none⟩)]) rfl (enters_of Try.func82 (by kernel_rfl) rfl)
    (scan1_seq w1 gb (w.heap.size + 1) w1.heap.size v1 xs HC.out HS.out (by simpa using HG.out) (by simpa using HO.out) (Nat.le_refl _) HBd.out) (fun h k => h.trans k)
    (fun W l o hl => ⟨by simp, fun k _ h2 => World.putObj_heap_other (by omega)⟩) (fun _ => rfl) (own_from _)
    (fun pre W => Bx W w.heap.size 3 (.int .i64 (wholeOf (pre.map key) : Int)) ∧ Mk w W) (fun _ _ _ => False)
    (OwnFrom.and (bx_from _ _ _ _) (mk_from _ _ (by omega))) (fun _ _ _ _ _ h _ _ => h) ⟨hbx1, hm1⟩
    (fun x => { tmps := #[.slice a xs.length cap, undef, .int .i64 0, .pointer (some ⟨w.heap.size, 0, none⟩), undef, x.2.2, .slice a xs.length cap, .func (.func 82) #[] #[.pointer (some ⟨gb, 0, none⟩)], .int .u8 (x.1.toNat : Int), x.2.2, undef, undef, undef, undef, undef, undef], defers := [] }) ?assign ?body ?done ?stop
  case assign =>
    intro l x W K hK
    simp only [encI]
    gi_wp2
    exact hK
  case body =>
    rintro l pre ⟨k, dat, dv⟩ W ⟨hbx, hmk⟩ hnx hgi
    obtain ⟨a2, c2, hdv, _, _⟩ := (own_sl hgi).form
    dsimp only at hdv
    subst hdv
    obtain ⟨rest, hrest⟩ := hnx
    have hsm : dat.length ≤ 4194304 := frames_small _ xs (Nat.le_refl _) (k, dat) (by rw [← hrest]; simp [key])
    have hle := wholeOf_le _ xs (Nat.le_refl _)
    rw [← hrest, wholeOf_append, wholeOf_append] at hle
    have hone : wholeOf [key (k, dat, Value.slice a2 dat.length c2)] = dat.length + 9 := by simp [wholeOf, key]
    rw [hone] at hle
    have hbd := HBd.out
    have hbnd : wholeOf (pre.map key) + (dat.length + 9) ≤ 140737488355328 := by omega
    obtain ⟨t, ht⟩ : ∃ t, t = wholeOf (pre.map key) := ⟨_, rfl⟩
    rw [← ht] at hbx hbnd
    have hsF := sizeF_nat dat.length hsm
    have HSF := Lib.hid hsF
    have HBX := Lib.hid hbx
    have HMK := Lib.hid hmk
    have HT := Lib.hid ht
    have hcell := hbx.cell
    have hfro := hbx.frozen
    have hmx : Try.prog.follows .mixedOrders = true := by kernel_rfl
    clear hbx hmk ht hsF hle hone hrest hbd hgi
    gi_wp2
    gi_region_with_o (refine ⟨trivial, rfl, ?_⟩; gi_at_call 20; refine (CallsIn.inRound l (callsIn_wide.2 (size_any _ _))).mono ?_; rintro e w' ⟨rfl, rfl⟩)
    all_goals gi_wp2
    all_goals (rw [show IntKind.i64.wrap ((t : Int) + sizeF (dat.length : Int)) = (wholeOf ((pre ++ [(k, dat, Value.slice a2 dat.length c2)]).map key) : Int) by rw [HSF.out, IntWalk.i64_in _ (by omega), List.map_append, wholeOf_append, ← HT.out]; simp [wholeOf, key]]; exact ⟨(KeepsOthers.setCell _ _ _).trans (KeepsOthers.drew _), ⟨by simp [World.drew], fun j h1 _ => Below.heap_setCell _ _ _ _ (by show j ≠ w.heap.size; omega)⟩, HBX.out.set _, (HMK.out.setCell (Nat.le_refl _) _).drew⟩)
  case done =>
    rintro D ys W hD hS ⟨hbx, hmk⟩ hK
    have hcell := hbx.cell
    have HK := Lib.hid hK
    have HS' := Lib.hid hS
    have HMK := Lib.hid hmk
    clear hbx hmk hK hS
    go_wp2
    refine ⟨by simp, .inl ⟨_, _, rfl, run_takeDeferred HK.out, ?_⟩⟩
    exact ⟨_, results_tmp rfl _ _ _, by rw [← HS'.out]; rfl, HMK.out.grown (grownBy_putObj' W D _) HMK.out.size (fun k e => by cases e; omega)⟩
  case stop =>
    rintro D c pre W _ _ h _
    exact h.elim
end Go.Proofs.FrW
