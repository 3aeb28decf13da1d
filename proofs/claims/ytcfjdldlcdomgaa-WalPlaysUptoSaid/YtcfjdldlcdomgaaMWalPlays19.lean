/- A region that draws its order with several operations that write: what waits for one of them through others counts, too. Nothing of the program stands here. -/
import Derived.Test.YtcfjdldlcdomgaaMWalPlays2
set_option linter.unusedVariables false
set_option linter.unusedSimpArgs false
namespace Go.Sp
open Go Go.RowKit Go.Tk
section
variable {P : Program} {ops : Array Oper} {md : Region.Mode} {sp : Nat → Bool} {C : World → Prop}

/-- A special operation may be taken first, if all that does not wait for it, also through others, is none and comes later. -/
theorem first_special2 {Q : Act → World → Prop} {i : Nat} {oi : Oper} (hi : ops[i]? = some oi) (hsi : sp i = true) (hsel : ∀ (j : Nat) (o : Oper) cs b, ops[j]? = some o → o.op ≠ .select cs b)
    (W : Nat → Bool) (hW : ∀ j oj, ops[j]? = some oj → W j = true → ∃ e ∈ oj.after, Region.binds md e = true ∧ (e.on = i ∨ W e.on = true))
    (R : Value → World → Prop) (hRs : ∀ v w' w'', R v w' → Mk w' w'' → R v w'') (hRC : ∀ v w', R v w' → C w') :
    ∀ (fuel : Nat) (listed : Array Bool) (D : World → Prop) (a : Act), (∃ w, D w) →
      (∀ j oj, ops[j]? = some oj → j ≠ i → listed.getD j true = false → W j = false → oi.apart ops oj = true ∧ sp j = false ∧ late sp j = true) →
      (∀ j, W j = true → listed.getD j false = false) →
      i ∈ Region.ready md ops listed → Region.wanted oi (yielded ops a.tmps) = true → (∀ w', D w' → sAt P R ((execOp a.eval oi).run P w')) →
      (∀ v, (∃ w', R v w') → wpAnySp P md ops sp C Q fuel (listed.setIfInBounds i true) (R v) (a.put oi.dst v)) → wpAnySp P md ops sp C Q (fuel + 1) listed D a := by
  intro fuel
  have here : ∀ (a : Act) (D : World → Prop) (K : (World → Prop) → Act → Prop), Region.wanted oi (yielded ops a.tmps) = true → (∀ w', D w' → sAt P R ((execOp a.eval oi).run P w')) → (∀ v, (∃ w', R v w') → K (R v) (a.put oi.dst v)) → spOp P ops sp C i K D a := by
    intro a D K hw hs hk
    unfold spOp
    simp only [hi]
    unfold spStep
    rw [if_pos hw, if_pos hsi]
    exact ⟨R, hRs, hRC, hs, hk⟩
  induction fuel with
  | zero =>
    intro listed D a ⟨w0, hw0⟩ _ _ hr hw hs H
    refine ⟨fun h => (by rw [h] at hr; cases hr), fun j hj => ?_⟩
    by_cases hji : j = i
    · subst hji; exact here a D _ hw hs H
    · obtain ⟨v0, w1, hv0⟩ := sAt_some (hs w0 hw0)
      have := ready_mono hj hji
      rw [(H v0 ⟨_, hv0⟩).1] at this
      cases this
  | succ fuel ih =>
    intro listed D a hDn hfree hL hr hw hs H
    refine ⟨fun h => (by rw [h] at hr; cases hr), fun j hj => ?_⟩
    by_cases hji : j = i
    · subst hji; exact here a D _ hw hs H
    · obtain ⟨w0, hw0⟩ := hDn
      obtain ⟨v0, w1, hv0⟩ := sAt_some (hs w0 hw0)
      obtain ⟨hjun, oj, hoj, hall⟩ := mem_ready.1 hj
      have hWj : W j = false := by
        cases hc : W j with
        | false => rfl
        | true =>
          obtain ⟨e, he, hb, h⟩ := hW j oj hoj hc
          rcases h with h | h
          · exact absurd h (no_edge hr hall e he hb)
          · have h1 := hall e he hb
            rw [hL _ h] at h1
            cases h1
      obtain ⟨hap, hsj, hlj⟩ := hfree j oj hoj hji hjun hWj
      obtain ⟨h1, h2, h3⟩ := Oper.apart_spec hap
      have hseli := fun cs b => hsel i oi cs b hi
      have hselj := fun cs b => hsel j oj cs b hoj
      have hfree' : ∀ k ok, ops[k]? = some ok → k ≠ i → (listed.setIfInBounds j true).getD k true = false →
          W k = false → oi.apart ops ok = true ∧ sp k = false ∧ late sp k = true := fun k ok hk hki hun hno => by
        refine hfree k ok hk hki ?_ hno
        by_cases hjk : j = k
        · subst hjk; exact hjun
        · rw [getD_set_ne true hjk] at hun; exact hun
      have hL' : ∀ k, W k = true → (listed.setIfInBounds j true).getD k false = false := fun k hk => by
        have hjk : j ≠ k := fun e => by subst e; rw [hWj] at hk; cases hk
        rw [getD_set_ne false hjk]
        exact hL k hk
      have atj : ∀ v, (∃ w', R v w') → spStep P ops C false true oj (wpAnySp P md ops sp C Q fuel ((listed.setIfInBounds i true).setIfInBounds j true)) (R v) (a.put oi.dst v) := fun v hv => by
        have := (H v hv).2 j (ready_mono hj hji)
        unfold spOp at this
        simp only [hoj, hsj, hlj] at this
        exact this
      have next : ∀ u, (∀ v, (∃ w', R v w') → wpAnySp P md ops sp C Q fuel ((listed.setIfInBounds i true).setIfInBounds j true) (R v) ((a.put oi.dst v).put oj.dst u)) →
          wpAnySp P md ops sp C Q (fuel + 1) (listed.setIfInBounds j true) D (a.put oj.dst u) := fun u hu => by
        refine ih (listed.setIfInBounds j true) D (a.put oj.dst u) ⟨w0, hw0⟩ hfree' hL' (ready_mono hr (Ne.symm hji)) ?_ ?_ ?_
        · rw [wanted_put oi a oj.dst u h3]; exact hw
        · intro w' hw'; rw [execOp_put oi hseli a oj.dst u h3]; exact hs w' hw'
        · intro v hv
          rw [Array.setIfInBounds_comm _ _ hji, ← Act.put_comm a v u h2]
          exact hu v hv
      unfold spOp
      simp only [hoj, hsj, hlj]
      unfold spStep
      by_cases hwj : Region.wanted oj (yielded ops a.tmps) = true
      · rw [if_pos hwj, if_neg (by decide)]
        have a0 := atj v0 ⟨_, hv0⟩
        unfold spStep at a0
        rw [wanted_put oj a oi.dst v0 h1, if_pos hwj, if_neg (by decide), execOp_put oj hselj a oi.dst v0 h1] at a0
        obtain ⟨u, hu, hk⟩ := a0
        refine ⟨u, hu, next u fun v hv => ?_⟩
        have a1 := atj v hv
        unfold spStep at a1
        rw [wanted_put oj a oi.dst v h1, if_pos hwj, if_neg (by decide), execOp_put oj hselj a oi.dst v h1] at a1
        obtain ⟨u', hu', hk'⟩ := a1
        have hc0 := hRC _ _ hv0
        obtain rfl : u = u' := qAt_same (hu _ hc0) (hu' _ hc0)
        exact hk'
      · rw [if_neg hwj]
        refine next undef fun v hv => ?_
        have a1 := atj v hv
        unfold spStep at a1
        rw [wanted_put oj a oi.dst v h1, if_neg hwj] at a1
        exact a1

/-- Which operations wait for number i, also through others. -/
def waits (md : Region.Mode) (ops : Array Oper) (i : Nat) : List Bool :=
  (List.range ops.size).foldl (fun acc j => acc ++ [match ops[j]? with | some oj => oj.after.any fun e => Region.binds md e && (e.on == i || acc.getD e.on false) | none => false]) []
def waitB (md : Region.Mode) (ops : Array Oper) (i j : Nat) : Bool := decide (j < ops.size) && (waits md ops i).getD j false
def alone2 (md : Region.Mode) (ops : Array Oper) (sp : Nat → Bool) (listed : Array Bool) (i : Nat) : Bool :=
  !sp i || ((List.range ops.size).all fun j => match ops[j]? with
    | some oj => (!waitB md ops i j || oj.after.any fun e => Region.binds md e && (e.on == i || waitB md ops i e.on)) && (waitB md ops i j || oj.after.all fun e => !(Region.binds md e && e.on == i)) && (!waitB md ops i j || !listed.getD j false) && (j == i || listed.getD j true || waitB md ops i j || (!sp j && late sp j))
    | none => true)
theorem alone2_spec {i : Nat} {listed : Array Bool} (hs : sp i = true) (h : alone2 md ops sp listed i = true) :
    (∀ j oj, ops[j]? = some oj → waitB md ops i j = true → ∃ e ∈ oj.after, Region.binds md e = true ∧ (e.on = i ∨ waitB md ops i e.on = true)) ∧
    (∀ j oj, ops[j]? = some oj → waitB md ops i j = false → ∀ e ∈ oj.after, Region.binds md e = true → e.on ≠ i) ∧
    (∀ j, waitB md ops i j = true → listed.getD j false = false) ∧
    (∀ j oj, ops[j]? = some oj → j ≠ i → listed.getD j true = false → waitB md ops i j = false → sp j = false ∧ late sp j = true) := by
  simp only [alone2, hs, Bool.not_true, Bool.false_or, List.all_eq_true, List.mem_range] at h
  have at_ : ∀ j oj, ops[j]? = some oj → _ := fun j oj hj => by
    have h1 := h j (Array.getElem?_eq_some_iff.1 hj).1
    simp only [hj, Bool.and_eq_true] at h1
    exact h1
  refine ⟨fun j oj hj hw => ?_, fun j oj hj hw e he hb heq => ?_, fun j hw => ?_, fun j oj hj hne hun hw => ?_⟩
  · have h1 := (at_ j oj hj).1.1.1
    rw [hw] at h1
    simp only [Bool.not_true, Bool.false_or] at h1
    obtain ⟨e, he, h2⟩ := Array.any_eq_true'.1 h1
    simp only [Bool.and_eq_true, Bool.or_eq_true, beq_iff_eq] at h2
    exact ⟨e, he, h2.1, h2.2⟩
  · have h1 := (at_ j oj hj).1.1.2
    rw [hw] at h1
    simp only [Bool.false_or] at h1
    have h2 := Array.all_eq_true'.1 h1 e he
    simp [hb, heq] at h2
  · have hlt : j < ops.size := by unfold waitB at hw; simp at hw; exact hw.1
    obtain ⟨oj, hj⟩ : ∃ oj, ops[j]? = some oj := ⟨ops[j], Array.getElem?_eq_getElem hlt⟩
    have h1 := (at_ j oj hj).1.2
    rw [hw] at h1
    simpa using h1
  · have h1 := (at_ j oj hj).2
    rw [hun, hw] at h1
    simp only [Bool.or_false, Bool.or_eq_true, beq_iff_eq, hne, false_or, Bool.and_eq_true, Bool.not_eq_true'] at h1
    exact h1

def spFrom2 (md : Region.Mode) (ops : Array Oper) (sp : Nat → Bool) : Nat → Nat → Array Bool → Bool
  | 0, _, listed => (Region.ready md ops listed).isEmpty
  | fuel + 1, k, listed => (Region.ready md ops listed).contains k && Region.free md ops listed k && alone2 md ops sp listed k && spFrom2 md ops sp fuel (k + 1) (listed.setIfInBounds k true)
/-- May the region be walked in the order of the text? A closed fact. -/
def spB2 (md : Region.Mode) (ops : Array Oper) (sp : Nat → Bool) : Bool := Region.noSelect ops && spFrom2 md ops sp ops.size 0 (Array.replicate ops.size false)

theorem wpAnySp_lex2 {Q : Act → World → Prop} (hs : Region.noSelect ops = true) : ∀ (l : List Oper) (k : Nat) (listed : Array Bool) (D : World → Prop) (a : Act), (∃ w, D w) → (∀ j, l[j]? = ops[k + j]?) →
    spFrom2 md ops sp l.length k listed = true → wpSp P ops sp C Q l k D a → wpAnySp P md ops sp C Q l.length listed D a
  | [], _, _, _, _, _, _, hB, h => ⟨by simpa [spFrom2] using hB, h⟩
  | o :: l, k, listed, D, a, hDn, hl, hB, h => by
    have h0 : ops[k]? = some o := by simpa using (hl 0).symm
    simp only [List.length_cons, spFrom2, Bool.and_eq_true] at hB
    obtain ⟨⟨⟨hr, hf⟩, hal⟩, hB'⟩ := hB
    have hl' : ∀ j, l[j]? = ops[k + 1 + j]? := fun j => by have := hl (j + 1); simpa [Nat.add_assoc, Nat.add_comm 1 j] using this
    have hfree := Region.free_spec h0 hf
    have hrm : k ∈ Region.ready md ops listed := by simpa using hr
    simp only [wpSp] at h
    unfold spStep at h
    by_cases hw : Region.wanted o (yielded ops a.tmps) = true
    · rw [if_pos hw] at h
      by_cases hsk : sp k = true
      · rw [if_pos hsk] at h
        obtain ⟨R, g1, g2, g3, g4⟩ := h
        obtain ⟨a1, a2, a3, a4⟩ := alone2_spec hsk hal
        exact first_special2 h0 hsk (Region.noSelect_spec hs) (waitB md ops k) a1 R g1 g2 l.length listed D a hDn
          (fun j oj hj hne hun hno => ⟨hfree j oj hj hne hun (a2 j oj hj hno), a4 j oj hj hne hun hno⟩) a3 hrm hw g3
          (fun v hv => wpAnySp_lex2 hs l (k + 1) _ (R v) _ hv hl' hB' (g4 v hv))
      · rw [if_neg hsk] at h
        obtain ⟨v, g1, g2⟩ := h
        exact first_quiet h0 (Region.noSelect_spec hs) l.length listed D a hfree hrm (.inl ⟨hw, by simpa using hsk, g1⟩)
          (wpAnySp_lex2 hs l (k + 1) _ D _ hDn hl' hB' g2)
    · rw [if_neg hw] at h
      exact first_quiet h0 (Region.noSelect_spec hs) l.length listed D a hfree hrm (.inr ⟨by simpa using hw, rfl⟩)
        (wpAnySp_lex2 hs l (k + 1) _ D _ hDn hl' hB' h)

/-- ONE WALK IN THE ORDER OF THE TEXT SERVES EVERY ORDER; several operations may write, if each waits for the one ahead, also through others. -/
theorem wp_region_sq {id : Nat} {Q : Exit → Act → World → Prop} {a : Act} {w : World} {l : List Oper} (sp : Nat → Bool) (C : World → Prop) (hm : P.follows .mixedOrders = true) (hB : spB2 .any l.toArray sp = true)
    (hC : C w) (hCm : ∀ w' w'', C w' → Mk w' w'' → C w'')
    (h : ∀ D : World → Prop, Hid (∀ w', D w' → Mk w w' ∧ C w') → (∃ w', D w') → wpSp P l.toArray sp C (fun a' w' => Q .normal a' w') l 0 D a) : (Code.region id l.toArray true).wp P Q a w := by
  simp only [spB2, Bool.and_eq_true] at hB
  have hcls : Cls C (fun w' => Mk w w' ∧ C w') := ⟨fun w' w'' h k => ⟨mk_trans h.1 k, hCm _ _ h.2 k⟩, fun w' h => h.2⟩
  have hd : Mk w { w with drawn := w.drawn + 1 } := mk_drewN w 1
  have hne : ∃ w', (fun w' => Mk w w' ∧ C w') w' := ⟨w, mk_refl w, hC⟩
  refine wp_region_any hm (wpAny_of_sp (sp := sp) (C := C) (D := fun w' => Mk w w' ∧ C w') (Q := fun a' w' => Q .normal a' w') (fun _ _ h => h) _ _ _ _ hcls ⟨hd, hCm _ _ hC hd⟩ ?_)
  have := wpAnySp_lex2 (C := C) (md := .any) hB.1 l 0 (Array.replicate l.toArray.size false) (fun w' => Mk w w' ∧ C w') a hne (by simp) (by simpa using hB.2) (h _ (fun _ h => h) hne)
  simpa using this
end
end Go.Sp
