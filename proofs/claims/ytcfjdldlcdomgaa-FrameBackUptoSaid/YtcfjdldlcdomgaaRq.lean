/- A region that draws its order inside a round of a range over a function: one walk in the order of the text. Nothing of the program stands here. -/
import Derived.Test.YtcfjdldlcdomgaaSp
import Derived.OrdersIn
import Derived.RangeFuncCalls
namespace Go.Sp
open Go Go.RowKit Go.Tk
variable {P : Program} {ops : Array Oper} {sp : Nat → Bool} {C : World → Prop} {md : Region.Mode}

/-- No operation of the region is a defer. -/
def noDefer (ops : Array Oper) : Bool := ops.all fun o => match o.op with | .defer _ => false | _ => true
theorem noDefer_spec (h : noDefer ops = true) {i : Nat} {o : Oper} (hi : ops[i]? = some o) : ∀ c, o.op ≠ .defer c := by
  intro c e
  simp only [noDefer, Array.all_eq_true] at h
  obtain ⟨hl, rfl⟩ := Array.getElem?_eq_some_iff.1 hi
  have := h i hl
  rw [e] at this
  simp at this

theorem wpOpIn_of_sp {l n i : Nat} {a : Act} {K : (World → Prop) → Act → Prop} {K' : Act → World → Prop} {Q' : Exit → Act → World → Prop} {D : World → Prop} (hnd : noDefer ops = true) (hD : Cls C D)
    {w : World} (hw : D w) (h : ∀ D' a w', Cls C D' → D' w' → K D' a → K' a w') (hh : spOp P ops sp C i K D a) : wpOpIn (Fence.wide.inRound l) n P ops Q' i K' a w := by
  unfold spOp at hh
  unfold wpOpIn
  split
  · rename_i ho; simp only [ho] at hh; exact h _ _ _ hD hw hh
  · rename_i o ho
    simp only [ho] at hh
    unfold spStep at hh
    by_cases hwt : Region.wanted o (yielded ops a.tmps) = true
    · rw [if_pos hwt] at hh ⊢
      refine ⟨fun _ _ => trivial, ?_⟩
      rw [Fence.inRound_round, Oper.semAt_some l _ _ (noDefer_spec hnd ho)]
      split at hh
      · obtain ⟨R, h1, h2, h3, h4⟩ := hh
        have h5 := h3 w hw
        have hR : ∀ v, Cls C (R v) := fun v => ⟨h1 v, h2 v⟩
        generalize (execOp a.eval o).run P w = r at *
        cases r with
        | ok n w' =>
          cases n <;> simp only [sAt] at h5 <;> simp only [Oper.uponIn]
          case value u => exact h _ _ _ (hR u) h5 (h4 u ⟨_, h5⟩)
          case skip => exact h _ _ _ (hR _) h5 (h4 _ ⟨_, h5⟩)
          case enter f args =>
            refine ⟨(fun h => by simp [Fence.inRound, Fence.wide] at h), CallsIn.inRound l (callsIn_wide.2 ?_)⟩
            exact h5.mono fun e w'' ⟨u, he, hr⟩ => by subst he; exact h _ _ _ (hR u) hr (h4 u ⟨_, hr⟩)
        | halt x w' => simp only [sAt] at h5
      · obtain ⟨v, h1, h2⟩ := hh
        have h5 := h1 w (hD.sub w hw)
        generalize (execOp a.eval o).run P w = r at *
        cases r with
        | ok n w' =>
          cases n <;> simp only [qAt] at h5 <;> simp only [Oper.uponIn]
          case value u => obtain ⟨rfl, rfl⟩ := h5; exact h _ _ _ hD hw h2
          case skip => obtain ⟨rfl, rfl⟩ := h5; exact h _ _ _ hD hw h2
          case enter f args =>
            obtain ⟨_, rfl, hc⟩ := h5
            refine ⟨(fun h => by simp [Fence.inRound, Fence.wide] at h), CallsIn.inRound l (callsIn_wide.2 ?_)⟩
            exact hc.mono fun e w'' ⟨he, hm⟩ => by subst he; exact h _ _ _ hD (hD.on _ _ hw hm) h2
        | halt x w' => simp only [qAt] at h5
    · rw [if_neg hwt] at hh ⊢
      exact ⟨fun _ _ => trivial, h _ _ _ hD hw hh⟩

theorem wpAnyIn_of_sp {l n : Nat} {Q : Act → World → Prop} {Q' : Exit → Act → World → Prop} (hnd : noDefer ops = true) (hQ : ∀ a w, Q a w → Q' .normal a w) : ∀ (fuel : Nat) (listed : Array Bool) (D : World → Prop) (a : Act) (w : World), Cls C D → D w →
    wpAnySp P md ops sp C Q fuel listed D a → wpAnyIn (Fence.wide.inRound l) n P md ops Q' fuel listed a w
  | 0, _, _, _, _, _, hw, h => ⟨h.1, hQ _ _ (h.2 _ hw)⟩
  | fuel + 1, _, _, _, _, hD, hw, h => ⟨fun h0 => hQ _ _ (h.1 h0 _ hw), fun i hi => wpOpIn_of_sp hnd hD hw (fun D' a' w' hD' hw' hk => wpAnyIn_of_sp hnd hQ fuel _ D' a' w' hD' hw' hk) (h.2 i hi)⟩

/-- ONE WALK IN THE ORDER OF THE TEXT SERVES EVERY ORDER, inside a round. -/
theorem wpIn_region_sp {rl n id : Nat} {Q : Exit → Act → World → Prop} {a : Act} {w : World} {l : List Oper} (sp : Nat → Bool) (C : World → Prop) (hm : P.follows .mixedOrders = true) (hB : spB .any l.toArray sp = true) (hnd : noDefer l.toArray = true)
    (hC : C w) (hCm : ∀ w' w'', C w' → Mk w' w'' → C w'')
    (h : ∀ D : World → Prop, Hid (∀ w', D w' → Mk w w' ∧ C w') → (∃ w', D w') → wpSp P l.toArray sp C (fun a' w' => Q .normal a' w') l 0 D a) : (Code.region id l.toArray true).wpIn (Fence.wide.inRound rl) n P Q a w := by
  simp only [spB, Bool.and_eq_true] at hB
  have hcls : Cls C (fun w' => Mk w w' ∧ C w') := ⟨fun w' w'' h k => ⟨mk_trans h.1 k, hCm _ _ h.2 k⟩, fun w' h => h.2⟩
  have hd : Mk w { w with drawn := w.drawn + 1 } := mk_drewN w 1
  have hne : ∃ w', (fun w' => Mk w w' ∧ C w') w' := ⟨w, mk_refl w, hC⟩
  refine wpIn_region_any hm (wpAnyIn_of_sp (sp := sp) (C := C) (D := fun w' => Mk w w' ∧ C w') (Q := fun a' w' => Q .normal a' w') hnd (fun _ _ h => h) _ _ _ _ hcls ⟨hd, hCm _ _ hC hd⟩ ?_)
  have := wpAnySp_lex (C := C) (md := .any) hB.1 l 0 (Array.replicate l.toArray.size false) (fun w' => Mk w w' ∧ C w') a hne (by simp) (by simpa using hB.2) (h _ (fun _ h => h) hne)
  simpa using this
end Go.Sp
