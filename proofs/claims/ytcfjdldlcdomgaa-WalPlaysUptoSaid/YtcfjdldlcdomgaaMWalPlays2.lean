/- A region that draws its order, some of whose operations write or make memory: one walk, in the order of the text. Nothing of the program stands here. Plain facts on the sum of 32 bits: bit by bit and by a table it is one; one turned byte turns it. The walks of layer 5, frame: bytes cloned, four bytes as a number and back, sizes. -/
import Derived.Test.YtcfjdldlcdomgaaMWalPlays0
import Derived.Test.YtcfjdldlcdomgaaProg
set_option linter.unusedVariables false
set_option linter.unusedSimpArgs false
namespace Go.Sp
open Go Go.RowKit Go.Tk

section
variable {P : Program} {ops : Array Oper} {md : Region.Mode} {sp : Nat → Bool} {C : World → Prop}

/-- An operation that leaves the world alone and yields v; a call may make memory (not behind a special operation). -/
def qAt (P : Program) (late : Bool) (w : World) (v : Value) : Result Next → Prop
  | .ok (.value u) w' => w' = w ∧ u = v
  | .ok .skip w' => w' = w ∧ v = undef
  | .ok (.enter f args) w' => late = false ∧ w' = w ∧ Calls P f args w (fun e w'' => e = .returned v ∧ Mk w w'')
  | _ => False

/-- A special operation: what it yields and leaves stands in R. -/
def sAt (P : Program) (R : Value → World → Prop) : Result Next → Prop
  | .ok (.value u) w' => R u w'
  | .ok .skip w' => R undef w'
  | .ok (.enter f args) w' => Calls P f args w' (fun e w'' => ∃ u, e = .returned u ∧ R u w'')
  | _ => False

/-- Is there a special operation ahead of this one? -/
def late (sp : Nat → Bool) (j : Nat) : Bool := (List.range j).any sp

/-- One operation: a special one, or one that is none. -/
def spStep (P : Program) (ops : Array Oper) (C : World → Prop) (s lt : Bool) (o : Oper) (K : (World → Prop) → Act → Prop) (D : World → Prop) (a : Act) : Prop :=
  if Region.wanted o (yielded ops a.tmps) = true then
    if s = true then ∃ R : Value → World → Prop, (∀ v w' w'', R v w' → Mk w' w'' → R v w'') ∧ (∀ v w', R v w' → C w') ∧ (∀ w', D w' → sAt P R ((execOp a.eval o).run P w')) ∧ ∀ v, (∃ w', R v w') → K (R v) (a.put o.dst v)
    else ∃ v, (∀ w', C w' → qAt P lt w' v ((execOp a.eval o).run P w')) ∧ K D (a.put o.dst v)
  else K D (a.put o.dst undef)

/-- The walk in the order of the text. -/
def wpSp (P : Program) (ops : Array Oper) (sp : Nat → Bool) (C : World → Prop) (Q : Act → World → Prop) : List Oper → Nat → (World → Prop) → Act → Prop
  | [], _, D, a => ∀ w', D w' → Q a w'
  | o :: rest, k, D, a => spStep P ops C (sp k) (late sp k) o (wpSp P ops sp C Q rest (k + 1)) D a

def spOp (P : Program) (ops : Array Oper) (sp : Nat → Bool) (C : World → Prop) (i : Nat) (K : (World → Prop) → Act → Prop) (D : World → Prop) (a : Act) : Prop :=
  match ops[i]? with
  | none => K D a
  | some o => spStep P ops C (sp i) (late sp i) o K D a

def wpAnySp (P : Program) (md : Region.Mode) (ops : Array Oper) (sp : Nat → Bool) (C : World → Prop) (Q : Act → World → Prop) : Nat → Array Bool → (World → Prop) → Act → Prop
  | 0, listed, D, a => Region.ready md ops listed = [] ∧ ∀ w', D w' → Q a w'
  | fuel + 1, listed, D, a =>
    (Region.ready md ops listed = [] → ∀ w', D w' → Q a w') ∧
    ∀ i ∈ Region.ready md ops listed, spOp P ops sp C i (wpAnySp P md ops sp C Q fuel (listed.setIfInBounds i true)) D a

/-- A class of worlds that goes on. -/
structure Cls (C D : World → Prop) : Prop where
  on : ∀ w' w'', D w' → Mk w' w'' → D w''
  sub : ∀ w', D w' → C w'

theorem spStep_mono {s lt : Bool} {o : Oper} {K K' : (World → Prop) → Act → Prop} {D : World → Prop} {a : Act} (h : ∀ D a, K D a → K' D a) (hh : spStep P ops C s lt o K D a) : spStep P ops C s lt o K' D a := by
  unfold spStep at *
  by_cases hw : Region.wanted o (yielded ops a.tmps) = true
  · rw [if_pos hw] at hh ⊢
    by_cases hs : s = true
    · rw [if_pos hs] at hh ⊢
      obtain ⟨R, h1, h2, h3, h4⟩ := hh; exact ⟨R, h1, h2, h3, fun v hv => h _ _ (h4 v hv)⟩
    · rw [if_neg hs] at hh ⊢
      obtain ⟨v, h1, h2⟩ := hh; exact ⟨v, h1, h _ _ h2⟩
  · rw [if_neg hw] at hh ⊢
    exact h _ _ hh

theorem wpOp_of_sp {i : Nat} {a : Act} {K : (World → Prop) → Act → Prop} {K' : Act → World → Prop} {Q' : Exit → Act → World → Prop} {D : World → Prop} (hD : Cls C D)
    {w : World} (hw : D w) (h : ∀ D' a w', Cls C D' → D' w' → K D' a → K' a w') (hh : spOp P ops sp C i K D a) : wpOp P ops Q' i K' a w := by
  unfold spOp at hh
  unfold wpOp
  split
  · rename_i ho; simp only [ho] at hh; exact h _ _ _ hD hw hh
  · rename_i o ho
    simp only [ho] at hh
    unfold spStep at hh
    by_cases hwt : Region.wanted o (yielded ops a.tmps) = true
    · rw [if_pos hwt] at hh ⊢
      refine .inl ?_
      unfold Oper.wp
      split at hh
      · obtain ⟨R, h1, h2, h3, h4⟩ := hh
        have h5 := h3 w hw
        have hR : ∀ v, Cls C (R v) := fun v => ⟨h1 v, h2 v⟩
        generalize (execOp a.eval o).run P w = r at *
        cases r with
        | ok n w' =>
          cases n <;> simp only [sAt] at h5 <;> simp only [Oper.upon]
          case value u => exact h _ _ _ (hR u) h5 (h4 u ⟨_, h5⟩)
          case skip => exact h _ _ _ (hR _) h5 (h4 _ ⟨_, h5⟩)
          case enter f args => exact h5.mono fun e w'' ⟨u, he, hr⟩ => by subst he; exact h _ _ _ (hR u) hr (h4 u ⟨_, hr⟩)
        | halt x w' => simp only [sAt] at h5
      · obtain ⟨v, h1, h2⟩ := hh
        have h5 := h1 w (hD.sub w hw)
        generalize (execOp a.eval o).run P w = r at *
        cases r with
        | ok n w' =>
          cases n <;> simp only [qAt] at h5 <;> simp only [Oper.upon]
          case value u => obtain ⟨rfl, rfl⟩ := h5; exact h _ _ _ hD hw h2
          case skip => obtain ⟨rfl, rfl⟩ := h5; exact h _ _ _ hD hw h2
          case enter f args =>
            obtain ⟨_, rfl, hc⟩ := h5
            exact hc.mono fun e w'' ⟨he, hm⟩ => by subst he; exact h _ _ _ hD (hD.on _ _ hw hm) h2
        | halt x w' => simp only [qAt] at h5
    · rw [if_neg hwt] at hh ⊢
      exact h _ _ _ hD hw hh

theorem wpAny_of_sp {Q : Act → World → Prop} {Q' : Exit → Act → World → Prop} (hQ : ∀ a w, Q a w → Q' .normal a w) : ∀ (fuel : Nat) (listed : Array Bool) (D : World → Prop) (a : Act) (w : World), Cls C D → D w →
    wpAnySp P md ops sp C Q fuel listed D a → wpAny P md ops Q' fuel listed a w
  | 0, _, _, _, _, _, hw, h => ⟨h.1, hQ _ _ (h.2 _ hw)⟩
  | fuel + 1, _, _, _, _, hD, hw, h => ⟨fun h0 => hQ _ _ (h.1 h0 _ hw), fun i hi => wpOp_of_sp hD hw (fun D' a' w' hD' hw' hk => wpAny_of_sp hQ fuel _ D' a' w' hD' hw' hk) (h.2 i hi)⟩

/-- What is no special operation yields v, in every world of the class; or it is passed over. -/
def YQ (P : Program) (ops : Array Oper) (C : World → Prop) (s lt : Bool) (o : Oper) (v : Value) (a : Act) : Prop :=
  (Region.wanted o (yielded ops a.tmps) = true ∧ s = false ∧ ∀ w, C w → qAt P lt w v ((execOp a.eval o).run P w)) ∨
  (Region.wanted o (yielded ops a.tmps) = false ∧ v = undef)

theorem YQ.spOp {i : Nat} {o : Oper} {v : Value} {a : Act} (hi : ops[i]? = some o) (hy : YQ P ops C (sp i) (late sp i) o v a) {K : (World → Prop) → Act → Prop} {D : World → Prop} (h : K D (a.put o.dst v)) : spOp P ops sp C i K D a := by
  unfold Sp.spOp
  simp only [hi]
  unfold spStep
  rcases hy with ⟨hw, hs, hv⟩ | ⟨hw, rfl⟩
  · rw [if_pos hw, if_neg (by rw [hs]; decide)]; exact ⟨v, hv, h⟩
  · rw [if_neg (by rw [hw]; decide)]; exact h

theorem YQ.of_same {s lt : Bool} {o : Oper} {v : Value} {a a' : Act} (hy : YQ P ops C s lt o v a) (he : execOp a'.eval o = execOp a.eval o)
    (hw : Region.wanted o (yielded ops a'.tmps) = Region.wanted o (yielded ops a.tmps)) : YQ P ops C s lt o v a' := by
  unfold YQ at *
  rw [he, hw]
  exact hy

theorem spOp_put {j : Nat} {oi oj : Oper} {s lt : Bool} {v : Value} (hj : ops[j]? = some oj) (hap : oi.apart ops oj = true)
    (hsi : ∀ cs b, oi.op ≠ .select cs b) (hsj : ∀ cs b, oj.op ≠ .select cs b) {K : (World → Prop) → Act → Prop} {D : World → Prop} {a : Act}
    (hy : YQ P ops C s lt oi v a) (h : spOp P ops sp C j K D (a.put oi.dst v)) :
    spOp P ops sp C j (fun D' a' => YQ P ops C s lt oi v a' ∧ K D' (a'.put oi.dst v)) D a := by
  obtain ⟨h1, h2, h3⟩ := Oper.apart_spec hap
  have keep : ∀ u, YQ P ops C s lt oi v (a.put oj.dst u) := fun u => hy.of_same (execOp_put oi hsi a oj.dst u h3) (wanted_put oi a oj.dst u h3)
  unfold spOp at *
  simp only [hj] at *
  unfold spStep at *
  rw [wanted_put oj a oi.dst v h1] at h
  split
  · rename_i hw
    rw [if_pos hw] at h
    rw [execOp_put oj hsj a oi.dst v h1] at h
    split
    · rename_i hs
      rw [if_pos hs] at h
      obtain ⟨R, g1, g2, g3, g4⟩ := h
      exact ⟨R, g1, g2, g3, fun u hu => ⟨keep u, by rw [← Act.put_comm a v u h2]; exact g4 u hu⟩⟩
    · rename_i hs
      rw [if_neg hs] at h
      obtain ⟨u, g1, g2⟩ := h
      exact ⟨u, g1, keep u, by rw [← Act.put_comm a v u h2]; exact g2⟩
  · rename_i hw
    rw [if_neg hw] at h
    exact ⟨keep _, by rw [← Act.put_comm a v undef h2]; exact h⟩

theorem no_edge {i : Nat} {oj : Oper} {listed : Array Bool} (hr : i ∈ Region.ready md ops listed) (hall : ∀ e ∈ oj.after, Region.binds md e = true → listed.getD e.on false = true) :
    ∀ e ∈ oj.after, Region.binds md e = true → e.on ≠ i := fun e he hb heq => by
  have h1 := hall e he hb
  have h0 := (mem_ready.1 hr).1
  rw [heq] at h1
  rcases Nat.lt_or_ge i listed.size with h' | h'
  · simp [h'] at h0 h1; rw [h0] at h1; cases h1
  · simp [Array.getElem?_eq_none h'] at h1

/-- What is no special operation may be taken first. -/
theorem first_quiet {Q : Act → World → Prop} {i : Nat} {oi : Oper} {v : Value} (hi : ops[i]? = some oi) (hsel : ∀ (j : Nat) (o : Oper) cs b, ops[j]? = some o → o.op ≠ .select cs b) :
    ∀ (fuel : Nat) (listed : Array Bool) (D : World → Prop) (a : Act),
      (∀ j oj, ops[j]? = some oj → j ≠ i → listed.getD j true = false → (∀ e ∈ oj.after, Region.binds md e = true → e.on ≠ i) → oi.apart ops oj = true) →
      i ∈ Region.ready md ops listed → YQ P ops C (sp i) (late sp i) oi v a →
      wpAnySp P md ops sp C Q fuel (listed.setIfInBounds i true) D (a.put oi.dst v) → wpAnySp P md ops sp C Q (fuel + 1) listed D a := by
  intro fuel
  induction fuel with
  | zero =>
    intro listed D a _ hr hy H
    refine ⟨fun h => (by rw [h] at hr; cases hr), fun j hj => ?_⟩
    by_cases hji : j = i
    · subst hji; exact hy.spOp hi H
    · have := ready_mono hj hji
      rw [H.1] at this
      cases this
  | succ fuel ih =>
    intro listed D a hfree hr hy H
    refine ⟨fun h => (by rw [h] at hr; cases hr), fun j hj => ?_⟩
    by_cases hji : j = i
    · subst hji; exact hy.spOp hi H
    · have h1 := H.2 j (ready_mono hj hji)
      obtain ⟨hjun, oj, hoj, hall⟩ := mem_ready.1 hj
      have h2 := spOp_put hoj (hfree j oj hoj hji hjun (no_edge hr hall)) (fun cs b => hsel i oi cs b hi) (fun cs b => hsel j oj cs b hoj) hy h1
      have hfree' : ∀ k ok, ops[k]? = some ok → k ≠ i → (listed.setIfInBounds j true).getD k true = false →
          (∀ e ∈ ok.after, Region.binds md e = true → e.on ≠ i) → oi.apart ops ok = true := fun k ok hk hki hun hno => by
        refine hfree k ok hk hki ?_ hno
        by_cases hjk : j = k
        · subst hjk; exact hjun
        · rw [getD_set_ne true hjk] at hun; exact hun
      unfold spOp at h2 ⊢
      simp only [hoj] at h2 ⊢
      refine spStep_mono (fun D' a' h3 => ih (listed.setIfInBounds j true) D' a' hfree' (ready_mono hr (Ne.symm hji)) h3.1 ?_) h2
      rw [Array.setIfInBounds_comm _ _ hji]
      exact h3.2

theorem sAt_some {R : Value → World → Prop} {r : Result Next} (h : sAt P R r) : ∃ v w, R v w := by
  cases r with
  | ok n w' =>
    cases n <;> simp only [sAt] at h
    case value u => exact ⟨_, _, h⟩
    case skip => exact ⟨_, _, h⟩
    case enter f args => obtain ⟨e, w1, fr, ⟨u, _, hr⟩, _⟩ := h []; exact ⟨_, _, hr⟩
  | halt x w' => simp only [sAt] at h

theorem qAt_same {w : World} {u u' : Value} {r : Result Next} (h : qAt P true w u r) (h' : qAt P true w u' r) : u = u' := by
  cases r with
  | ok n w' =>
    cases n <;> simp only [qAt] at h h'
    case value x => exact h.2.symm.trans h'.2
    case skip => exact h.2.trans h'.2.symm
    case enter f args => cases h.1
  | halt x w' => simp only [qAt] at h

/-- A special operation may be taken first, if no other special one may come up beside it. -/
theorem first_special {Q : Act → World → Prop} {i : Nat} {oi : Oper} (hi : ops[i]? = some oi) (hsi : sp i = true) (hsel : ∀ (j : Nat) (o : Oper) cs b, ops[j]? = some o → o.op ≠ .select cs b)
    (R : Value → World → Prop) (hRs : ∀ v w' w'', R v w' → Mk w' w'' → R v w'') (hRC : ∀ v w', R v w' → C w') :
    ∀ (fuel : Nat) (listed : Array Bool) (D : World → Prop) (a : Act), (∃ w, D w) →
      (∀ j oj, ops[j]? = some oj → j ≠ i → listed.getD j true = false → (∀ e ∈ oj.after, Region.binds md e = true → e.on ≠ i) → oi.apart ops oj = true ∧ sp j = false ∧ late sp j = true) →
      i ∈ Region.ready md ops listed → Region.wanted oi (yielded ops a.tmps) = true → (∀ w', D w' → sAt P R ((execOp a.eval oi).run P w')) →
      (∀ v, (∃ w', R v w') → wpAnySp P md ops sp C Q fuel (listed.setIfInBounds i true) (R v) (a.put oi.dst v)) → wpAnySp P md ops sp C Q (fuel + 1) listed D a := by
  intro fuel
  have here : ∀ (a : Act) (D : World → Prop) (K : (World → Prop) → Act → Prop), Region.wanted oi (yielded ops a.tmps) = true → (∀ w', D w' → sAt P R ((execOp a.eval oi).run P w')) → (∀ v, (∃ w', R v w') → K (R v) (a.put oi.dst v)) → spOp P ops sp C i K D a := by
    intro a D K hw hs hk
    unfold spOp
    simp only [hi]
    unfold spStep
    rw [if_pos hw, if_pos hsi]
    exact ⟨R, hRs, hRC, hs, hk⟩
  induction fuel with
  | zero =>
    intro listed D a ⟨w0, hw0⟩ _ hr hw hs H
    refine ⟨fun h => (by rw [h] at hr; cases hr), fun j hj => ?_⟩
    by_cases hji : j = i
    · subst hji; exact here a D _ hw hs H
    · obtain ⟨v0, w1, hv0⟩ := sAt_some (hs w0 hw0)
      have := ready_mono hj hji
      rw [(H v0 ⟨_, hv0⟩).1] at this
      cases this
  | succ fuel ih =>
    intro listed D a hDn hfree hr hw hs H
    refine ⟨fun h => (by rw [h] at hr; cases hr), fun j hj => ?_⟩
    by_cases hji : j = i
    · subst hji; exact here a D _ hw hs H
    · obtain ⟨w0, hw0⟩ := hDn
      obtain ⟨v0, w1, hv0⟩ := sAt_some (hs w0 hw0)
      obtain ⟨hjun, oj, hoj, hall⟩ := mem_ready.1 hj
      obtain ⟨hap, hsj, hlj⟩ := hfree j oj hoj hji hjun (no_edge hr hall)
      obtain ⟨h1, h2, h3⟩ := Oper.apart_spec hap
      have hseli := fun cs b => hsel i oi cs b hi
      have hselj := fun cs b => hsel j oj cs b hoj
      have hfree' : ∀ k ok, ops[k]? = some ok → k ≠ i → (listed.setIfInBounds j true).getD k true = false →
          (∀ e ∈ ok.after, Region.binds md e = true → e.on ≠ i) → oi.apart ops ok = true ∧ sp k = false ∧ late sp k = true := fun k ok hk hki hun hno => by
        refine hfree k ok hk hki ?_ hno
        by_cases hjk : j = k
        · subst hjk; exact hjun
        · rw [getD_set_ne true hjk] at hun; exact hun
      have atj : ∀ v, (∃ w', R v w') → spStep P ops C false true oj (wpAnySp P md ops sp C Q fuel ((listed.setIfInBounds i true).setIfInBounds j true)) (R v) (a.put oi.dst v) := fun v hv => by
        have := (H v hv).2 j (ready_mono hj hji)
        unfold spOp at this
        simp only [hoj, hsj, hlj] at this
        exact this
      have next : ∀ u, (∀ v, (∃ w', R v w') → wpAnySp P md ops sp C Q fuel ((listed.setIfInBounds i true).setIfInBounds j true) (R v) ((a.put oi.dst v).put oj.dst u)) →
          wpAnySp P md ops sp C Q (fuel + 1) (listed.setIfInBounds j true) D (a.put oj.dst u) := fun u hu => by
        refine ih (listed.setIfInBounds j true) D (a.put oj.dst u) ⟨w0, hw0⟩ hfree' (ready_mono hr (Ne.symm hji)) ?_ ?_ ?_
        · rw [wanted_put oi a oj.dst u h3]; exact hw
        · intro w' hw'; rw [execOp_put oi hseli a oj.dst u h3]; exact hs w' hw'
        · intro v hv
          rw [Array.setIfInBounds_comm _ _ hji, ← Act.put_comm a v u h2]
          exact hu v hv
      unfold spOp
      simp only [hoj, hsj, hlj]
      unfold spStep
      by_cases hwj : Region.wanted oj (yielded ops a.tmps) = true
      · rw [if_pos hwj, if_neg (by decide)]
        have a0 := atj v0 ⟨_, hv0⟩
        unfold spStep at a0
        rw [wanted_put oj a oi.dst v0 h1, if_pos hwj, if_neg (by decide), execOp_put oj hselj a oi.dst v0 h1] at a0
        obtain ⟨u, hu, hk⟩ := a0
        refine ⟨u, hu, next u fun v hv => ?_⟩
        have a1 := atj v hv
        unfold spStep at a1
        rw [wanted_put oj a oi.dst v h1, if_pos hwj, if_neg (by decide), execOp_put oj hselj a oi.dst v h1] at a1
        obtain ⟨u', hu', hk'⟩ := a1
        have hc0 := hRC _ _ hv0
        obtain rfl : u = u' := qAt_same (hu _ hc0) (hu' _ hc0)
        exact hk'
      · rw [if_neg hwj]
        refine next undef fun v hv => ?_
        have a1 := atj v hv
        unfold spStep at a1
        rw [wanted_put oj a oi.dst v h1, if_neg hwj] at a1
        exact a1

/-- Of the operations that have not come up and do not wait for number i none is special. -/
def alone (md : Region.Mode) (ops : Array Oper) (sp : Nat → Bool) (listed : Array Bool) (i : Nat) : Bool :=
  !sp i || (List.range ops.size).all fun j => j == i || listed.getD j true || match ops[j]? with
      | some oj => oj.after.any (fun e => Region.binds md e && e.on == i) || (!sp j && late sp j)
      | none => true

theorem alone_spec {i : Nat} {listed : Array Bool} (hs : sp i = true) (h : alone md ops sp listed i = true) (j : Nat) (oj : Oper)
    (hj : ops[j]? = some oj) (hne : j ≠ i) (hun : listed.getD j true = false) (hno : ∀ e ∈ oj.after, Region.binds md e = true → e.on ≠ i) : sp j = false ∧ late sp j = true := by
  simp only [alone, hs, Bool.not_true, Bool.false_or, List.all_eq_true, List.mem_range] at h
  have h1 := h j (Array.getElem?_eq_some_iff.1 hj).1
  simp only [hj, Bool.or_eq_true, beq_iff_eq, hne, false_or, hun, Bool.false_eq_true] at h1
  rcases h1 with h1 | h1
  · obtain ⟨e, he, h2⟩ := Array.any_eq_true'.1 h1
    simp only [Bool.and_eq_true, beq_iff_eq] at h2
    exact absurd h2.2 (hno e he h2.1)
  · simpa using h1

def spFrom (md : Region.Mode) (ops : Array Oper) (sp : Nat → Bool) : Nat → Nat → Array Bool → Bool
  | 0, _, listed => (Region.ready md ops listed).isEmpty
  | fuel + 1, k, listed => (Region.ready md ops listed).contains k && Region.free md ops listed k && alone md ops sp listed k && spFrom md ops sp fuel (k + 1) (listed.setIfInBounds k true)
/-- May the region be walked in the order of the text? A closed fact. -/
def spB (md : Region.Mode) (ops : Array Oper) (sp : Nat → Bool) : Bool := Region.noSelect ops && spFrom md ops sp ops.size 0 (Array.replicate ops.size false)

theorem wpAnySp_lex {Q : Act → World → Prop} (hs : Region.noSelect ops = true) : ∀ (l : List Oper) (k : Nat) (listed : Array Bool) (D : World → Prop) (a : Act), (∃ w, D w) → (∀ j, l[j]? = ops[k + j]?) →
    spFrom md ops sp l.length k listed = true → wpSp P ops sp C Q l k D a → wpAnySp P md ops sp C Q l.length listed D a
  | [], _, _, _, _, _, _, hB, h => ⟨by simpa [spFrom] using hB, h⟩
  | o :: l, k, listed, D, a, hDn, hl, hB, h => by
    have h0 : ops[k]? = some o := by simpa using (hl 0).symm
    simp only [List.length_cons, spFrom, Bool.and_eq_true] at hB
    obtain ⟨⟨⟨hr, hf⟩, hal⟩, hB'⟩ := hB
    have hl' : ∀ j, l[j]? = ops[k + 1 + j]? := fun j => by have := hl (j + 1); simpa [Nat.add_assoc, Nat.add_comm 1 j] using this
    have hfree := Region.free_spec h0 hf
    have hrm : k ∈ Region.ready md ops listed := by simpa using hr
    simp only [wpSp] at h
    unfold spStep at h
    by_cases hw : Region.wanted o (yielded ops a.tmps) = true
    · rw [if_pos hw] at h
      by_cases hsk : sp k = true
      · rw [if_pos hsk] at h
        obtain ⟨R, g1, g2, g3, g4⟩ := h
        exact first_special h0 hsk (Region.noSelect_spec hs) R g1 g2 l.length listed D a hDn
          (fun j oj hj hne hun hno => ⟨hfree j oj hj hne hun hno, alone_spec hsk hal j oj hj hne hun hno⟩) hrm hw g3
          (fun v hv => wpAnySp_lex hs l (k + 1) _ (R v) _ hv hl' hB' (g4 v hv))
      · rw [if_neg hsk] at h
        obtain ⟨v, g1, g2⟩ := h
        exact first_quiet h0 (Region.noSelect_spec hs) l.length listed D a hfree hrm (.inl ⟨hw, by simpa using hsk, g1⟩)
          (wpAnySp_lex hs l (k + 1) _ D _ hDn hl' hB' g2)
    · rw [if_neg hw] at h
      exact first_quiet h0 (Region.noSelect_spec hs) l.length listed D a hfree hrm (.inr ⟨by simpa using hw, rfl⟩)
        (wpAnySp_lex hs l (k + 1) _ D _ hDn hl' hB' h)

/-- ONE WALK IN THE ORDER OF THE TEXT SERVES EVERY ORDER. 'sp' names the operations that write or make memory; C is what the others lean on, before and behind these. -/
theorem wp_region_sp {id : Nat} {Q : Exit → Act → World → Prop} {a : Act} {w : World} {l : List Oper} (sp : Nat → Bool) (C : World → Prop) (hm : P.follows .mixedOrders = true) (hB : spB .any l.toArray sp = true)
    (hC : C w) (hCm : ∀ w' w'', C w' → Mk w' w'' → C w'')
    (h : ∀ D : World → Prop, Hid (∀ w', D w' → Mk w w' ∧ C w') → (∃ w', D w') → wpSp P l.toArray sp C (fun a' w' => Q .normal a' w') l 0 D a) : (Code.region id l.toArray true).wp P Q a w := by
  simp only [spB, Bool.and_eq_true] at hB
  have hcls : Cls C (fun w' => Mk w w' ∧ C w') := ⟨fun w' w'' h k => ⟨mk_trans h.1 k, hCm _ _ h.2 k⟩, fun w' h => h.2⟩
  have hd : Mk w { w with drawn := w.drawn + 1 } := mk_drewN w 1
  have hne : ∃ w', (fun w' => Mk w w' ∧ C w') w' := ⟨w, mk_refl w, hC⟩
  refine wp_region_any hm (wpAny_of_sp (sp := sp) (C := C) (D := fun w' => Mk w w' ∧ C w') (Q := fun a' w' => Q .normal a' w') (fun _ _ h => h) _ _ _ _ hcls ⟨hd, hCm _ _ hC hd⟩ ?_)
  have := wpAnySp_lex (C := C) (md := .any) hB.1 l 0 (Array.replicate l.toArray.size false) (fun w' => Mk w w' ∧ C w') a hne (by simp) (by simpa using hB.2) (h _ (fun _ h => h) hne)
  simpa using this

/-! ### The steps of the walk -/
theorem spq {Q : Act → World → Prop} {o : Oper} {rest : List Oper} {k : Nat} {D : World → Prop} {a : Act} (hw : Region.wanted o (yielded ops a.tmps) = true) (hs : sp k = false)
    (h : ∀ K : Act → Prop, (∀ a, wpSp P ops sp C Q rest (k + 1) D a → K a) → ∃ v, (∀ w', C w' → qAt P (late sp k) w' v ((execOp a.eval o).run P w')) ∧ K (a.put o.dst v)) : wpSp P ops sp C Q (o :: rest) k D a := by
  simp only [wpSp]
  unfold spStep
  rw [if_pos hw, if_neg (by rw [hs]; decide)]
  exact h _ fun _ h => h
theorem spskip {Q : Act → World → Prop} {o : Oper} {rest : List Oper} {k : Nat} {D : World → Prop} {a : Act} (hw : Region.wanted o (yielded ops a.tmps) = false)
    (h : ∀ K : Act → Prop, (∀ a, wpSp P ops sp C Q rest (k + 1) D a → K a) → K (a.put o.dst undef)) : wpSp P ops sp C Q (o :: rest) k D a := by
  simp only [wpSp]
  unfold spStep
  rw [if_neg (by rw [hw]; decide)]
  exact h _ fun _ h => h
theorem sps {Q : Act → World → Prop} {o : Oper} {rest : List Oper} {k : Nat} {D : World → Prop} {a : Act} (hw : Region.wanted o (yielded ops a.tmps) = true) (hs : sp k = true)
    (R : Value → World → Prop) (hR : ∀ v w' w'', R v w' → Mk w' w'' → R v w'') (hC : ∀ v w', R v w' → C w') (hrun : ∀ w', D w' → sAt P R ((execOp a.eval o).run P w'))
    (h : ∀ K : Act → Prop, ∀ v, (∃ w', R v w') → (∀ a, wpSp P ops sp C Q rest (k + 1) (R v) a → K a) → K (a.put o.dst v)) : wpSp P ops sp C Q (o :: rest) k D a := by
  simp only [wpSp]
  unfold spStep
  rw [if_pos hw, if_pos hs]
  exact ⟨R, hR, hC, hrun, fun v hv => h _ v hv fun _ h => h⟩
theorem sp_nil {Q : Act → World → Prop} {k : Nat} {D : World → Prop} {a : Act} (h : ∀ w', D w' → Q a w') : wpSp P ops sp C Q [] k D a := h
theorem qAt_value {lt : Bool} {w w' : World} {v u : Value} : qAt P lt w v (.ok (.value u) w') = (w' = w ∧ u = v) := rfl
theorem qAt_skip {lt : Bool} {w w' : World} {v : Value} : qAt P lt w v (.ok .skip w') = (w' = w ∧ v = undef) := rfl
theorem qAt_enter {lt : Bool} {w w' : World} {v : Value} {f : FuncId} {args : Array Value} : qAt P lt w v (.ok (.enter f args) w') = (lt = false ∧ w' = w ∧ Calls P f args w (fun e w'' => e = .returned v ∧ Mk w w'')) := rfl
theorem sAt_append {R : Value → World → Prop} {o : Oper} {a : Act} {w : World} {t e : TypeId}
    (ht : P.underlying t = some (.slice e)) (hi : (P.info? e).map (fun i => (i.zero, i.size, i.bytes)) = some (some (.int .u8 0), 1, 1)) (s x : Operand)
    (ho : o.op = .call { callee := .builtin .append, args := #[s, x], argTypes := #[t, t] })
    {base : Nat} {v : Value} {n : Nat} {xs : List Value} (hs : a.eval s = v) (hown : w.ownsRow base e 1 v n xs)
    {xv : Value} {m : Nat} {news : List Value} (hxe : a.eval x = xv) (hx : Sl w 1 xv m news) (h1 : ∀ u ∈ news, u.oneCell' = true)
    (hb : n + m ≤ 140737488355328) (hbase : base ≤ w.heap.size)
    (h : ∀ v' w', w'.ownsRow base e 1 v' (n + m) (xs ++ news) → w.grownBy w' v.ownBlock → (v' = .slice none 0 0 ↔ v = .slice none 0 0 ∧ m = 0) → (v'.ownBlock = v.ownBlock ∨ ∃ g, v'.ownBlock = some g ∧ w.heap.size ≤ g) → R v' w') :
    sAt P R ((execOp a.eval o).run P w) := by
  obtain ⟨i0, hi1, hz0, hz1, hz2⟩ := info_parts hi
  obtain ⟨v', w', hr, h2, h3, h4, h5⟩ := run_append_sl (P := P) w base t o.type e i0 _ 1 1 ht hi1 hz0 hz1 hz2 rfl (by decide) v n xs hown xv m news hx h1 (by simp only [maxLen]; omega) (by omega) hbase
  simp only [execOp, ho, resolve, invoke, builtin, Sem.run_bind, Sem.run_pure, Result.andThen_ok, List.map_toArray, List.map_cons, List.map_nil, hs, hxe, hr]
  exact h v' w' h2 h3 h4 h5

/-- An operation that is no call of a Go function. -/
def plainOp (o : Oper) : Bool := match o.op with
  | .call c => match c.callee with | .builtin .len | .builtin .cap | .builtin .min | .builtin .max => true | _ => false
  | .go _ | .defer _ | .send .. | .recv .. | .select .. | .nilCheck _ => false
  | _ => true
def okNext : Next → Bool | .value _ | .skip => true | _ => false
theorem okNext_v {w w' : World} {r : Result Value} {n : Next} (h : r.andThen (fun a w => .ok (.value a) w) = .ok n w') : okNext n = true := by
  cases r with
  | ok v w1 => simp only [Result.andThen_ok, Result.ok.injEq] at h; rw [← h.1]; rfl
  | halt x w1 => simp [Result.andThen] at h
theorem okNext_u {w w' : World} {r : Result Unit} {n : Next} (h : r.andThen (fun _ w => .ok .skip w) = .ok n w') : okNext n = true := by
  cases r with
  | ok v w1 => simp only [Result.andThen_ok, Result.ok.injEq] at h; rw [← h.1]; rfl
  | halt x w1 => simp [Result.andThen] at h
theorem okNext_b {w w' : World} {r : Result Bool} {x y : Value} {n : Next} (h : r.andThen (fun a w => .ok (.value (if a = true then x else y)) w) = .ok n w') : okNext n = true := by
  cases r with
  | ok v w1 => simp only [Result.andThen_ok, Result.ok.injEq] at h; rw [← h.1]; rfl
  | halt x w1 => simp [Result.andThen] at h
theorem plain_run {ρ : Operand → Value} {o : Oper} (hp : plainOp o = true) {w w' : World} {n : Next} (h : (execOp ρ o).run P w = .ok n w') : okNext n = true := by
  unfold execOp at h
  unfold plainOp at hp
  cases ho : o.op <;> rw [ho] at h hp <;> dsimp only at h hp
  case call c =>
    obtain ⟨callee, args, at_⟩ := c
    dsimp only at hp
    cases callee with
    | builtin b =>
      cases b <;> dsimp only at hp <;> first | (cases hp; done) | (simp only [resolve, invoke, builtin, Sem.run_bind, Sem.run_pure, Result.andThen_ok] at h; exact okNext_v (w := w) h)
    | invoke r nm => cases hp
    | value f => cases hp
  all_goals first | (cases hp; done) | (simp only [Sem.run_pure, Result.ok.injEq] at h; rw [← h.1]; rfl) | (simp only [Sem.run_bind, Sem.run_pure] at h; first | exact okNext_v (w := w) h | exact okNext_u (w := w) h | exact okNext_b (w := w) h)

/-- A step by the kit's own reckoning of one operation. -/
theorem spk {Q : Act → World → Prop} {o : Oper} {rest : List Oper} {k : Nat} {D : World → Prop} {a : Act} (hw : Region.wanted o (yielded ops a.tmps) = true) (hs : sp k = false) (hp : plainOp o = true)
    (h : ∀ K : Act → Prop, (∀ a, wpSp P ops sp C Q rest (k + 1) D a → K a) → o.quiet P a C K) : wpSp P ops sp C Q (o :: rest) k D a := by
  refine spq hw hs fun K hK => ?_
  obtain ⟨v, h1, h2⟩ := h K hK
  refine ⟨v, fun w' hw' => ?_, h2⟩
  have h3 := h1 w' hw'
  unfold Oper.quietAt at h3
  generalize hr : (execOp a.eval o).run P w' = r at *
  cases r with
  | ok n w2 =>
    have hn := plain_run hp hr
    cases n <;> first | (cases hn; done) | exact h3
  | halt x w2 => simp only [Oper.quietUpon] at h3
end
end Go.Sp

namespace Fr

/-- One bit of the sum. -/
def s1 (n : Nat) : Nat := if n % 2 = 1 then (n / 2) ^^^ 3988292384 else n / 2
/-- So many bits. -/
def sk : Nat → Nat → Nat
  | 0, n => n
  | k + 1, n => sk k (s1 n)
/-- One byte, bit by bit. -/
def stepB (n c : Nat) : Nat := sk 8 (n ^^^ c)
/-- One byte, by the table. -/
def stepT (n c : Nat) : Nat := (n / 256) ^^^ sk 8 ((n % 256) ^^^ c)

theorem s1_xor (a b : Nat) : s1 (a ^^^ b) = s1 a ^^^ s1 b := by
  have h1 : (a ^^^ b) % 2 = (a + b) % 2 := by
    have e : ∀ n : Nat, n % 2 = (n.testBit 0).toNat := fun n => by rw [Nat.testBit_zero]; rcases Nat.mod_two_eq_zero_or_one n with h | h <;> simp [h]
    rw [e, Nat.testBit_xor, Nat.add_mod, e a, e b]
    cases a.testBit 0 <;> cases b.testBit 0 <;> rfl
  have h2 : (a ^^^ b) / 2 = a / 2 ^^^ b / 2 := Nat.xor_div_two
  unfold s1
  rw [h1, h2]
  rcases Nat.mod_two_eq_zero_or_one a with ha | ha <;> rcases Nat.mod_two_eq_zero_or_one b with hb | hb
  · rw [if_neg (by omega), if_neg (by omega), if_neg (by omega)]
  · rw [if_pos (by omega), if_neg (by omega), if_pos (by omega), Nat.xor_assoc]
  · rw [if_pos (by omega), if_pos (by omega), if_neg (by omega)]
    rw [Nat.xor_assoc, Nat.xor_assoc, Nat.xor_comm (b / 2)]
  · rw [if_neg (by omega), if_pos (by omega), if_pos (by omega)]
    rw [Nat.xor_assoc, ← Nat.xor_assoc 3988292384, Nat.xor_comm 3988292384, Nat.xor_assoc, Nat.xor_self, Nat.xor_zero]

theorem sk_xor (k : Nat) : ∀ a b, sk k (a ^^^ b) = sk k a ^^^ sk k b := by
  induction k with
  | zero => intro a b; rfl
  | succ k ih => intro a b; simp only [sk]; rw [s1_xor, ih]

theorem s1_two (m : Nat) : s1 (2 * m) = m := by unfold s1; rw [if_neg (by omega)]; omega

theorem sk8_256 (h : Nat) : sk 8 (256 * h) = h := by
  have e : 256 * h = 2 * (2 * (2 * (2 * (2 * (2 * (2 * (2 * h))))))) := by omega
  rw [e]; simp only [sk, s1_two]

theorem split256 (n : Nat) : n = 256 * (n / 256) ^^^ n % 256 := by
  apply Nat.eq_of_testBit_eq
  intro j
  have hm : n % 256 < 2 ^ 8 := Nat.mod_lt _ (by decide)
  have h0 := Nat.testBit_two_pow_mul_add (i := 8) (n / 256) hm j
  have h1 := Nat.testBit_two_pow_mul_add (i := 8) (b := 0) (n / 256) (by decide) j
  simp only [Nat.add_zero, Nat.zero_testBit] at h1
  have e : 2 ^ 8 * (n / 256) + n % 256 = n := by omega
  rw [e] at h0
  rw [Nat.testBit_xor, h0, show (256 : Nat) = 2 ^ 8 from rfl, h1]
  by_cases hj : j < 8
  · simp [hj]
  · have : (n % 2 ^ 8).testBit j = false := Nat.testBit_lt_two_pow (Nat.lt_of_lt_of_le hm (Nat.pow_le_pow_right (by decide) (by omega)))
    simp [hj, this]

theorem stepT_eq (n c : Nat) : stepT n c = stepB n c := by
  unfold stepT stepB
  have h : n ^^^ c = 256 * (n / 256) ^^^ (n % 256 ^^^ c) := by
    rw [← Nat.xor_assoc, ← split256]
  rw [h, sk_xor 8 (256 * (n / 256)), sk8_256]

theorem s1_lt {n : Nat} (h : n < 2 ^ 32) : s1 n < 2 ^ 32 := by
  unfold s1; split
  · exact Nat.xor_lt_two_pow (by omega) (by decide)
  · omega
theorem sk_lt (k : Nat) : ∀ {n : Nat}, n < 2 ^ 32 → sk k n < 2 ^ 32 := by
  induction k with
  | zero => intro n h; exact h
  | succ k ih => intro n h; exact ih (s1_lt h)

theorem xor_right_inj {a b c : Nat} (h : c ^^^ a = c ^^^ b) : a = b := by
  have := congrArg (c ^^^ ·) h
  simpa [← Nat.xor_assoc] using this
theorem xor_left_inj {a b c : Nat} (h : a ^^^ c = b ^^^ c) : a = b := xor_right_inj (c := c) (by rw [Nat.xor_comm c, Nat.xor_comm c]; exact h)
theorem s1_inj {a b : Nat} (ha : a < 2 ^ 32) (hb : b < 2 ^ 32) (h : s1 a = s1 b) : a = b := by
  have top : ∀ m, m < 2 ^ 31 → (m ^^^ 3988292384).testBit 31 = true := fun m hm => by
    rw [Nat.testBit_xor, Nat.testBit_lt_two_pow hm]; decide
  have low : ∀ m, m < 2 ^ 31 → m.testBit 31 = false := fun m hm => Nat.testBit_lt_two_pow hm
  unfold s1 at h
  split at h <;> split at h
  · have : a / 2 = b / 2 := xor_left_inj h
    omega
  · have t := top (a / 2) (by omega); rw [h, low _ (by omega)] at t; cases t
  · have t := top (b / 2) (by omega); rw [← h, low _ (by omega)] at t; cases t
  · omega
theorem sk_inj (k : Nat) : ∀ {a b : Nat}, a < 2 ^ 32 → b < 2 ^ 32 → sk k a = sk k b → a = b := by
  induction k with
  | zero => intro a b _ _ h; exact h
  | succ k ih => intro a b ha hb h; exact s1_inj ha hb (ih (s1_lt ha) (s1_lt hb) h)

/-- All bytes. -/
def run (n : Nat) (l : List UInt8) : Nat := l.foldl (fun n c => stepB n c.toNat) n
/-- The sum of bytes. -/
def crc (l : List UInt8) : Nat := 4294967295 - run 4294967295 l

theorem u8_lt32 (c : UInt8) : c.toNat < 2 ^ 32 := Nat.lt_of_lt_of_le c.toNat_lt (by decide)
theorem stepB_lt {n : Nat} (h : n < 2 ^ 32) (c : UInt8) : stepB n c.toNat < 2 ^ 32 := sk_lt 8 (Nat.xor_lt_two_pow h (u8_lt32 c))
theorem run_lt (l : List UInt8) : ∀ {n}, n < 2 ^ 32 → run n l < 2 ^ 32 := by
  induction l with
  | nil => intro n h; exact h
  | cons c l ih => intro n h; exact ih (stepB_lt h c)
theorem crc_lt (l : List UInt8) : crc l < 2 ^ 32 := by unfold crc; omega
theorem run_snoc (n : Nat) (l : List UInt8) (c : UInt8) : run n (l ++ [c]) = stepB (run n l) c.toNat := by simp [run]
theorem run_append (n : Nat) (l m : List UInt8) : run n (l ++ m) = run (run n l) m := by simp [run]
theorem run_inj (l : List UInt8) : ∀ {a b}, a < 2 ^ 32 → b < 2 ^ 32 → run a l = run b l → a = b := by
  induction l with
  | nil => intro a b _ _ h; exact h
  | cons c l ih =>
    intro a b ha hb h
    have := ih (stepB_lt ha c) (stepB_lt hb c) h
    have := sk_inj 8 (Nat.xor_lt_two_pow ha (u8_lt32 c)) (Nat.xor_lt_two_pow hb (u8_lt32 c)) this
    exact xor_left_inj this
theorem crc_turned (l m : List UInt8) (c d : UInt8) (h : crc (l ++ c :: m) = crc (l ++ d :: m)) : c = d := by
  have n0 : (4294967295 : Nat) < 2 ^ 32 := by decide
  have ha := run_lt (l ++ c :: m) n0
  have hb := run_lt (l ++ d :: m) n0
  unfold crc at h
  have h' : run 4294967295 (l ++ c :: m) = run 4294967295 (l ++ d :: m) := by omega
  rw [run_append, run_append] at h'
  have hl := run_lt l n0
  have := run_inj m (stepB_lt hl c) (stepB_lt hl d) h'
  have := sk_inj 8 (Nat.xor_lt_two_pow hl (u8_lt32 c)) (Nat.xor_lt_two_pow hl (u8_lt32 d)) this
  exact UInt8.toNat_inj.1 (xor_right_inj this)
end Fr

namespace Go.Proofs.FrW
open Go Go.RowKit Go.Tk
theorem info5 : (Try.prog.info? 5).map (fun i => (i.zero, i.size, i.bytes)) = some (some (.int .u8 0), 1, 1) := by kernel_rfl

def le4 (a b c d : UInt8) : Nat := a.toNat + 256 * b.toNat + 65536 * c.toNat + 16777216 * d.toNat
theorem or4 (a b c d : UInt8) : bits BinOp.or IntKind.u32 (bits BinOp.or IntKind.u32 (bits BinOp.or IntKind.u32 (a.toNat : Int) ((b.toNat : Int) * 256)) ((c.toNat : Int) * 65536)) ((d.toNat : Int) * 16777216) = (le4 a b c d : Int) := by
  have ha := a.toNat_lt; have hb := b.toNat_lt; have hc := c.toNat_lt; have hd := d.toNat_lt
  have e1 : ((b.toNat : Int) * 256) = ((b.toNat * 256 : Nat) : Int) := by omega
  have e2 : ((c.toNat : Int) * 65536) = ((c.toNat * 65536 : Nat) : Int) := by omega
  have e3 : ((d.toNat : Int) * 16777216) = ((d.toNat * 16777216 : Nat) : Int) := by omega
  rw [e1, u32_or_nat _ _ (by omega) (by omega)]
  have j1 : a.toNat ||| b.toNat * 256 = a.toNat + 256 * b.toNat := by rw [Nat.or_comm, nat_join 8 _ _ (by omega) (by omega)]; omega
  rw [j1, e2, u32_or_nat _ _ (by omega) (by omega)]
  have j2 : (a.toNat + 256 * b.toNat) ||| c.toNat * 65536 = a.toNat + 256 * b.toNat + 65536 * c.toNat := by rw [Nat.or_comm, nat_join 16 _ _ (by omega) (by omega)]; omega
  rw [j2, e3, u32_or_nat _ _ (by omega) (by omega)]
  have j3 : (a.toNat + 256 * b.toNat + 65536 * c.toNat) ||| d.toNat * 16777216 = le4 a b c d := by rw [Nat.or_comm, nat_join 24 _ _ (by omega) (by omega)]; unfold le4; omega
  rw [j3]

set_option maxHeartbeats 400000 in
theorem clone_any (w : World) (v : Value) (xs : List UInt8) (h : Bs w v xs) (hb : xs.length ≤ 140737488355328) :
    Calls Try.prog 79 #[v] w fun e w' => ∃ v', e = .returned v' ∧ w'.ownsRow w.heap.size 5 1 v' xs.length (bv xs) ∧ Mk w w' := by
  have h' := Lib.hid h
  obtain ⟨hl, a, cap, rfl, h1, h2, h3, _⟩ := h
  clear hl h2
  have hn := @Lib.run_eql_slice_nil Try.prog
  cases a with
  | none =>
    obtain rfl := h3 rfl
    have h0 : xs.length = 0 := by omega
    obtain rfl : xs = [] := List.eq_nil_of_length_eq_zero h0
    clear h0 h3 h1 hb h'
    go_enter Try.func79, Try.ntmps79
    go_wp2
    go_ret
    exact ⟨_, rfl, World.ownsRow_nil _ _ _ _, mk_refl _⟩
  | some ad =>
    clear h3 h1
    go_enter Try.func79, Try.ntmps79
    go_wp2_with (at_builtin; refine wpList_append_bytes (P := Try.prog) Try.underlying22 info5 rfl (.tmp 5) (.tmp 6) rfl rfl (lit_own w #[] 5 (by simp [maxLen])) rfl (h'.out.mk (mk_alloc _ _)) (bv_one _) (by simp; omega) (by simp) ?_; intro v1 w1 ho1 hg1 hn1 hf1; have Ho1 := Lib.hid ho1; have Hg1 := Lib.hid hg1; clear ho1 hg1 hn1 hf1)
    go_ret
    exact ⟨_, rfl, by simpa using Ho1.out, mk_own (mk_alloc _ _) (lit_own w #[] 5 (by simp [maxLen])) Hg1.out⟩
theorem four_cells {w : World} {v : Value} {a b c d : UInt8} {r : List UInt8} (h : Bs w v (a :: b :: c :: d :: r)) :
    ∃ bl off n cap, v = .slice (some ⟨bl, off, none⟩) n cap ∧ 4 ≤ n ∧ w.cell? ⟨bl, off, none⟩ = some (.int .u8 (a.toNat : Int)) ∧ w.cell? ⟨bl, off + 1, none⟩ = some (.int .u8 (b.toNat : Int)) ∧
      w.cell? ⟨bl, off + 2, none⟩ = some (.int .u8 (c.toNat : Int)) ∧ w.cell? ⟨bl, off + 3, none⟩ = some (.int .u8 (d.toNat : Int)) := by
  obtain ⟨hl, ad, cap, rfl, h1, h2, h3, hc⟩ := h
  obtain ⟨bl, off, rfl, hd⟩ := hc (by simp)
  exact ⟨bl, off, _, cap, rfl, by simp, hd 0 _ rfl, hd 1 _ rfl, hd 2 _ rfl, hd 3 _ rfl⟩

theorem u8le (a : UInt8) : 0 ≤ (a.toNat : Int) ∧ (a.toNat : Int) ≤ 255 := by have := a.toNat_lt; omega

set_option maxHeartbeats 400000 in
theorem get_any (w : World) (v : Value) (a b c d : UInt8) (r : List UInt8) (h : Bs w v (a :: b :: c :: d :: r)) :
    Calls Try.prog 143 #[v] w fun e w' => e = .returned (.int .u32 (le4 a b c d : Int)) ∧ ∃ m, w.drewN m = w' := by
  obtain ⟨bl, off, n, cap, rfl, hn, c0, c1, c2, c3⟩ := four_cells h
  clear h
  have i0 : (0 : Int) < (n : Int) := by omega
  have i1 : (1 : Int) < (n : Int) := by omega
  have i2 : (2 : Int) < (n : Int) := by omega
  have i3 : (3 : Int) < (n : Int) := by omega
  obtain ⟨la, ha⟩ := u8le a
  obtain ⟨lb, hb⟩ := u8le b
  obtain ⟨lc, hc⟩ := u8le c
  obtain ⟨ld, hd⟩ := u8le d
  go_enter Try.func143, Try.ntmps143
  go_wp2
  go_quiet (fail)
  go_wp2
  go_ret
  exact ⟨by simpa using or4 a b c d, _, rfl⟩
set_option maxHeartbeats 400000 in
theorem word_any (w : World) (v : Value) (a b c d : UInt8) (r : List UInt8) (h : Bs w v (a :: b :: c :: d :: r)) :
    Calls Try.prog 80 #[v] w fun e w' => e = .returned (.int .u32 (le4 a b c d : Int)) ∧ ∃ m, w.drewN m = w' := by
  obtain ⟨bl, off, n, cap, rfl, hn, c0, c1, c2, c3⟩ := four_cells h
  clear h
  have i0 : (0 : Int) < (n : Int) := by omega
  have i1 : (1 : Int) < (n : Int) := by omega
  have i2 : (2 : Int) < (n : Int) := by omega
  have i3 : (3 : Int) < (n : Int) := by omega
  obtain ⟨la, ha⟩ := u8le a
  obtain ⟨lb, hb⟩ := u8le b
  obtain ⟨lc, hc⟩ := u8le c
  obtain ⟨ld, hd⟩ := u8le d
  go_enter Try.func80, Try.ntmps80
  go_wp2
  go_quiet (fail)
  go_wp2
  go_ret
  exact ⟨by simpa using or4 a b c d, _, rfl⟩

def by4 (n : Nat) : List UInt8 := [UInt8.ofNat n, UInt8.ofNat (n / 256), UInt8.ofNat (n / 65536), UInt8.ofNat (n / 16777216)]
theorem by4_length (n : Nat) : (by4 n).length = 4 := rfl
theorem by4_eq (n : Nat) : (#[Value.int IntKind.u8 ((n : Int) % 256), Value.int IntKind.u8 ((n : Int) / 256 % 256), Value.int IntKind.u8 ((n : Int) / 65536 % 256), Value.int IntKind.u8 ((n : Int) / 16777216 % 256)] : Array Value).toList = bv (by4 n) := by
  simp [bv, by4]
set_option maxHeartbeats 400000 in
set_option maxRecDepth 100000 in
theorem put_any (w : World) (base : Nat) (v : Value) (xs : List UInt8) (n : Nat) (hn : n < 4294967296) (h : w.ownsRow base 5 1 v xs.length (bv xs)) (hb : xs.length ≤ 140737488355000) (hbase : base ≤ w.heap.size) :
    Calls Try.prog 75 #[v, .int .u32 (n : Int)] w fun e w' => ∃ v', e = .returned v' ∧ w'.ownsRow base 5 1 v' (xs ++ by4 n).length (bv (xs ++ by4 n)) ∧ w.grownBy w' v.ownBlock ∧ (v'.ownBlock = v.ownBlock ∨ ∃ g, v'.ownBlock = some g ∧ w.heap.size ≤ g) := by
  have h' := Lib.hid h
  have hb' := Lib.hid hb
  have hn' := Lib.hid hn
  clear h hb hn
  go_enter Try.func75, Try.ntmps75
  go_wp2_with (at_builtin; refine wpList_append_bytes (P := Try.prog) Try.underlying22 info5 rfl (.tmp 5) (.tmp 17) rfl rfl (h'.out.alloc _) rfl (new_bytes w (by4 n) _ 5 4 rfl (by4_eq n) (by simp [maxLen])) (bv_one _) (by have := hb'.out; omega) (by simp; omega) ?_; intro v1 w1 ho1 hg1 hn1 hf1; have Ho1 := Lib.hid ho1; have Hg1 := Lib.hid hg1; have Hf1 := Lib.hid hf1; clear ho1 hg1 hn1 hf1)
  go_ret
  exact ⟨_, rfl, by rw [List.length_append, bv_append]; exact Ho1.out, alloc_grown Hg1.out, own_fresh_alloc Hf1.out⟩
end Go.Proofs.FrW
