/- The walks of layer 5, frame: the statement FrameBack. -/
import Derived.Test.YtcfjdldlcdomgaaMWalPlays17
set_option linter.unusedVariables false
set_option linter.unusedSimpArgs false
namespace Go.Proofs.FrW
open Go Go.RowKit Go.Tk Go.Sp Go.Rg Go.Lib Go.Shelf
attribute [local go_sem] Oper.semAt_some

/-- Lists of bytes, one by one. -/
def Ms (w : World) (v : Value) (Ls : List (List UInt8)) : Prop := ∃ vs, Sl w 1 v Ls.length vs ∧ ∀ (i : Nat) (h : i < Ls.length), ∃ vi, vs[i]? = some vi ∧ Bs w vi (Ls[i])
theorem Ms.mk {w w' : World} {v : Value} {Ls : List (List UInt8)} (h : Ms w v Ls) (hm : Mk w w') : Ms w' v Ls := by
  obtain ⟨vs, h1, h2⟩ := h
  refine ⟨vs, h1.mk hm, fun i hi => ?_⟩
  obtain ⟨vi, h3, h4⟩ := h2 i hi
  exact ⟨vi, h3, h4.mk hm⟩
theorem Ms.at {w : World} {a : Option Addr} {n c : Nat} {Ls : List (List UInt8)} (h : Ms w (.slice a n c) Ls) (i : Nat) (hi : i < Ls.length) :
    ∃ b off vi, a = some ⟨b, off, none⟩ ∧ w.cell? ⟨b, off + i, none⟩ = some vi ∧ Bs w vi (Ls[i]) := by
  obtain ⟨vs, h1, h2⟩ := h
  have hn : n = Ls.length := by
    obtain ⟨_, a', c', he, _⟩ := h1
    cases he; rfl
  subst hn
  obtain ⟨b, off, ha, hc⟩ := h1.cellAt (by omega)
  obtain ⟨vi, h3, h4⟩ := h2 i hi
  exact ⟨b, off, vi, ha, hc i vi h3, h4⟩

/-- The frames that are put. -/
def psOf (ks : List UInt8) (Ls : List (List UInt8)) : List (UInt8 × List UInt8) := (ks.zip (Ls.map (·.take 100000))).take 30
def catOf : List (UInt8 × List UInt8) → List UInt8
  | [] => []
  | p :: l => frm p.1 p.2 ++ catOf l
theorem catOf_append (l m : List (UInt8 × List UInt8)) : catOf (l ++ m) = catOf l ++ catOf m := by
  induction l with
  | nil => rfl
  | cons p l ih => simp [catOf, ih]
theorem psOf_len (ks : List UInt8) (Ls : List (List UInt8)) : (psOf ks Ls).length = min 30 (min ks.length Ls.length) := by simp [psOf]
theorem psOf_at (ks : List UInt8) (Ls : List (List UInt8)) (i : Nat) (h : i < (psOf ks Ls).length) (h1 : i < ks.length) (h2 : i < Ls.length) : (psOf ks Ls)[i] = (ks[i], (Ls[i]).take 100000) := by
  simp [psOf]
theorem psOf_small (ks : List UInt8) (Ls : List (List UInt8)) : ∀ p ∈ psOf ks Ls, p.2.length ≤ 100000 := by
  intro p hp
  obtain ⟨i, hi, rfl⟩ := List.getElem_of_mem hp
  have hl := psOf_len ks Ls
  rw [psOf_at ks Ls i hi (by omega) (by omega)]
  simp; omega
theorem catOf_len (l : List (UInt8 × List UInt8)) : (catOf l).length = wholeOf l := by
  induction l with
  | nil => rfl
  | cons p l ih => simp [catOf, wholeOf, ih, frm_length]
theorem whole_small (l : List (UInt8 × List UInt8)) (h : ∀ p ∈ l, p.2.length ≤ 100000) : wholeOf l ≤ l.length * 100009 := by
  induction l with
  | nil => simp [wholeOf]
  | cons p l ih =>
    have := ih fun q hq => h q (by simp [hq])
    have := h p (by simp)
    simp only [wholeOf, List.length_cons]; omega
theorem frames_back (junk : List UInt8) : ∀ (l : List (UInt8 × List UInt8)), (∀ p ∈ l, p.2.length ≤ 100000) → framesOf (catOf l ++ junk) = l ++ framesOf junk
  | [], _ => rfl
  | (k, d) :: l, h => by
    have hd := h (k, d) (by simp)
    have hf := frame_put k d (catOf l ++ junk) (Nat.le_trans hd (by omega))
    have e : catOf ((k, d) :: l) ++ junk = frm k d ++ (catOf l ++ junk) := by simp [catOf]
    rw [e, framesOf_some hf]
    have e2 : (frm k d ++ (catOf l ++ junk)).drop (d.length + 9) = catOf l ++ junk := by rw [← frm_length k d, List.drop_left]
    rw [e2, frames_back junk l fun q hq => h q (by simp [hq])]
    rfl

/-- What stands through the walk. -/
structure Fb (w W : World) (g9 : Nat) (s0 s1 : Value) (k : Nat) : Prop where
  made : Mk w W
  b3 : Bx W w.heap.size 22 s0
  b4 : Bx W (w.heap.size + 1) 46 s1
  b6 : Bx W (w.heap.size + 1 + 1) 4 (.bool false)
  b9 : Bx W g9 3 (.int .i64 (k : Int))
  g : w.heap.size + 3 ≤ g9
  size : g9 + 1 ≤ W.heap.size
section
variable {w W W' : World} {g9 k : Nat} {s0 s1 : Value}
theorem Fb.kept (h : Fb w W g9 s0 s1 k) {row : Option Nat} (hg : W.grownBy W' row) (hr : ∀ r, row = some r → g9 + 1 ≤ r) : Fb w W' g9 s0 s1 k := by
  have hgg := h.g
  have hne : ∀ j, j < g9 + 1 → row ≠ some j := fun j hj e => by have := hr j e; omega
  exact ⟨mk_own' h.made (fun r e => by have := hr r e; omega) hg, h.b3.kept hg (hne _ (by omega)), h.b4.kept hg (hne _ (by omega)), h.b6.kept hg (hne _ (by omega)), h.b9.kept hg (hne _ (by omega)), h.g, by have := h.size; have := hg.size; omega⟩
theorem Fb.mk' (h : Fb w W g9 s0 s1 k) (hm : Mk W W') : Fb w W' g9 s0 s1 k := h.kept (mk_grown hm) (fun _ e => by cases e)
theorem Fb.set (h : Fb w W g9 s0 s1 k) (j : Nat) : Fb w (W.setCell ⟨g9, 0, none⟩ (.int .i64 (j : Int))) g9 s0 s1 j := by
  have hgg := h.g
  have hg := set_grown W g9 (.int .i64 (j : Int))
  have hne : ∀ i, i < g9 → some g9 ≠ some i := fun i hi e => by cases e; omega
  exact ⟨mk_own' h.made (fun r e => by cases e; omega) hg, h.b3.kept hg (hne _ (by omega)), h.b4.kept hg (hne _ (by omega)), h.b6.kept hg (hne _ (by omega)), h.b9.set _, h.g, by have := h.size; simp; omega⟩
theorem Fb.start (hm : Mk w W) (h3 : Bx W w.heap.size 22 s0) (h4 : Bx W (w.heap.size + 1) 46 s1) (h6 : Bx W (w.heap.size + 1 + 1) 4 (.bool false)) (hs : w.heap.size + 3 ≤ W.heap.size) : Fb w (W.alloc (.cells #[.int .i64 0] 3)) W.heap.size s0 s1 0 :=
  ⟨mk_trans hm (mk_alloc _ _), h3.mk (mk_alloc _ _), h4.mk (mk_alloc _ _), h6.mk (mk_alloc _ _), heap_alloc_new W _, hs, by simp⟩
end

theorem frames_count (js : List UInt8) : (framesOf js).length ≤ js.length := by
  have h1 := wholeOf_le _ js (Nat.le_refl _)
  have h2 : ∀ l : List (UInt8 × List UInt8), l.length ≤ wholeOf l := by
    intro l
    induction l with
    | nil => simp
    | cons p l ih => simp [wholeOf]; omega
  exact Nat.le_trans (h2 _) h1
theorem junk_cases (js : List UInt8) : ((framesOf js).length = 0 ∧ wholeOf (framesOf js) = 0 ∧ gN js = 0) ∨ (0 < (framesOf js).length ∧ 0 < wholeOf (framesOf js) ∧ 0 < gN js) := by
  unfold gN
  rcases hf : frameOf js with _ | ⟨k, d, n⟩
  · rw [framesOf_none hf]; exact .inl ⟨rfl, rfl, rfl⟩
  · rw [framesOf_some hf]
    have := (frame_len hf).1
    refine .inr ⟨by simp, ?_, ?_⟩
    · simp only [wholeOf]; omega
    · show 0 < n; omega
/-- Operations behind a false guard, passed over in one step. -/
def skipOk (ops : Array Oper) : List Oper → Nat → Act → Bool
  | _, 0, _ => true
  | [], _ + 1, _ => false
  | o :: r, n + 1, a => !Region.wanted o (yielded ops a.tmps) && skipOk ops r n (a.put o.dst undef)
def skipAct : List Oper → Nat → Act → Act
  | _, 0, a => a
  | [], _ + 1, a => a
  | o :: r, n + 1, a => skipAct r n (a.put o.dst undef)
theorem sp_skips {P : Program} {ops : Array Oper} {sp : Nat → Bool} {C D : World → Prop} {Q : Act → World → Prop} : ∀ (n : Nat) (l : List Oper) (k : Nat) (a : Act), skipOk ops l n a = true →
    wpSp P ops sp C Q (l.drop n) (k + n) D (skipAct l n a) → wpSp P ops sp C Q l k D a
  | 0, l, _, _, _, h => by cases l <;> exact h
  | _ + 1, [], _, _, h1, _ => by simp [skipOk] at h1
  | n + 1, o :: r, k, a, h1, h2 => by
    simp only [skipOk, Bool.and_eq_true, Bool.not_eq_true'] at h1
    refine spskip h1.1 (fun K hK => hK _ (sp_skips n r (k + 1) _ h1.2 ?_))
    rw [show k + 1 + n = k + (n + 1) by omega]
    exact h2
theorem spk_skip {P : Program} {ops : Array Oper} {sp : Nat → Bool} {C D : World → Prop} {Q : Act → World → Prop} {o : Oper} {rest : List Oper} {k : Nat} {a : Act} (n : Nat) (hw : Region.wanted o (yielded ops a.tmps) = true) (hs : sp k = false) (hp : plainOp o = true)
    (h : ∀ K : Act → Prop, (∀ a, skipOk ops rest n a = true → wpSp P ops sp C Q (rest.drop n) (k + 1 + n) D (skipAct rest n a) → K a) → o.quiet P a C K) : wpSp P ops sp C Q (o :: rest) k D a :=
  spk hw hs hp fun K hK => h K fun a h1 h2 => hK a (sp_skips n rest (k + 1) a h1 h2)

/-- What stands while the frames are gone through. -/
structure Sd (w W : World) (g9 : Nat) (s0 s1 : Value) (k : Nat) (gb g15 hi : Nat) (v1 bx : Value) (X : List UInt8) (i : Nat) : Prop where
  fb : Fb w W g9 s0 s1 k
  b15 : Bx W g15 3 (.int .i64 (i : Int))
  hc : W.cell? ⟨gb, 0, none⟩ = some v1
  hv : Bs W v1 X
  hx : Bs W bx X
  hgb : g15 + 1 ≤ gb ∧ gb < hi
  hob : ∀ k, v1.ownBlock = some k → g15 + 1 ≤ k ∧ k < hi
  hxo : ∀ k, bx.ownBlock = some k → k < g15
  hg : g9 + 1 ≤ g15
  size : hi ≤ W.heap.size
section
variable {w W W' : World} {g9 k gb g15 hi i : Nat} {s0 s1 v1 bx : Value} {X : List UInt8}
theorem Sd.kept (h : Sd w W g9 s0 s1 k gb g15 hi v1 bx X i) {row : Option Nat} (hg : W.grownBy W' row) (hr : ∀ r, row = some r → hi ≤ r) : Sd w W' g9 s0 s1 k gb g15 hi v1 bx X i := by
  have hgb := h.hgb
  have hgg := h.hg
  have hob := h.hob
  have hxo := h.hxo
  have hne : ∀ j, j < hi → row ≠ some j := fun j hj e => by have := hr j e; omega
  refine ⟨h.fb.kept hg (fun r e => by have := hr r e; omega), h.b15.kept hg (hne _ (by omega)), cell_kept h.hc (by have := h.size; omega) hg (hne _ (by omega)), h.hv.grown hg ?_, h.hx.grown hg ?_, h.hgb, h.hob, h.hxo, h.hg, by have := h.size; have := hg.size; omega⟩
  · rcases e : v1.ownBlock with _ | k
    · exact .inl rfl
    · exact .inr fun e2 => by have := (hob k e).2; have := hr k e2.symm; omega
  · rcases e : bx.ownBlock with _ | k
    · exact .inl rfl
    · exact .inr fun e2 => by have := hxo k e; have := hr k e2.symm; omega
theorem Sd.mk' (h : Sd w W g9 s0 s1 k gb g15 hi v1 bx X i) (hm : Mk W W') : Sd w W' g9 s0 s1 k gb g15 hi v1 bx X i := h.kept (mk_grown hm) (fun _ e => by cases e)
theorem Sd.set (h : Sd w W g9 s0 s1 k gb g15 hi v1 bx X i) (j : Nat) : Sd w (W.setCell ⟨g15, 0, none⟩ (.int .i64 (j : Int))) g9 s0 s1 k gb g15 hi v1 bx X j := by
  have hgb := h.hgb
  have hgg := h.hg
  have hob := h.hob
  have hxo := h.hxo
  have hg := set_grown W g15 (.int .i64 (j : Int))
  refine ⟨h.fb.kept hg (fun r e => by cases e; omega), h.b15.set _, cell_kept h.hc (by have := h.size; omega) hg (fun e => by cases e; omega), h.hv.grown hg ?_, h.hx.grown hg ?_, h.hgb, h.hob, h.hxo, h.hg, by have := h.size; simp; omega⟩
  · rcases e : v1.ownBlock with _ | k
    · exact .inl rfl
    · exact .inr fun e2 => by have := (hob k e).1; cases e2; omega
  · rcases e : bx.ownBlock with _ | k
    · exact .inl rfl
    · exact .inr fun e2 => by have := hxo k e; cases e2; omega
end
/-- One range's mark at the end of a function that hands back a variable. -/
theorem one_mark {tmps : Array Value} {fn : Func} {w W : World} {D g : Nat} {p : Tmp} (hf : fn.results = #[.cell p 4]) (hp : tmps.getD p undef = .pointer (some ⟨g, 0, none⟩))
    (k3 : W.heap[D]? = some (.deferred (some []))) (b4 : Bx W g 4 (.bool true)) (hm : Mk w W) (h1 : w.heap.size ≤ D) (h4 : g ≠ D) :
    bodyPostM Fence.wide 0 Try.prog fn (fun e w' => e = .returned (.bool true) ∧ Mk w w') .ret { tmps := tmps, defers := [{ target := .collected D, args := #[] }] } W := by
  refine ⟨by simp, .inl ⟨_, _, rfl, run_takeDeferred k3, ?_⟩⟩
  refine ⟨_, results_cell_one hf _ _ g (.bool true) hp (load_bool ((World.putObj_heap_other h4).trans b4)), rfl, ?_⟩
  exact hm.grown (grownBy_putObj' _ D _) hm.size (fun k e => by cases e; omega)

set_option maxHeartbeats 8000000 in
set_option maxRecDepth 100000 in
theorem frameBack_any (w : World) (v0 : Value) (ks : List UInt8) (h0 : Bs w v0 ks) (hb0 : ks.length ≤ 1048576) (v1 : Value) (Ls : List (List UInt8)) (h1 : Ms w v1 Ls) (hb1 : Ls.length ≤ 1048576) (v2 : Value) (js : List UInt8) (h2 : Bs w v2 js) (hb2 : js.length ≤ 1048576) :
    Calls Try.prog 6 #[v0, v1, v2] w fun e w' => e = .returned (.bool true) ∧ Mk w w' := by
  obtain ⟨a0, cap0, rfl, _, _⟩ := h0.form
  obtain ⟨a1, cap1, rfl, _, _⟩ : ∃ a c, v1 = .slice a Ls.length c ∧ Ls.length ≤ c ∧ c ≤ maxLen := by obtain ⟨vs, h3, _⟩ := h1; exact h3.form
  obtain ⟨a2, cap2, rfl, _, _⟩ := h2.form
  have H0 := Lib.hid h0
  have H1 := Lib.hid h1
  have H2 := Lib.hid h2
  clear h0 h1 h2
  have hd1 : decide ((js.length : Int) > 1073741824) = false := by simp; omega
  have hd2 : decide ((1073741824 : Int) < (js.length : Int)) = false := by simp; omega
  refine calls_of_marks Try.func6 rfl ?_
  simp only [Try.ntmps6, List.size_toArray, List.length_cons, List.length_nil, Nat.reduceAdd, Nat.reduceSub, Array.replicate_succ, Array.replicate_zero, List.push_toArray, List.append_toArray, List.nil_append, List.cons_append]
  go_wp2_with fail
  obtain ⟨w0, hw0⟩ : ∃ w0, ((w.alloc (.cells #[.slice a0 ks.length cap0] 22)).alloc (.cells #[.slice a1 Ls.length cap1] 46)).alloc (.cells #[.bool false] 4) = w0 := ⟨_, rfl⟩
  have hB3 : Bx w0 w.heap.size 22 (.slice a0 ks.length cap0) := by
    rw [← hw0]; exact Bx.mk (heap_alloc_new w _) (mk_trans (mk_alloc _ _) (mk_alloc _ _))
  have hB4 : Bx w0 (w.heap.size + 1) 46 (.slice a1 Ls.length cap1) := by
    have := heap_alloc_new (w.alloc (.cells #[.slice a0 ks.length cap0] 22)) (.cells #[.slice a1 Ls.length cap1] 46)
    rw [World.size_alloc] at this
    rw [← hw0]; exact Bx.mk this (mk_alloc _ _)
  have hB6 : Bx w0 (w.heap.size + 1 + 1) 4 (.bool false) := by
    have := heap_alloc_new ((w.alloc (.cells #[.slice a0 ks.length cap0] 22)).alloc (.cells #[.slice a1 Ls.length cap1] 46)) (.cells #[.bool false] 4)
    rw [World.size_alloc, World.size_alloc] at this
    rw [← hw0]; exact this
  have hM0 : Mk w w0 := by rw [← hw0]; exact mk_trans (mk_alloc _ _) (mk_trans (mk_alloc _ _) (mk_alloc _ _))
  have hS0 : w0.heap.size = w.heap.size + 3 := by rw [← hw0]; simp
  rw [hw0]
  refine (shown_any _).mono ?_
  rintro e w1 ⟨rfl, hm⟩
  have hF := Fb.start (mk_trans hM0 hm) (hB3.mk hm) (hB4.mk hm) (hB6.mk hm) (by have := hm.size; omega)
  have HF := Lib.hid hF
  clear hm hB3 hB4 hB6 hM0 hS0 hw0 hF w0
  go_wp2_with fail
  generalize w1.heap.size = g9 at *
  generalize w1.alloc (.cells #[.int .i64 0] 3) = w2 at *
  have hps := psOf_len ks Ls
  have hat := psOf_at ks Ls
  have hsm := psOf_small ks Ls
  generalize psOf ks Ls = ps at *
  have HAT := Lib.hid hat
  have HSM := Lib.hid hsm
  have HPS := Lib.hid hps
  clear hat hsm hps
  go_loopw [8, 10] (fun b i wr => ∃ k : Nat, i = .int .i64 (k : Int) ∧ k ≤ ps.length ∧ Fb w wr g9 (.slice a0 ks.length cap0) (.slice a1 Ls.length cap1) k ∧ wr.ownsRow (g9 + 1) 5 1 b (catOf (ps.take k)).length (bv (catOf (ps.take k))))
    (fun _ i _ => ps.length - (intOf i).toNat)
  case atStart => exact ⟨0, rfl, by omega, HF.out, World.ownsRow_nil _ _ _ _⟩
  case round =>
    obtain ⟨k, rfl, hk, hf, ho⟩ := hrel
    obtain ⟨ba, bc, rfl, _, _⟩ := (own_sl ho).form
    have HFR := Lib.hid hf
    have HO := Lib.hid ho
    have hc3 := hf.b3.cell
    have hc4 := hf.b4.cell
    have hc9 := hf.b9.cell
    clear hf ho
    by_cases hlt : k < ps.length
    · have hkL : k < Ls.length := by have := HPS.out; omega
      have hkK : k < ks.length := by have := HPS.out; omega
      have hk30 : k < 30 := by have := HPS.out; omega
      obtain ⟨b1, off1, vi, ha1, hci, hbi⟩ := (H1.out.mk HFR.out.made).at k hkL
      subst ha1
      obtain ⟨va, vc, rfl, hv1, hv2⟩ := hbi.form
      obtain ⟨b0, off0, ha0, hck⟩ : ∃ b off, a0 = some ⟨b, off, none⟩ ∧ ∀ w', Mk w w' → w'.cell? ⟨b, off + k, none⟩ = some (.int .u8 ((ks[k]).toNat : Int)) := by
        obtain ⟨b, off, he, _⟩ := H0.out.cellAt (by omega)
        subst he
        refine ⟨b, off, rfl, fun w' hw' => ?_⟩
        obtain ⟨b', off', he, hd⟩ := (H0.out.mk hw').cellAt (by omega)
        cases he
        exact hd k _ (bv_get ks k hkK)
      subst ha0
      obtain ⟨q, hq⟩ : ∃ q, min (Ls[k]).length 100000 = q := ⟨_, rfl⟩
      have hq1 : q ≤ (Ls[k]).length := by omega
      have hq2 : q ≤ 100000 := by omega
      have HQ := Lib.hid hq
      clear hq
      have HBI := Lib.hid hbi
      have HCK := Lib.hid hck
      clear hbi hck
      have HPK := Lib.hid (HAT.out k hlt hkK hkL)
      generalize Ls[k] = Lk at *
      go_wp2_with fail
      have hmin : (if (100000 : Int) < (Lk.length : Int) then (100000 : Int) else (Lk.length : Int)) = (q : Int) := by have := HQ.out; split <;> omega
      have q1 := @qAt_value Try.prog
      have l4 : ∀ w', Mk wr w' → w'.cell? ⟨w.heap.size + 1, 0, none⟩ = some (.slice (some ⟨b1, off1, none⟩) Ls.length cap1) := fun w' h => (HFR.out.b4.mk h).cell
      have li : ∀ w', Mk wr w' → w'.cell? ⟨b1, off1 + k, none⟩ = some (.slice va Lk.length vc) := fun w' h => by
        obtain ⟨b', off', vi', he, h1, _⟩ := (H1.out.mk (mk_trans HFR.out.made h)).at k hkL
        obtain ⟨b'', off'', vi'', he2, h3, _⟩ := (H1.out.mk HFR.out.made).at k hkL
        cases he; cases he2
        have hb := (h.cell (p := ⟨b1, off1 + k, none⟩) (by
          have h4 := h3
          simp only [World.cell?] at h4
          split at h4
          · rename_i he
            exact (Array.getElem?_eq_some_iff.1 he).1
          · cases h4))
        rw [hb]; exact hci
      have hiN : (k : Int) < (Ls.length : Int) := by omega
      refine wp_region_sp (fun _ => false) (fun w' => Mk wr w') (by kernel_rfl) (by kernel_rfl) (mk_refl _) (fun _ _ => mk_trans) ?_
      intro D hD hne
      iterate 12 (first | (refine spk (by rfl) (by rfl) (by rfl) (fun K hK => ?_); go_big_quiet_op; first | (refine hK _ ?_; clear hK K) | (apply Exists.intro; refine ⟨fun _ => ?_, hK _ ?_⟩; (exact fun _ => rfl); clear hK K)) | (refine spq (by rfl) (by rfl) (fun K hK => ?_); apply Exists.intro; refine ⟨fun w' hw' => ?_, ?_⟩; (go_simp; exact rfl); (go_simp; refine hK _ ?_; clear hK K)))
      refine sp_nil ?_
      intro w9 hw9
      have HM9 := Lib.hid (hD.out _ hw9).1
      clear hw9 hD hne D l4 li q1 hci hc3 hc4 hc9 hmin
      have hc3 := (HFR.out.b3.mk HM9.out).cell
      have hck := HCK.out w9 (mk_trans HFR.out.made HM9.out)
      have hdt : Lk.take 100000 = Lk.take q := by
        have := HQ.out
        rcases Nat.lt_or_ge Lk.length 100000 with h | h
        · rw [List.take_of_length_le (by omega), List.take_of_length_le (by omega)]
        · rw [show q = 100000 by omega]
      have hdl : (Lk.take q).length = q := by simp; omega
      have hBd : Bs w9 (.slice va q vc) (Lk.take q) := Sl.taken (HBI.out.mk HM9.out) q hq1
      have hcl : (catOf (ps.take k)).length ≤ 4000000 := by
        rw [catOf_len]
        have h1 := whole_small (ps.take k) (fun p hp => HSM.out p (List.mem_of_mem_take hp))
        have h2 : (ps.take k).length ≤ k := by simp; omega
        have h3 : (ps.take k).length * 100009 ≤ 30 * 100009 := Nat.mul_le_mul_right _ (by omega)
        omega
      have hnext : catOf (ps.take (k + 1)) = catOf (ps.take k) ++ frm (ks[k]) (Lk.take q) := by
        rw [List.take_succ_eq_append_getElem hlt, catOf_append, HPK.out, hdt]; simp [catOf]
      have hsz : sizeF (q : Int) = ((q + 9 : Nat) : Int) := sizeF_nat q (by omega)
      generalize hB : catOf (ps.take k) = B at *
      generalize ks[k] = kk at *
      generalize Lk.take q = dat at *
      have hfl : (B ++ frm kk dat).length = B.length + (q + 9) := by rw [List.length_append, frm_length, hdl]
      have hb9 : g9 + 1 ≤ w9.heap.size := by have := HFR.out.size; have := HM9.out.size; omega
      have HBD := Lib.hid hBd
      have HDL := Lib.hid hdl
      have HNX := Lib.hid hnext
      have HSZ := Lib.hid hsz
      have HFL := Lib.hid hfl
      clear hdt hdl hBd hnext hsz hfl hB HQ
      go_wp2_with fail
      refine (Put_any w9 _ _ B dat kk ((own_sl HO.out).mk HM9.out) (by have := HBD.out; rw [Bs, HDL.out] at this; rw [Bs, HDL.out]; exact this) (by omega) (by rw [HDL.out]; omega)).mono ?_
      intro e w10 hp
      unfold PutPost at hp
      rw [if_neg (by rw [HDL.out]; omega)] at hp
      obtain ⟨hm10, cv, rfl, hoc⟩ := hp
      rw [HFL.out] at hoc
      obtain ⟨cg, cc, rfl, _, _, _, _⟩ := own_form hoc (by omega)
      have HM10 := Lib.hid hm10
      have HOC := Lib.hid hoc
      clear hm10 hoc hc3 hck
      have hF10 := HFR.out.mk' (mk_trans HM9.out HM10.out)
      have hc9 := hF10.b9.cell
      have hf9 := hF10.b9.frozen
      have HF10 := Lib.hid hF10
      have hne9 : (((B.length : Int) + ((q : Int) + 9)) != (B.length : Int) + ((q : Int) + 9)) = false := by simp
      clear hF10
      go_wp2_with (go_at_call 20; refine (size_any _ _).mono ?_; rintro e w' ⟨rfl, rfl⟩; rw [HSZ.out])
      go_roundw
      case rel =>
        refine ⟨k + 1, by go_num, by omega, ?_, ?_⟩
        · have := HF10.out.set (k + 1)
          simpa using this
        · rw [HNX.out, HFL.out]
          have h1 : w10.ownsRow (g9 + 1) 5 1 (.slice (some ⟨cg, 0, none⟩) (B.length + (q + 9)) cc) (B.length + (q + 9)) (bv (B ++ frm kk dat)) := own_base HOC.out hb9
          refine h1.kept (set_grown _ _ _) (.inr fun e => ?_)
          cases e
          have := (h1.lt _ rfl).1
          omega
      case measure => simp [intOf]; omega
    · have e : k = ps.length := by omega
      have hT : List.take k ps = ps := by rw [e, List.take_length]
      rw [hT] at HO ⊢
      clear hT
      have hcl : (catOf ps).length ≤ 4000000 := by
        rw [catOf_len]
        have h1 := whole_small ps HSM.out
        have h3 : ps.length * 100009 ≤ 30 * 100009 := Nat.mul_le_mul_right _ (by have := HPS.out; omega)
        omega
      have hcase : (¬ k < Ls.length) ∨ (k < Ls.length ∧ ¬ k < ks.length) ∨ (k < Ls.length ∧ k < ks.length ∧ ¬ k < 30) := by have := HPS.out; omega
      have hbk := frames_back js ps HSM.out
      have hwl := catOf_len ps
      have HBK := Lib.hid hbk
      have HWL := Lib.hid hwl
      have HE := Lib.hid e
      generalize hB : catOf ps = B at *
      clear e hbk hwl hB hk hlt
      rcases hcase with hq | ⟨hq, hq2⟩ | ⟨hq, hq2, hq3⟩
      · go_wp2_with (first | (at_builtin; refine wpList_append_bytes (P := Try.prog) Try.underlying22 info5 rfl (.tmp 86) (.tmp 87) rfl rfl (lit_own wr #[] 5 (by simp [maxLen])) rfl ((own_sl HO.out).mk (mk_alloc _ _)) (bv_one _) (by simp; omega) (by simp) ?_; intro v2 w3 ho2 hg2 hn hf; clear hn hf; have HO2 := Lib.hid (show w3.ownsRow wr.heap.size 5 1 v2 B.length (bv B) by simpa using ho2); have HM2 := Lib.hid (mk_own (mk_alloc wr _) (lit_own wr #[] 5 (by simp [maxLen])) hg2); clear ho2 hg2) | (at_builtin; refine wpList_append_bytes (P := Try.prog) Try.underlying22 info5 rfl (.tmp 88) (.tmp 89) rfl rfl HO2.out rfl (H2.out.mk (mk_trans HFR.out.made HM2.out)) (bv_one _) (by omega) HM2.out.size ?_; intro v3 w4 ho3 hg3 hn hf; clear hn hf; rw [← bv_append] at ho3; have HO3 := Lib.hid ho3; have HM3 := Lib.hid (mk_own HM2.out HO2.out hg3); clear ho3 hg3))
        refine (scan_any _ v3 (B ++ js) ((bs_of (own_sl HO3.out) (by simp)).mk (mk_alloc _ _)) (by simp; omega)).mono ?_
        rintro e w6 ⟨gb, v1, rfl, hcl6, hbs6, hgb6, hob6, hm6⟩
        have hfb : Fb w w6 g9 (.slice a0 ks.length cap0) (.slice a1 Ls.length cap1) k := HFR.out.mk' (mk_trans HM3.out (mk_trans (mk_alloc _ _) hm6))
        have hsd : Sd w w6 g9 (.slice a0 ks.length cap0) (.slice a1 Ls.length cap1) k gb w4.heap.size w6.heap.size v1 v3 (B ++ js) 0 :=
          ⟨hfb, Bx.mk (heap_alloc_new w4 _) hm6, hcl6, hbs6, (bs_of (own_sl HO3.out) (by simp)).mk (mk_trans (mk_alloc _ _) hm6), by simpa using hgb6, by simpa using hob6, fun k hk => (HO3.out.lt k hk).2, by have := HFR.out.size; have := HM3.out.size; omega, Nat.le_refl _⟩
        obtain ⟨ba3, bc3, rfl, _, _⟩ := (own_sl HO3.out).form
        have HSD := Lib.hid hsd
        clear hfb hcl6 hbs6 hgb6 hob6 hm6 HO2 HM2 HO3 HM3 HFR HO hsd hc3 hc4 hc9
        generalize w4.heap.size = g15 at *
        go_wp2_with fail
        have hsd := HSD.out
        generalize w6.heap.size = hi at *
        refine wp_range (gf := 82) (lb := #[.pointer (some ⟨gb, 0, none⟩)]) rfl (enters_of Try.func82 (by kernel_rfl) rfl)
          (scan1_seq w6 gb (g15 + 1) hi v1 (B ++ js) hsd.hc hsd.hv hsd.hgb hsd.hob hsd.size (by simp; omega)) (fun h k => h.trans k)
          (fun W l o hl => ⟨by simp, fun k _ h2 => World.putObj_heap_other (by have := hsd.size; omega)⟩) (fun _ => rfl) (own_from _)
          (fun pre W => Sd w W g9 (.slice a0 ks.length cap0) (.slice a1 Ls.length cap1) k gb g15 hi v1 (.slice ba3 (B.length + js.length) bc3) (B ++ js) pre.length)
          (fun _ _ _ => False)
          (fun s W W' row hs hg hr => hs.kept hg fun r e => by have := (hr r e).1; have := hsd.size; omega)
          (fun _ _ _ _ _ h _ _ => h) hsd ?actq0 ?assignq0 ?bodyq0 ?doneq0 ?stopq0
        case assignq0 =>
          intro l x W K hK
          simp only [encI]
          gi_wp2
          exact hK
        case bodyq0 =>
          rintro l pre ⟨kk, dat, dv⟩ W hS hnx hgi
          dsimp only at hgi ⊢
          obtain ⟨da, dc, hdv, hd1, hd2⟩ := (own_sl hgi).form
          dsimp only at hdv
          subst hdv
          obtain ⟨rest, hrest⟩ := hnx
          rw [HBK.out] at hrest
          have hget : (ps ++ framesOf js)[pre.length]? = some (kk, dat) := by rw [← hrest]; simp [key]
          have hbnd : pre.length ≤ 2000000 := by
            have h1 := (List.getElem?_eq_some_iff.1 hget).1
            rw [List.length_append] at h1
            have h2 := frames_count js
            have := HPS.out
            omega
          have HS := Lib.hid hS
          have HGI := Lib.hid hgi
          have HGET := Lib.hid hget
          clear hS hgi hrest hget hd2 hsd
          have q1 := @qAt_value Try.prog
          have l15 : ∀ w', Mk W w' → w'.cell? ⟨g15, 0, none⟩ = some (.int .i64 (pre.length : Int)) := fun w' h => (HS.out.b15.mk h).cell
          have l9 : ∀ w', Mk W w' → w'.cell? ⟨g9, 0, none⟩ = some (.int .i64 (k : Int)) := fun w' h => (HS.out.fb.b9.mk h).cell
          by_cases hlt : pre.length < ps.length
          · have hkL : pre.length < Ls.length := by have := HPS.out; omega
            have hkK : pre.length < ks.length := by have := HPS.out; omega
            have hpk : (ks[pre.length], (Ls[pre.length]).take 100000) = (kk, dat) := by
              rw [← HAT.out pre.length hlt hkK hkL]
              have := HGET.out
              rw [List.getElem?_append_left hlt, List.getElem?_eq_getElem hlt] at this
              exact Option.some.inj this
            obtain ⟨b1, off1, vi, ha1, hci, hbi⟩ := (H1.out.mk HS.out.fb.made).at pre.length hkL
            subst ha1
            obtain ⟨va, vc, rfl, hv1, hv2⟩ := hbi.form
            obtain ⟨b0, off0, ha0, hck⟩ : ∃ b off, a0 = some ⟨b, off, none⟩ ∧ ∀ w', Mk W w' → w'.cell? ⟨b, off + pre.length, none⟩ = some (.int .u8 (kk.toNat : Int)) := by
              obtain ⟨b, off, he, _⟩ := H0.out.cellAt (by omega)
              subst he
              refine ⟨b, off, rfl, fun w' hw' => ?_⟩
              obtain ⟨b', off', he, hd⟩ := (H0.out.mk (mk_trans HS.out.fb.made hw')).cellAt (by omega)
              cases he
              have := hd pre.length _ (bv_get ks pre.length hkK)
              rwa [(Prod.mk.inj hpk).1] at this
            subst ha0
            have li : ∀ w', Mk W w' → w'.cell? ⟨b1, off1 + pre.length, none⟩ = some (.slice va (Ls[pre.length]).length vc) := fun w' h => by
              have hb := (h.cell (p := ⟨b1, off1 + pre.length, none⟩) (by
                have h4 := hci
                simp only [World.cell?] at h4
                split at h4
                · rename_i he
                  exact (Array.getElem?_eq_some_iff.1 he).1
                · cases h4))
              rw [hb]; exact hci
            obtain ⟨q, hq⟩ : ∃ q, min (Ls[pre.length]).length 100000 = q := ⟨_, rfl⟩
            have hq1 : q ≤ (Ls[pre.length]).length := by omega
            have hq2 : q ≤ 100000 := by omega
            have hdt : (Ls[pre.length]).take q = dat := by
              rw [← (Prod.mk.inj hpk).2]
              rcases Nat.lt_or_ge (Ls[pre.length]).length 100000 with h | h
              · rw [List.take_of_length_le (by omega), List.take_of_length_le (by omega)]
              · rw [show q = 100000 by omega]
            have hdl : dat.length = q := by rw [← hdt]; simp; omega
            have hmin : (if (100000 : Int) < ((Ls[pre.length]).length : Int) then (100000 : Int) else ((Ls[pre.length]).length : Int)) = (q : Int) := by split <;> omega
            have l3 : ∀ w', Mk W w' → w'.cell? ⟨w.heap.size, 0, none⟩ = some (.slice (some ⟨b0, off0, none⟩) ks.length cap0) := fun w' h => (HS.out.fb.b3.mk h).cell
            have l4 : ∀ w', Mk W w' → w'.cell? ⟨w.heap.size + 1, 0, none⟩ = some (.slice (some ⟨b1, off1, none⟩) Ls.length cap1) := fun w' h => (HS.out.fb.b4.mk h).cell
            have c1 : ∀ w', Mk W w' → (convert 22 9 (.slice da dat.length dc)).run Try.prog w' = .ok (.string ⟨dat.toArray⟩) w' := fun w' h => str_of (own_sl (own_mk HGI.out h))
            have c2 : ∀ w', Mk W w' → (convert 22 9 (.slice va q vc)).run Try.prog w' = .ok (.string ⟨dat.toArray⟩) w' := fun w' h => by
              have h1 : Bs w' (.slice va q vc) ((Ls[pre.length]).take q) := Sl.taken (hbi.mk h) q hq1
              rw [hdt] at h1
              have h2 : Sl w' 1 (.slice va q vc) q (bv dat) := by rw [← hdl]; rw [← hdl] at h1; exact h1
              exact str_of h2
            have hi1 : (pre.length : Int) < (ks.length : Int) := by omega
            have hi2 : (pre.length : Int) < (Ls.length : Int) := by omega
            have hi3 : (pre.length : Int) < (k : Int) := by have := HE.out; omega
            have hi4 : pre.length < k := by have := HE.out; omega
            clear hci hpk hdt hdl hq hbi
            generalize Ls[pre.length] = Lk at *
            gi_wp2
            refine wpIn_region_sp (fun _ => false) (fun w' => Mk W w') (by kernel_rfl) (by kernel_rfl) (by kernel_rfl) (mk_refl _) (fun _ _ => mk_trans) ?_
            intro D hD hne
            iterate 28 (first | (refine spk (by rfl) (by rfl) (by rfl) (fun K hK => ?_); go_big_quiet_op; first | (refine hK _ ?_; clear hK K) | (apply Exists.intro; refine ⟨fun _ => ?_, hK _ ?_⟩; (exact fun _ => rfl); clear hK K)) | (refine spq (by rfl) (by rfl) (fun K hK => ?_); apply Exists.intro; refine ⟨fun w' hw' => ?_, ?_⟩; (go_simp; exact rfl); (go_simp; refine hK _ ?_; clear hK K)))
            refine sp_nil ?_
            intro w9 hw9
            have HM9 := Lib.hid (hD.out _ hw9).1
            clear hw9 hD hne D l15 l9 li l3 l4 c1 c2 hck hmin q1
            have hS9 := HS.out.mk' HM9.out
            have HS9 := Lib.hid hS9
            have hc15 := hS9.b15.cell
            have hf15 := hS9.b15.frozen
            clear hS9
            gi_wp2
            refine ⟨(mk_keeps HM9.out).trans (KeepsOthers.setCell _ _ _),
              (mk_kp HM9.out HS.out.size).trans ⟨by simp, fun k h1 h2 => Below.heap_setCell _ _ _ _ (by show k ≠ g15; omega)⟩, ?_⟩
            have h9 := HS9.out.set (pre.length + 1)
            rw [show ((pre.length + 1 : Nat) : Int) = (pre.length : Int) + 1 from rfl] at h9
            dsimp only
            rw [show (pre ++ [(kk, dat, Value.slice da dat.length dc)]).length = pre.length + 1 by simp]
            exact h9
          · have hi3 : ¬ (pre.length : Int) < (k : Int) := by have := HE.out; omega
            have hi4 : ¬ pre.length < k := by have := HE.out; omega
            have hi5 : decide ((pre.length : Int) < (k : Int)) = false := by simp; omega
            have hi6 : decide (pre.length < k) = false := by simp; omega
            clear hi3 hi4
            gi_wp2
            refine wpIn_region_sp (fun _ => false) (fun w' => Mk W w') (by kernel_rfl) (by kernel_rfl) (by kernel_rfl) (mk_refl _) (fun _ _ => mk_trans) ?_
            intro D hD hne
            iterate 3 (first | (refine spk (by rfl) (by rfl) (by rfl) (fun K hK => ?_); go_big_quiet_op; first | (refine hK _ ?_; clear hK K) | (apply Exists.intro; refine ⟨fun _ => ?_, hK _ ?_⟩; (exact fun _ => rfl); clear hK K)) | (refine spq (by rfl) (by rfl) (fun K hK => ?_); apply Exists.intro; refine ⟨fun w' hw' => ?_, ?_⟩; (go_simp; exact rfl); (go_simp; refine hK _ ?_; clear hK K)))
            refine spk_skip 23 (by rfl) (by rfl) (by rfl) (fun K hK => ?_)
            go_big_quiet_op
            refine hK _ ?_ ?_
            · kernel_rfl
            clear hK K
            simp only [List.drop, skipAct]
            go_simp
            iterate 1 (first | (refine spk (by rfl) (by rfl) (by rfl) (fun K hK => ?_); go_big_quiet_op; first | (refine hK _ ?_; clear hK K) | (apply Exists.intro; refine ⟨fun _ => ?_, hK _ ?_⟩; (exact fun _ => rfl); clear hK K)) | (refine spq (by rfl) (by rfl) (fun K hK => ?_); apply Exists.intro; refine ⟨fun w' hw' => ?_, ?_⟩; (go_simp; exact rfl); (go_simp; refine hK _ ?_; clear hK K)))
            refine sp_nil ?_
            intro w9 hw9
            have HM9 := Lib.hid (hD.out _ hw9).1
            clear hw9 hD hne D l15 l9  q1
            have hS9 := HS.out.mk' HM9.out
            have HS9 := Lib.hid hS9
            have hc15 := hS9.b15.cell
            have hf15 := hS9.b15.frozen
            clear hS9
            gi_wp2
            refine ⟨(mk_keeps HM9.out).trans (KeepsOthers.setCell _ _ _),
              (mk_kp HM9.out HS.out.size).trans ⟨by simp, fun k h1 h2 => Below.heap_setCell _ _ _ _ (by show k ≠ g15; omega)⟩, ?_⟩
            have h9 := HS9.out.set (pre.length + 1)
            rw [show ((pre.length + 1 : Nat) : Int) = (pre.length : Int) + 1 from rfl] at h9
            dsimp only
            rw [show (pre ++ [(kk, dat, Value.slice da dat.length dc)]).length = pre.length + 1 by simp]
            exact h9
        case doneq0 =>
          rintro D ys W hD hSy hS hK
          have hys : ys.length = ps.length + (framesOf js).length := by
            have h1 : (ys.map key).length = ys.length := by simp
            rw [← h1, hSy, HBK.out, List.length_append]
          rw [hys, ← HE.out] at hS
          have hDl : D ≠ w.heap.size + 1 + 1 ∧ w.heap.size + 2 < D := by have := hsd.size; have := hsd.hgb; have := hsd.hg; have := hsd.fb.g; omega
          have HS := Lib.hid hS
          have HK := Lib.hid hK
          clear hS hK hSy hys hsd
          go_wp2_with fail
          refine (Get_any _ _ js (H2.out.mk HS.out.fb.made) (by omega)).mono ?_
          intro e w7 hp
          obtain ⟨hm, dv, _, rfl⟩ := get_out hp
          have HM7 := Lib.hid hm
          clear hm hp
          go_wp2_with fail
          refine (whole_any _ _ (B ++ js) (HS.out.hx.mk HM7.out) (by simp; omega)).mono ?_
          rintro e w8 ⟨rfl, hm⟩
          rw [HBK.out, wholeOf_append, ← HWL.out]
          have hS8 := HS.out.mk' (mk_trans HM7.out hm)
          have hK8 : w8.heap[D]? = some (.deferred (some [])) := ((mk_trans HM7.out hm).block D (Array.getElem?_eq_some_iff.1 HK.out).1).trans HK.out
          have hjc := junk_cases js
          have HS8 := Lib.hid hS8
          have HK8 := Lib.hid hK8
          have hc15 := hS8.b15.cell
          have hc9 := hS8.fb.b9.cell
          have hc6 := hS8.fb.b6.cell
          have hf6 := hS8.fb.b6.frozen
          clear hS8 hK8 hm
          generalize (framesOf js).length = f at *
          generalize wholeOf (framesOf js) = wf at *
          generalize gN js = N at *
          generalize gK js = K0 at *
          rcases hjc with ⟨rfl, rfl, rfl⟩ | ⟨hz1, hz2, hz3⟩
          · go_wp2_with fail
            exact one_mark rfl rfl ((Below.heap_setCell _ _ _ _ hDl.1).trans HK8.out) (HS8.out.fb.b6.set _) (HS8.out.fb.made.setCell (by show w.heap.size ≤ w.heap.size + 1 + 1; omega) _) (by omega) (fun e => hDl.1 e.symm)
          · have hy1 : (0 : Int) < (f : Int) := by omega
            have hy2 : (0 : Int) < (wf : Int) := by omega
            have hy3 : (0 : Int) < (N : Int) := by omega
            have hy4 : decide ((k : Int) < (k : Int) + (f : Int)) = true := by simp; omega
            have hy5 : decide ((B.length : Int) < (B.length : Int) + (wf : Int)) = true := by simp; omega
            go_wp2_with fail
            exact one_mark rfl rfl ((Below.heap_setCell _ _ _ _ hDl.1).trans HK8.out) (HS8.out.fb.b6.set _) (HS8.out.fb.made.setCell (by show w.heap.size ≤ w.heap.size + 1 + 1; omega) _) (by omega) (fun e => hDl.1 e.symm)
        case stopq0 =>
          rintro _ _ _ _ _ _ h _
          exact h.elim
      · go_wp2_with (first | (at_builtin; refine wpList_append_bytes (P := Try.prog) Try.underlying22 info5 rfl (.tmp 86) (.tmp 87) rfl rfl (lit_own wr #[] 5 (by simp [maxLen])) rfl ((own_sl HO.out).mk (mk_alloc _ _)) (bv_one _) (by simp; omega) (by simp) ?_; intro v2 w3 ho2 hg2 hn hf; clear hn hf; have HO2 := Lib.hid (show w3.ownsRow wr.heap.size 5 1 v2 B.length (bv B) by simpa using ho2); have HM2 := Lib.hid (mk_own (mk_alloc wr _) (lit_own wr #[] 5 (by simp [maxLen])) hg2); clear ho2 hg2) | (at_builtin; refine wpList_append_bytes (P := Try.prog) Try.underlying22 info5 rfl (.tmp 88) (.tmp 89) rfl rfl HO2.out rfl (H2.out.mk (mk_trans HFR.out.made HM2.out)) (bv_one _) (by omega) HM2.out.size ?_; intro v3 w4 ho3 hg3 hn hf; clear hn hf; rw [← bv_append] at ho3; have HO3 := Lib.hid ho3; have HM3 := Lib.hid (mk_own HM2.out HO2.out hg3); clear ho3 hg3))
        refine (scan_any _ v3 (B ++ js) ((bs_of (own_sl HO3.out) (by simp)).mk (mk_alloc _ _)) (by simp; omega)).mono ?_
        rintro e w6 ⟨gb, v1, rfl, hcl6, hbs6, hgb6, hob6, hm6⟩
        have hfb : Fb w w6 g9 (.slice a0 ks.length cap0) (.slice a1 Ls.length cap1) k := HFR.out.mk' (mk_trans HM3.out (mk_trans (mk_alloc _ _) hm6))
        have hsd : Sd w w6 g9 (.slice a0 ks.length cap0) (.slice a1 Ls.length cap1) k gb w4.heap.size w6.heap.size v1 v3 (B ++ js) 0 :=
          ⟨hfb, Bx.mk (heap_alloc_new w4 _) hm6, hcl6, hbs6, (bs_of (own_sl HO3.out) (by simp)).mk (mk_trans (mk_alloc _ _) hm6), by simpa using hgb6, by simpa using hob6, fun k hk => (HO3.out.lt k hk).2, by have := HFR.out.size; have := HM3.out.size; omega, Nat.le_refl _⟩
        obtain ⟨ba3, bc3, rfl, _, _⟩ := (own_sl HO3.out).form
        have HSD := Lib.hid hsd
        clear hfb hcl6 hbs6 hgb6 hob6 hm6 HO2 HM2 HO3 HM3 HFR HO hsd hc3 hc4 hc9
        generalize w4.heap.size = g15 at *
        go_wp2_with fail
        have hsd := HSD.out
        generalize w6.heap.size = hi at *
        refine wp_range (gf := 82) (lb := #[.pointer (some ⟨gb, 0, none⟩)]) rfl (enters_of Try.func82 (by kernel_rfl) rfl)
          (scan1_seq w6 gb (g15 + 1) hi v1 (B ++ js) hsd.hc hsd.hv hsd.hgb hsd.hob hsd.size (by simp; omega)) (fun h k => h.trans k)
          (fun W l o hl => ⟨by simp, fun k _ h2 => World.putObj_heap_other (by have := hsd.size; omega)⟩) (fun _ => rfl) (own_from _)
          (fun pre W => Sd w W g9 (.slice a0 ks.length cap0) (.slice a1 Ls.length cap1) k gb g15 hi v1 (.slice ba3 (B.length + js.length) bc3) (B ++ js) pre.length)
          (fun _ _ _ => False)
          (fun s W W' row hs hg hr => hs.kept hg fun r e => by have := (hr r e).1; have := hsd.size; omega)
          (fun _ _ _ _ _ h _ _ => h) hsd ?actq1 ?assignq1 ?bodyq1 ?doneq1 ?stopq1
        case assignq1 =>
          intro l x W K hK
          simp only [encI]
          gi_wp2
          exact hK
        case bodyq1 =>
          rintro l pre ⟨kk, dat, dv⟩ W hS hnx hgi
          dsimp only at hgi ⊢
          obtain ⟨da, dc, hdv, hd1, hd2⟩ := (own_sl hgi).form
          dsimp only at hdv
          subst hdv
          obtain ⟨rest, hrest⟩ := hnx
          rw [HBK.out] at hrest
          have hget : (ps ++ framesOf js)[pre.length]? = some (kk, dat) := by rw [← hrest]; simp [key]
          have hbnd : pre.length ≤ 2000000 := by
            have h1 := (List.getElem?_eq_some_iff.1 hget).1
            rw [List.length_append] at h1
            have h2 := frames_count js
            have := HPS.out
            omega
          have HS := Lib.hid hS
          have HGI := Lib.hid hgi
          have HGET := Lib.hid hget
          clear hS hgi hrest hget hd2 hsd
          have q1 := @qAt_value Try.prog
          have l15 : ∀ w', Mk W w' → w'.cell? ⟨g15, 0, none⟩ = some (.int .i64 (pre.length : Int)) := fun w' h => (HS.out.b15.mk h).cell
          have l9 : ∀ w', Mk W w' → w'.cell? ⟨g9, 0, none⟩ = some (.int .i64 (k : Int)) := fun w' h => (HS.out.fb.b9.mk h).cell
          by_cases hlt : pre.length < ps.length
          · have hkL : pre.length < Ls.length := by have := HPS.out; omega
            have hkK : pre.length < ks.length := by have := HPS.out; omega
            have hpk : (ks[pre.length], (Ls[pre.length]).take 100000) = (kk, dat) := by
              rw [← HAT.out pre.length hlt hkK hkL]
              have := HGET.out
              rw [List.getElem?_append_left hlt, List.getElem?_eq_getElem hlt] at this
              exact Option.some.inj this
            obtain ⟨b1, off1, vi, ha1, hci, hbi⟩ := (H1.out.mk HS.out.fb.made).at pre.length hkL
            subst ha1
            obtain ⟨va, vc, rfl, hv1, hv2⟩ := hbi.form
            obtain ⟨b0, off0, ha0, hck⟩ : ∃ b off, a0 = some ⟨b, off, none⟩ ∧ ∀ w', Mk W w' → w'.cell? ⟨b, off + pre.length, none⟩ = some (.int .u8 (kk.toNat : Int)) := by
              obtain ⟨b, off, he, _⟩ := H0.out.cellAt (by omega)
              subst he
              refine ⟨b, off, rfl, fun w' hw' => ?_⟩
              obtain ⟨b', off', he, hd⟩ := (H0.out.mk (mk_trans HS.out.fb.made hw')).cellAt (by omega)
              cases he
              have := hd pre.length _ (bv_get ks pre.length hkK)
              rwa [(Prod.mk.inj hpk).1] at this
            subst ha0
            have li : ∀ w', Mk W w' → w'.cell? ⟨b1, off1 + pre.length, none⟩ = some (.slice va (Ls[pre.length]).length vc) := fun w' h => by
              have hb := (h.cell (p := ⟨b1, off1 + pre.length, none⟩) (by
                have h4 := hci
                simp only [World.cell?] at h4
                split at h4
                · rename_i he
                  exact (Array.getElem?_eq_some_iff.1 he).1
                · cases h4))
              rw [hb]; exact hci
            obtain ⟨q, hq⟩ : ∃ q, min (Ls[pre.length]).length 100000 = q := ⟨_, rfl⟩
            have hq1 : q ≤ (Ls[pre.length]).length := by omega
            have hq2 : q ≤ 100000 := by omega
            have hdt : (Ls[pre.length]).take q = dat := by
              rw [← (Prod.mk.inj hpk).2]
              rcases Nat.lt_or_ge (Ls[pre.length]).length 100000 with h | h
              · rw [List.take_of_length_le (by omega), List.take_of_length_le (by omega)]
              · rw [show q = 100000 by omega]
            have hdl : dat.length = q := by rw [← hdt]; simp; omega
            have hmin : (if (100000 : Int) < ((Ls[pre.length]).length : Int) then (100000 : Int) else ((Ls[pre.length]).length : Int)) = (q : Int) := by split <;> omega
            have l3 : ∀ w', Mk W w' → w'.cell? ⟨w.heap.size, 0, none⟩ = some (.slice (some ⟨b0, off0, none⟩) ks.length cap0) := fun w' h => (HS.out.fb.b3.mk h).cell
            have l4 : ∀ w', Mk W w' → w'.cell? ⟨w.heap.size + 1, 0, none⟩ = some (.slice (some ⟨b1, off1, none⟩) Ls.length cap1) := fun w' h => (HS.out.fb.b4.mk h).cell
            have c1 : ∀ w', Mk W w' → (convert 22 9 (.slice da dat.length dc)).run Try.prog w' = .ok (.string ⟨dat.toArray⟩) w' := fun w' h => str_of (own_sl (own_mk HGI.out h))
            have c2 : ∀ w', Mk W w' → (convert 22 9 (.slice va q vc)).run Try.prog w' = .ok (.string ⟨dat.toArray⟩) w' := fun w' h => by
              have h1 : Bs w' (.slice va q vc) ((Ls[pre.length]).take q) := Sl.taken (hbi.mk h) q hq1
              rw [hdt] at h1
              have h2 : Sl w' 1 (.slice va q vc) q (bv dat) := by rw [← hdl]; rw [← hdl] at h1; exact h1
              exact str_of h2
            have hi1 : (pre.length : Int) < (ks.length : Int) := by omega
            have hi2 : (pre.length : Int) < (Ls.length : Int) := by omega
            have hi3 : (pre.length : Int) < (k : Int) := by have := HE.out; omega
            have hi4 : pre.length < k := by have := HE.out; omega
            clear hci hpk hdt hdl hq hbi
            generalize Ls[pre.length] = Lk at *
            gi_wp2
            refine wpIn_region_sp (fun _ => false) (fun w' => Mk W w') (by kernel_rfl) (by kernel_rfl) (by kernel_rfl) (mk_refl _) (fun _ _ => mk_trans) ?_
            intro D hD hne
            iterate 28 (first | (refine spk (by rfl) (by rfl) (by rfl) (fun K hK => ?_); go_big_quiet_op; first | (refine hK _ ?_; clear hK K) | (apply Exists.intro; refine ⟨fun _ => ?_, hK _ ?_⟩; (exact fun _ => rfl); clear hK K)) | (refine spq (by rfl) (by rfl) (fun K hK => ?_); apply Exists.intro; refine ⟨fun w' hw' => ?_, ?_⟩; (go_simp; exact rfl); (go_simp; refine hK _ ?_; clear hK K)))
            refine sp_nil ?_
            intro w9 hw9
            have HM9 := Lib.hid (hD.out _ hw9).1
            clear hw9 hD hne D l15 l9 li l3 l4 c1 c2 hck hmin q1
            have hS9 := HS.out.mk' HM9.out
            have HS9 := Lib.hid hS9
            have hc15 := hS9.b15.cell
            have hf15 := hS9.b15.frozen
            clear hS9
            gi_wp2
            refine ⟨(mk_keeps HM9.out).trans (KeepsOthers.setCell _ _ _),
              (mk_kp HM9.out HS.out.size).trans ⟨by simp, fun k h1 h2 => Below.heap_setCell _ _ _ _ (by show k ≠ g15; omega)⟩, ?_⟩
            have h9 := HS9.out.set (pre.length + 1)
            rw [show ((pre.length + 1 : Nat) : Int) = (pre.length : Int) + 1 from rfl] at h9
            dsimp only
            rw [show (pre ++ [(kk, dat, Value.slice da dat.length dc)]).length = pre.length + 1 by simp]
            exact h9
          · have hi3 : ¬ (pre.length : Int) < (k : Int) := by have := HE.out; omega
            have hi4 : ¬ pre.length < k := by have := HE.out; omega
            have hi5 : decide ((pre.length : Int) < (k : Int)) = false := by simp; omega
            have hi6 : decide (pre.length < k) = false := by simp; omega
            clear hi3 hi4
            gi_wp2
            refine wpIn_region_sp (fun _ => false) (fun w' => Mk W w') (by kernel_rfl) (by kernel_rfl) (by kernel_rfl) (mk_refl _) (fun _ _ => mk_trans) ?_
            intro D hD hne
            iterate 3 (first | (refine spk (by rfl) (by rfl) (by rfl) (fun K hK => ?_); go_big_quiet_op; first | (refine hK _ ?_; clear hK K) | (apply Exists.intro; refine ⟨fun _ => ?_, hK _ ?_⟩; (exact fun _ => rfl); clear hK K)) | (refine spq (by rfl) (by rfl) (fun K hK => ?_); apply Exists.intro; refine ⟨fun w' hw' => ?_, ?_⟩; (go_simp; exact rfl); (go_simp; refine hK _ ?_; clear hK K)))
            refine spk_skip 23 (by rfl) (by rfl) (by rfl) (fun K hK => ?_)
            go_big_quiet_op
            refine hK _ ?_ ?_
            · kernel_rfl
            clear hK K
            simp only [List.drop, skipAct]
            go_simp
            iterate 1 (first | (refine spk (by rfl) (by rfl) (by rfl) (fun K hK => ?_); go_big_quiet_op; first | (refine hK _ ?_; clear hK K) | (apply Exists.intro; refine ⟨fun _ => ?_, hK _ ?_⟩; (exact fun _ => rfl); clear hK K)) | (refine spq (by rfl) (by rfl) (fun K hK => ?_); apply Exists.intro; refine ⟨fun w' hw' => ?_, ?_⟩; (go_simp; exact rfl); (go_simp; refine hK _ ?_; clear hK K)))
            refine sp_nil ?_
            intro w9 hw9
            have HM9 := Lib.hid (hD.out _ hw9).1
            clear hw9 hD hne D l15 l9  q1
            have hS9 := HS.out.mk' HM9.out
            have HS9 := Lib.hid hS9
            have hc15 := hS9.b15.cell
            have hf15 := hS9.b15.frozen
            clear hS9
            gi_wp2
            refine ⟨(mk_keeps HM9.out).trans (KeepsOthers.setCell _ _ _),
              (mk_kp HM9.out HS.out.size).trans ⟨by simp, fun k h1 h2 => Below.heap_setCell _ _ _ _ (by show k ≠ g15; omega)⟩, ?_⟩
            have h9 := HS9.out.set (pre.length + 1)
            rw [show ((pre.length + 1 : Nat) : Int) = (pre.length : Int) + 1 from rfl] at h9
            dsimp only
            rw [show (pre ++ [(kk, dat, Value.slice da dat.length dc)]).length = pre.length + 1 by simp]
            exact h9
        case doneq1 =>
          rintro D ys W hD hSy hS hK
          have hys : ys.length = ps.length + (framesOf js).length := by
            have h1 : (ys.map key).length = ys.length := by simp
            rw [← h1, hSy, HBK.out, List.length_append]
          rw [hys, ← HE.out] at hS
          have hDl : D ≠ w.heap.size + 1 + 1 ∧ w.heap.size + 2 < D := by have := hsd.size; have := hsd.hgb; have := hsd.hg; have := hsd.fb.g; omega
          have HS := Lib.hid hS
          have HK := Lib.hid hK
          clear hS hK hSy hys hsd
          go_wp2_with fail
          refine (Get_any _ _ js (H2.out.mk HS.out.fb.made) (by omega)).mono ?_
          intro e w7 hp
          obtain ⟨hm, dv, _, rfl⟩ := get_out hp
          have HM7 := Lib.hid hm
          clear hm hp
          go_wp2_with fail
          refine (whole_any _ _ (B ++ js) (HS.out.hx.mk HM7.out) (by simp; omega)).mono ?_
          rintro e w8 ⟨rfl, hm⟩
          rw [HBK.out, wholeOf_append, ← HWL.out]
          have hS8 := HS.out.mk' (mk_trans HM7.out hm)
          have hK8 : w8.heap[D]? = some (.deferred (some [])) := ((mk_trans HM7.out hm).block D (Array.getElem?_eq_some_iff.1 HK.out).1).trans HK.out
          have hjc := junk_cases js
          have HS8 := Lib.hid hS8
          have HK8 := Lib.hid hK8
          have hc15 := hS8.b15.cell
          have hc9 := hS8.fb.b9.cell
          have hc6 := hS8.fb.b6.cell
          have hf6 := hS8.fb.b6.frozen
          clear hS8 hK8 hm
          generalize (framesOf js).length = f at *
          generalize wholeOf (framesOf js) = wf at *
          generalize gN js = N at *
          generalize gK js = K0 at *
          rcases hjc with ⟨rfl, rfl, rfl⟩ | ⟨hz1, hz2, hz3⟩
          · go_wp2_with fail
            exact one_mark rfl rfl ((Below.heap_setCell _ _ _ _ hDl.1).trans HK8.out) (HS8.out.fb.b6.set _) (HS8.out.fb.made.setCell (by show w.heap.size ≤ w.heap.size + 1 + 1; omega) _) (by omega) (fun e => hDl.1 e.symm)
          · have hy1 : (0 : Int) < (f : Int) := by omega
            have hy2 : (0 : Int) < (wf : Int) := by omega
            have hy3 : (0 : Int) < (N : Int) := by omega
            have hy4 : decide ((k : Int) < (k : Int) + (f : Int)) = true := by simp; omega
            have hy5 : decide ((B.length : Int) < (B.length : Int) + (wf : Int)) = true := by simp; omega
            go_wp2_with fail
            exact one_mark rfl rfl ((Below.heap_setCell _ _ _ _ hDl.1).trans HK8.out) (HS8.out.fb.b6.set _) (HS8.out.fb.made.setCell (by show w.heap.size ≤ w.heap.size + 1 + 1; omega) _) (by omega) (fun e => hDl.1 e.symm)
        case stopq1 =>
          rintro _ _ _ _ _ _ h _
          exact h.elim
      · go_wp2_with (first | (at_builtin; refine wpList_append_bytes (P := Try.prog) Try.underlying22 info5 rfl (.tmp 86) (.tmp 87) rfl rfl (lit_own wr #[] 5 (by simp [maxLen])) rfl ((own_sl HO.out).mk (mk_alloc _ _)) (bv_one _) (by simp; omega) (by simp) ?_; intro v2 w3 ho2 hg2 hn hf; clear hn hf; have HO2 := Lib.hid (show w3.ownsRow wr.heap.size 5 1 v2 B.length (bv B) by simpa using ho2); have HM2 := Lib.hid (mk_own (mk_alloc wr _) (lit_own wr #[] 5 (by simp [maxLen])) hg2); clear ho2 hg2) | (at_builtin; refine wpList_append_bytes (P := Try.prog) Try.underlying22 info5 rfl (.tmp 88) (.tmp 89) rfl rfl HO2.out rfl (H2.out.mk (mk_trans HFR.out.made HM2.out)) (bv_one _) (by omega) HM2.out.size ?_; intro v3 w4 ho3 hg3 hn hf; clear hn hf; rw [← bv_append] at ho3; have HO3 := Lib.hid ho3; have HM3 := Lib.hid (mk_own HM2.out HO2.out hg3); clear ho3 hg3))
        refine (scan_any _ v3 (B ++ js) ((bs_of (own_sl HO3.out) (by simp)).mk (mk_alloc _ _)) (by simp; omega)).mono ?_
        rintro e w6 ⟨gb, v1, rfl, hcl6, hbs6, hgb6, hob6, hm6⟩
        have hfb : Fb w w6 g9 (.slice a0 ks.length cap0) (.slice a1 Ls.length cap1) k := HFR.out.mk' (mk_trans HM3.out (mk_trans (mk_alloc _ _) hm6))
        have hsd : Sd w w6 g9 (.slice a0 ks.length cap0) (.slice a1 Ls.length cap1) k gb w4.heap.size w6.heap.size v1 v3 (B ++ js) 0 :=
          ⟨hfb, Bx.mk (heap_alloc_new w4 _) hm6, hcl6, hbs6, (bs_of (own_sl HO3.out) (by simp)).mk (mk_trans (mk_alloc _ _) hm6), by simpa using hgb6, by simpa using hob6, fun k hk => (HO3.out.lt k hk).2, by have := HFR.out.size; have := HM3.out.size; omega, Nat.le_refl _⟩
        obtain ⟨ba3, bc3, rfl, _, _⟩ := (own_sl HO3.out).form
        have HSD := Lib.hid hsd
        clear hfb hcl6 hbs6 hgb6 hob6 hm6 HO2 HM2 HO3 HM3 HFR HO hsd hc3 hc4 hc9
        generalize w4.heap.size = g15 at *
        go_wp2_with fail
        have hsd := HSD.out
        generalize w6.heap.size = hi at *
        refine wp_range (gf := 82) (lb := #[.pointer (some ⟨gb, 0, none⟩)]) rfl (enters_of Try.func82 (by kernel_rfl) rfl)
          (scan1_seq w6 gb (g15 + 1) hi v1 (B ++ js) hsd.hc hsd.hv hsd.hgb hsd.hob hsd.size (by simp; omega)) (fun h k => h.trans k)
          (fun W l o hl => ⟨by simp, fun k _ h2 => World.putObj_heap_other (by have := hsd.size; omega)⟩) (fun _ => rfl) (own_from _)
          (fun pre W => Sd w W g9 (.slice a0 ks.length cap0) (.slice a1 Ls.length cap1) k gb g15 hi v1 (.slice ba3 (B.length + js.length) bc3) (B ++ js) pre.length)
          (fun _ _ _ => False)
          (fun s W W' row hs hg hr => hs.kept hg fun r e => by have := (hr r e).1; have := hsd.size; omega)
          (fun _ _ _ _ _ h _ _ => h) hsd ?actq2 ?assignq2 ?bodyq2 ?doneq2 ?stopq2
        case assignq2 =>
          intro l x W K hK
          simp only [encI]
          gi_wp2
          exact hK
        case bodyq2 =>
          rintro l pre ⟨kk, dat, dv⟩ W hS hnx hgi
          dsimp only at hgi ⊢
          obtain ⟨da, dc, hdv, hd1, hd2⟩ := (own_sl hgi).form
          dsimp only at hdv
          subst hdv
          obtain ⟨rest, hrest⟩ := hnx
          rw [HBK.out] at hrest
          have hget : (ps ++ framesOf js)[pre.length]? = some (kk, dat) := by rw [← hrest]; simp [key]
          have hbnd : pre.length ≤ 2000000 := by
            have h1 := (List.getElem?_eq_some_iff.1 hget).1
            rw [List.length_append] at h1
            have h2 := frames_count js
            have := HPS.out
            omega
          have HS := Lib.hid hS
          have HGI := Lib.hid hgi
          have HGET := Lib.hid hget
          clear hS hgi hrest hget hd2 hsd
          have q1 := @qAt_value Try.prog
          have l15 : ∀ w', Mk W w' → w'.cell? ⟨g15, 0, none⟩ = some (.int .i64 (pre.length : Int)) := fun w' h => (HS.out.b15.mk h).cell
          have l9 : ∀ w', Mk W w' → w'.cell? ⟨g9, 0, none⟩ = some (.int .i64 (k : Int)) := fun w' h => (HS.out.fb.b9.mk h).cell
          by_cases hlt : pre.length < ps.length
          · have hkL : pre.length < Ls.length := by have := HPS.out; omega
            have hkK : pre.length < ks.length := by have := HPS.out; omega
            have hpk : (ks[pre.length], (Ls[pre.length]).take 100000) = (kk, dat) := by
              rw [← HAT.out pre.length hlt hkK hkL]
              have := HGET.out
              rw [List.getElem?_append_left hlt, List.getElem?_eq_getElem hlt] at this
              exact Option.some.inj this
            obtain ⟨b1, off1, vi, ha1, hci, hbi⟩ := (H1.out.mk HS.out.fb.made).at pre.length hkL
            subst ha1
            obtain ⟨va, vc, rfl, hv1, hv2⟩ := hbi.form
            obtain ⟨b0, off0, ha0, hck⟩ : ∃ b off, a0 = some ⟨b, off, none⟩ ∧ ∀ w', Mk W w' → w'.cell? ⟨b, off + pre.length, none⟩ = some (.int .u8 (kk.toNat : Int)) := by
              obtain ⟨b, off, he, _⟩ := H0.out.cellAt (by omega)
              subst he
              refine ⟨b, off, rfl, fun w' hw' => ?_⟩
              obtain ⟨b', off', he, hd⟩ := (H0.out.mk (mk_trans HS.out.fb.made hw')).cellAt (by omega)
              cases he
              have := hd pre.length _ (bv_get ks pre.length hkK)
              rwa [(Prod.mk.inj hpk).1] at this
            subst ha0
            have li : ∀ w', Mk W w' → w'.cell? ⟨b1, off1 + pre.length, none⟩ = some (.slice va (Ls[pre.length]).length vc) := fun w' h => by
              have hb := (h.cell (p := ⟨b1, off1 + pre.length, none⟩) (by
                have h4 := hci
                simp only [World.cell?] at h4
                split at h4
                · rename_i he
                  exact (Array.getElem?_eq_some_iff.1 he).1
                · cases h4))
              rw [hb]; exact hci
            obtain ⟨q, hq⟩ : ∃ q, min (Ls[pre.length]).length 100000 = q := ⟨_, rfl⟩
            have hq1 : q ≤ (Ls[pre.length]).length := by omega
            have hq2 : q ≤ 100000 := by omega
            have hdt : (Ls[pre.length]).take q = dat := by
              rw [← (Prod.mk.inj hpk).2]
              rcases Nat.lt_or_ge (Ls[pre.length]).length 100000 with h | h
              · rw [List.take_of_length_le (by omega), List.take_of_length_le (by omega)]
              · rw [show q = 100000 by omega]
            have hdl : dat.length = q := by rw [← hdt]; simp; omega
            have hmin : (if (100000 : Int) < ((Ls[pre.length]).length : Int) then (100000 : Int) else ((Ls[pre.length]).length : Int)) = (q : Int) := by split <;> omega
            have l3 : ∀ w', Mk W w' → w'.cell? ⟨w.heap.size, 0, none⟩ = some (.slice (some ⟨b0, off0, none⟩) ks.length cap0) := fun w' h => (HS.out.fb.b3.mk h).cell
            have l4 : ∀ w', Mk W w' → w'.cell? ⟨w.heap.size + 1, 0, none⟩ = some (.slice (some ⟨b1, off1, none⟩) Ls.length cap1) := fun w' h => (HS.out.fb.b4.mk h).cell
            have c1 : ∀ w', Mk W w' → (convert 22 9 (.slice da dat.length dc)).run Try.prog w' = .ok (.string ⟨dat.toArray⟩) w' := fun w' h => str_of (own_sl (own_mk HGI.out h))
            have c2 : ∀ w', Mk W w' → (convert 22 9 (.slice va q vc)).run Try.prog w' = .ok (.string ⟨dat.toArray⟩) w' := fun w' h => by
              have h1 : Bs w' (.slice va q vc) ((Ls[pre.length]).take q) := Sl.taken (hbi.mk h) q hq1
              rw [hdt] at h1
              have h2 : Sl w' 1 (.slice va q vc) q (bv dat) := by rw [← hdl]; rw [← hdl] at h1; exact h1
              exact str_of h2
            have hi1 : (pre.length : Int) < (ks.length : Int) := by omega
            have hi2 : (pre.length : Int) < (Ls.length : Int) := by omega
            have hi3 : (pre.length : Int) < (k : Int) := by have := HE.out; omega
            have hi4 : pre.length < k := by have := HE.out; omega
            clear hci hpk hdt hdl hq hbi
            generalize Ls[pre.length] = Lk at *
            gi_wp2
            refine wpIn_region_sp (fun _ => false) (fun w' => Mk W w') (by kernel_rfl) (by kernel_rfl) (by kernel_rfl) (mk_refl _) (fun _ _ => mk_trans) ?_
            intro D hD hne
            iterate 28 (first | (refine spk (by rfl) (by rfl) (by rfl) (fun K hK => ?_); go_big_quiet_op; first | (refine hK _ ?_; clear hK K) | (apply Exists.intro; refine ⟨fun _ => ?_, hK _ ?_⟩; (exact fun _ => rfl); clear hK K)) | (refine spq (by rfl) (by rfl) (fun K hK => ?_); apply Exists.intro; refine ⟨fun w' hw' => ?_, ?_⟩; (go_simp; exact rfl); (go_simp; refine hK _ ?_; clear hK K)))
            refine sp_nil ?_
            intro w9 hw9
            have HM9 := Lib.hid (hD.out _ hw9).1
            clear hw9 hD hne D l15 l9 li l3 l4 c1 c2 hck hmin q1
            have hS9 := HS.out.mk' HM9.out
            have HS9 := Lib.hid hS9
            have hc15 := hS9.b15.cell
            have hf15 := hS9.b15.frozen
            clear hS9
            gi_wp2
            refine ⟨(mk_keeps HM9.out).trans (KeepsOthers.setCell _ _ _),
              (mk_kp HM9.out HS.out.size).trans ⟨by simp, fun k h1 h2 => Below.heap_setCell _ _ _ _ (by show k ≠ g15; omega)⟩, ?_⟩
            have h9 := HS9.out.set (pre.length + 1)
            rw [show ((pre.length + 1 : Nat) : Int) = (pre.length : Int) + 1 from rfl] at h9
            dsimp only
            rw [show (pre ++ [(kk, dat, Value.slice da dat.length dc)]).length = pre.length + 1 by simp]
            exact h9
          · have hi3 : ¬ (pre.length : Int) < (k : Int) := by have := HE.out; omega
            have hi4 : ¬ pre.length < k := by have := HE.out; omega
            have hi5 : decide ((pre.length : Int) < (k : Int)) = false := by simp; omega
            have hi6 : decide (pre.length < k) = false := by simp; omega
            clear hi3 hi4
            gi_wp2
            refine wpIn_region_sp (fun _ => false) (fun w' => Mk W w') (by kernel_rfl) (by kernel_rfl) (by kernel_rfl) (mk_refl _) (fun _ _ => mk_trans) ?_
            intro D hD hne
            iterate 3 (first | (refine spk (by rfl) (by rfl) (by rfl) (fun K hK => ?_); go_big_quiet_op; first | (refine hK _ ?_; clear hK K) | (apply Exists.intro; refine ⟨fun _ => ?_, hK _ ?_⟩; (exact fun _ => rfl); clear hK K)) | (refine spq (by rfl) (by rfl) (fun K hK => ?_); apply Exists.intro; refine ⟨fun w' hw' => ?_, ?_⟩; (go_simp; exact rfl); (go_simp; refine hK _ ?_; clear hK K)))
            refine spk_skip 23 (by rfl) (by rfl) (by rfl) (fun K hK => ?_)
            go_big_quiet_op
            refine hK _ ?_ ?_
            · kernel_rfl
            clear hK K
            simp only [List.drop, skipAct]
            go_simp
            iterate 1 (first | (refine spk (by rfl) (by rfl) (by rfl) (fun K hK => ?_); go_big_quiet_op; first | (refine hK _ ?_; clear hK K) | (apply Exists.intro; refine ⟨fun _ => ?_, hK _ ?_⟩; (exact fun _ => rfl); clear hK K)) | (refine spq (by rfl) (by rfl) (fun K hK => ?_); apply Exists.intro; refine ⟨fun w' hw' => ?_, ?_⟩; (go_simp; exact rfl); (go_simp; refine hK _ ?_; clear hK K)))
            refine sp_nil ?_
            intro w9 hw9
            have HM9 := Lib.hid (hD.out _ hw9).1
            clear hw9 hD hne D l15 l9  q1
            have hS9 := HS.out.mk' HM9.out
            have HS9 := Lib.hid hS9
            have hc15 := hS9.b15.cell
            have hf15 := hS9.b15.frozen
            clear hS9
            gi_wp2
            refine ⟨(mk_keeps HM9.out).trans (KeepsOthers.setCell _ _ _),
              (mk_kp HM9.out HS.out.size).trans ⟨by simp, fun k h1 h2 => Below.heap_setCell _ _ _ _ (by show k ≠ g15; omega)⟩, ?_⟩
            have h9 := HS9.out.set (pre.length + 1)
            rw [show ((pre.length + 1 : Nat) : Int) = (pre.length : Int) + 1 from rfl] at h9
            dsimp only
            rw [show (pre ++ [(kk, dat, Value.slice da dat.length dc)]).length = pre.length + 1 by simp]
            exact h9
        case doneq2 =>
          rintro D ys W hD hSy hS hK
          have hys : ys.length = ps.length + (framesOf js).length := by
            have h1 : (ys.map key).length = ys.length := by simp
            rw [← h1, hSy, HBK.out, List.length_append]
          rw [hys, ← HE.out] at hS
          have hDl : D ≠ w.heap.size + 1 + 1 ∧ w.heap.size + 2 < D := by have := hsd.size; have := hsd.hgb; have := hsd.hg; have := hsd.fb.g; omega
          have HS := Lib.hid hS
          have HK := Lib.hid hK
          clear hS hK hSy hys hsd
          go_wp2_with fail
          refine (Get_any _ _ js (H2.out.mk HS.out.fb.made) (by omega)).mono ?_
          intro e w7 hp
          obtain ⟨hm, dv, _, rfl⟩ := get_out hp
          have HM7 := Lib.hid hm
          clear hm hp
          go_wp2_with fail
          refine (whole_any _ _ (B ++ js) (HS.out.hx.mk HM7.out) (by simp; omega)).mono ?_
          rintro e w8 ⟨rfl, hm⟩
          rw [HBK.out, wholeOf_append, ← HWL.out]
          have hS8 := HS.out.mk' (mk_trans HM7.out hm)
          have hK8 : w8.heap[D]? = some (.deferred (some [])) := ((mk_trans HM7.out hm).block D (Array.getElem?_eq_some_iff.1 HK.out).1).trans HK.out
          have hjc := junk_cases js
          have HS8 := Lib.hid hS8
          have HK8 := Lib.hid hK8
          have hc15 := hS8.b15.cell
          have hc9 := hS8.fb.b9.cell
          have hc6 := hS8.fb.b6.cell
          have hf6 := hS8.fb.b6.frozen
          clear hS8 hK8 hm
          generalize (framesOf js).length = f at *
          generalize wholeOf (framesOf js) = wf at *
          generalize gN js = N at *
          generalize gK js = K0 at *
          rcases hjc with ⟨rfl, rfl, rfl⟩ | ⟨hz1, hz2, hz3⟩
          · go_wp2_with fail
            exact one_mark rfl rfl ((Below.heap_setCell _ _ _ _ hDl.1).trans HK8.out) (HS8.out.fb.b6.set _) (HS8.out.fb.made.setCell (by show w.heap.size ≤ w.heap.size + 1 + 1; omega) _) (by omega) (fun e => hDl.1 e.symm)
          · have hy1 : (0 : Int) < (f : Int) := by omega
            have hy2 : (0 : Int) < (wf : Int) := by omega
            have hy3 : (0 : Int) < (N : Int) := by omega
            have hy4 : decide ((k : Int) < (k : Int) + (f : Int)) = true := by simp; omega
            have hy5 : decide ((B.length : Int) < (B.length : Int) + (wf : Int)) = true := by simp; omega
            go_wp2_with fail
            exact one_mark rfl rfl ((Below.heap_setCell _ _ _ _ hDl.1).trans HK8.out) (HS8.out.fb.b6.set _) (HS8.out.fb.made.setCell (by show w.heap.size ≤ w.heap.size + 1 + 1; omega) _) (by omega) (fun e => hDl.1 e.symm)
        case stopq2 =>
          rintro _ _ _ _ _ _ h _
          exact h.elim
end Go.Proofs.FrW
