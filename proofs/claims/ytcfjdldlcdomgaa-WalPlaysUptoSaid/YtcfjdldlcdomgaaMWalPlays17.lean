/- The walks of layer 5, frame: the statement FrameScans. -/
import Derived.Test.YtcfjdldlcdomgaaMWalPlays8
import Derived.Test.YtcfjdldlcdomgaaMWalPlays16
set_option linter.unusedVariables false
set_option linter.unusedSimpArgs false
namespace Go.Proofs.FrW
open Go Go.RowKit Go.Tk Go.Sp Go.Rg Go.Lib Go.Shelf
attribute [local go_sem] Oper.semAt_some

theorem Bx.kept {W W' : World} {g : Nat} {t : TypeId} {v : Value} {row : Option Nat} (h : Bx W g t v) (hg : W.grownBy W' row) (hne : row ≠ some g) : Bx W' g t v :=
  (hg.block g (Array.getElem?_eq_some_iff.1 h).1 fun e => hne e.symm).trans h

theorem sv_from {β : Type} (B : Nat) (w : World) (g : Nat) (hB : w.heap.size ≤ B) : OwnFrom B (fun (_ : β) W => w.grownBy W (some g)) := fun s W W' row hs hg hr =>
  grown_trans hs hg fun x hx => .inr (by have := (hr x hx).1; omega)
theorem keeps_own {W W' : World} {base n size : Nat} {e : TypeId} {v : Value} {xs : List Value} (ho : W.ownsRow base e size v n xs) (hg : W.grownBy W' v.ownBlock) : KeepsOthers W W' := by
  refine ⟨hg.size, fun k o hk hc => ?_⟩
  refine (hg.block k (Array.getElem?_eq_some_iff.1 hk).1 fun e2 => ?_).trans hk
  rcases ho.2 with ⟨hv, _⟩ | ⟨g, cap, cur, hv, _, hgg, _⟩
  · rw [hv] at e2; cases e2
  · rw [hv] at e2
    cases e2
    rw [hk] at hgg
    cases hgg
    cases hc
theorem mk_keeps {W W' : World} (h : Mk W W') : KeepsOthers W W' := ⟨h.size, fun k o hk _ => (h.block k (Array.getElem?_eq_some_iff.1 hk).1).trans hk⟩
/-- Frames as they lie in a list of frames, their lists in blocks from base to hi. -/
def EncB (W : World) (base hi : Nat) : List (UInt8 × List UInt8) → List Value → Prop
  | [], vs => vs = []
  | (k, d) :: l, vs => ∃ dv r, vs = .int .u8 (k.toNat : Int) :: dv :: r ∧ W.ownsRow base 5 1 dv d.length (bv d) ∧ (∀ k, dv.ownBlock = some k → k < hi) ∧ EncB W base hi l r
theorem EncF.toB {W : World} {base : Nat} {ob : Option Nat} : ∀ {l : List (UInt8 × List UInt8)} {vs : List Value}, EncF W base ob l vs → EncB W base W.heap.size l vs
  | [], _, h => h
  | (_, _) :: _, _, ⟨dv, r, h1, h2, _, h4⟩ => ⟨dv, r, h1, h2, fun k hk => (h2.lt k hk).2, EncF.toB h4⟩
theorem EncB.kept {W W' : World} {base hi : Nat} {row : Option Nat} (hg : W.grownBy W' row) (hr : ∀ r, row = some r → r < base ∨ hi ≤ r) : ∀ {l : List (UInt8 × List UInt8)} {vs : List Value}, EncB W base hi l vs → EncB W' base hi l vs
  | [], _, h => h
  | (_, _) :: _, _, ⟨dv, r, h1, h2, h3, h4⟩ => by
    refine ⟨dv, r, h1, h2.kept hg ?_, h3, EncB.kept hg hr h4⟩
    rcases e : dv.ownBlock with _ | k
    · exact .inl rfl
    · refine .inr fun e2 => ?_
      have a1 := (h2.lt k e).1
      have a2 := h3 k e
      rcases hr k e2.symm with h | h <;> omega
theorem EncB.at {W : World} {base hi : Nat} : ∀ {l : List (UInt8 × List UInt8)} {vs : List Value} (i : Nat) (h : i < l.length), EncB W base hi l vs →
    vs[i * 2]? = some (.int .u8 ((l[i]).1.toNat : Int)) ∧ ∃ dv, vs[i * 2 + 1]? = some dv ∧ W.ownsRow base 5 1 dv (l[i]).2.length (bv (l[i]).2)
  | [], _, i, hi, _ => by simp at hi
  | (k, d) :: l, _, 0, _, ⟨dv, r, h1, h2, _, _⟩ => by subst h1; exact ⟨rfl, dv, rfl, h2⟩
  | (k, d) :: l, _, i + 1, hi, ⟨dv, r, h1, _, _, h4⟩ => by
    subst h1
    have := EncB.at i (by simpa using hi) h4
    simp only [show (i + 1) * 2 = i * 2 + 1 + 1 by omega, List.getElem?_cons_succ, List.getElem_cons_succ]
    exact this
/-- What stands when a walk over the frames begins: the boxes, what Scan handed back, the document's frames. -/
structure Sc (w W : World) (gb g11 : Nat) (v1 fv : Value) (xs : List UInt8) (m i base : Nat) (vs : List Value) : Prop where
  made : Mk w W
  b3 : Bx W w.heap.size 3 (.int .i64 (m : Int))
  b4 : Bx W (w.heap.size + 1) 4 (.bool false)
  b11 : Bx W g11 40 fv
  b13 : Bx W (g11 + 1) 3 (.int .i64 (i : Int))
  hc : W.cell? ⟨gb, 0, none⟩ = some v1
  hv : Bs W v1 xs
  hgb : w.heap.size + 2 ≤ gb ∧ gb < g11
  hob : ∀ k, v1.ownBlock = some k → w.heap.size + 2 ≤ k ∧ k < g11
  hbase : w.heap.size + 2 ≤ base
  hfo : ∀ k, fv.ownBlock = some k → k < g11
  own : W.ownsRow base 44 2 fv (framesOf xs).length vs
  enc : EncB W base g11 (framesOf xs) vs
  size : g11 + 2 ≤ W.heap.size
theorem cell_kept {W W' : World} {g : Nat} {v : Value} {row : Option Nat} (h : W.cell? ⟨g, 0, none⟩ = some v) (hl : g < W.heap.size) (hg : W.grownBy W' row) (hne : row ≠ some g) : W'.cell? ⟨g, 0, none⟩ = some v := by
  have h2 : W'.heap[g]? = W.heap[g]? := hg.block g hl (fun e => hne e.symm)
  simp only [World.cell?] at h ⊢
  rw [h2]; exact h
section
variable {w W W' : World} {gb g11 : Nat} {v1 fv : Value} {xs : List UInt8} {m i base : Nat} {vs : List Value}
theorem Sc.kept (h : Sc w W gb g11 v1 fv xs m i base vs) {row : Option Nat} (hg : W.grownBy W' row) (hr : ∀ r, row = some r → g11 + 2 ≤ r) : Sc w W' gb g11 v1 fv xs m i base vs := by
  have hgb := h.hgb
  have hbase := h.hbase
  have hne : ∀ k, k < g11 + 2 → row ≠ some k := fun k hk e => by have := hr k e; omega
  have hob := h.hob
  refine ⟨mk_own' h.made (fun k e => by have := hr k e; omega) hg, h.b3.kept hg (hne _ (by omega)), h.b4.kept hg (hne _ (by omega)), h.b11.kept hg (hne _ (by omega)), h.b13.kept hg (hne _ (by omega)),
    cell_kept h.hc (by have := h.size; omega) hg (hne _ (by omega)), h.hv.grown hg ?_, hgb, h.hob, h.hbase, h.hfo, h.own.kept hg ?_, h.enc.kept hg (fun r e => .inr (by have := hr r e; omega)), by have := h.size; have := hg.size; omega⟩
  · rcases e : v1.ownBlock with _ | k
    · exact .inl rfl
    · exact .inr fun e2 => by have := (hob k e).2; have := hr k e2.symm; omega
  · rcases e : fv.ownBlock with _ | k
    · exact .inl rfl
    · exact .inr fun e2 => by have := h.hfo k e; have := hr k e2.symm; omega
theorem Sc.mk' (h : Sc w W gb g11 v1 fv xs m i base vs) (hm : Mk W W') : Sc w W' gb g11 v1 fv xs m i base vs := h.kept (mk_grown hm) (fun _ e => by cases e)
theorem set_grown (W : World) (g : Nat) (u : Value) : W.grownBy (W.setCell ⟨g, 0, none⟩ u) (some g) :=
  ⟨rfl, rfl, rfl, by simp, fun k _ hne => Below.heap_setCell _ _ _ _ (fun e => hne (by simp [e]))⟩
theorem Sc.set (h : Sc w W gb g11 v1 fv xs m i base vs) (j : Nat) : Sc w (W.setCell ⟨g11 + 1, 0, none⟩ (.int .i64 (j : Int))) gb g11 v1 fv xs m j base vs := by
  have hgb := h.hgb
  have hbase := h.hbase
  have hg := set_grown W (g11 + 1) (.int .i64 (j : Int))
  have hne : ∀ k, k < g11 + 1 → some (g11 + 1) ≠ some k := fun k hk e => by cases e; omega
  have hob := h.hob
  refine ⟨mk_own' h.made (fun k e => by cases e; omega) hg, h.b3.kept hg (hne _ (by omega)), h.b4.kept hg (hne _ (by omega)), h.b11.kept hg (hne _ (by omega)), h.b13.set _,
    cell_kept h.hc (by have := h.size; omega) hg (hne _ (by omega)), h.hv.grown hg ?_, hgb, h.hob, h.hbase, h.hfo, h.own.kept hg ?_, h.enc.kept hg (fun r e => by cases e; exact .inr (by omega)), by have := h.size; simp; omega⟩
  · rcases e : v1.ownBlock with _ | k
    · exact .inl rfl
    · exact .inr fun e2 => by have := (hob k e).2; cases e2; omega
  · rcases e : fv.ownBlock with _ | k
    · exact .inl rfl
    · exact .inr fun e2 => by have := h.hfo k e; cases e2; omega
theorem Sc.start0 {w7 W2 : World} (hm : Mk w w7) (hb4 : Bx w7 (w.heap.size + 1) 4 (.bool false)) (hc : w7.cell? ⟨gb, 0, none⟩ = some v1) (hv : Bs w7 v1 xs)
    (hgb : w.heap.size + 2 ≤ gb ∧ gb < w7.heap.size) (hob : ∀ k, v1.ownBlock = some k → w.heap.size + 2 ≤ k ∧ k < w7.heap.size) (hbase : w.heap.size + 2 ≤ base) (hsz : w.heap.size + 2 ≤ w7.heap.size)
    (ho : w7.ownsRow base 44 2 fv (framesOf xs).length vs) {ob : Option Nat} (he : EncF w7 base ob (framesOf xs) vs)
    (hg : (w7.alloc (.cells #[fv] 40)).grownBy W2 (some w.heap.size)) (hb3 : Bx W2 w.heap.size 3 (.int .i64 (m : Int))) (hs2 : W2.heap.size = w7.heap.size + 1) :
    Sc w (W2.alloc (.cells #[.int .i64 0] 3)) gb w7.heap.size v1 fv xs m 0 base vs := by
  have hA : Mk w7 (w7.alloc (.cells #[fv] 40)) := mk_alloc _ _
  have hB : Mk W2 (W2.alloc (.cells #[.int .i64 0] 3)) := mk_alloc _ _
  have hne : ∀ k, w.heap.size < k → some w.heap.size ≠ some k := fun k hk e => by cases e; omega
  have hbn : Bx (W2.alloc (.cells #[.int .i64 0] 3)) (w7.heap.size + 1) 3 (.int .i64 0) := by
    have := heap_alloc_new W2 (.cells #[.int .i64 0] 3)
    rw [hs2] at this; exact this
  refine ⟨mk_trans (mk_own' (mk_trans hm hA) (fun k e => by cases e; omega) hg) hB, hb3.mk hB, ((hb4.mk hA).kept hg (hne _ (by omega))).mk hB, (Bx.kept (heap_alloc_new w7 (.cells #[fv] 40)) hg (hne _ (by omega))).mk hB, hbn,
    cell_kept (cell_kept (cell_kept hc (by omega) (mk_grown hA) (by simp)) (by simp; omega) hg (hne _ (by omega))) (by omega) (mk_grown hB) (by simp), ((hv.mk hA).grown hg ?_).mk hB, hgb, hob, hbase, fun k hk => (ho.lt k hk).2,
    own_mk ((own_mk ho hA).kept hg ?_) hB, EncB.kept (mk_grown hB) (fun r e => by cases e) (EncB.kept hg (fun r e => by cases e; exact .inl (by omega)) (EncB.kept (mk_grown hA) (fun r e => by cases e) he.toB)), by simp; omega⟩
  · rcases e : v1.ownBlock with _ | k
    · exact .inl rfl
    · exact .inr fun e2 => by have := (hob k e).1; cases e2; omega
  · rcases e : fv.ownBlock with _ | k
    · exact .inl rfl
    · exact .inr fun e2 => by have := (ho.lt k e).1; cases e2; omega
theorem Sc.from {β : Type} (B : Nat) (hB : g11 + 2 ≤ B) (f : β → Nat) : OwnFrom B (fun (s : β) W => Sc w W gb g11 v1 fv xs m (f s) base vs) := fun s W W' row hs hg hr =>
  hs.kept hg fun r e => by have := (hr r e).1; omega
end

theorem results_cell_one {P : Program} {fn : Func} {p : Tmp} {ty : TypeId} (h : fn.results = #[.cell p ty]) (tmps : Array Value) (w : World) (g : Nat) (v : Value) (hp : tmps.getD p undef = .pointer (some ⟨g, 0, none⟩))
    (hl : (loadVar ty ⟨g, 0, none⟩).run P w = .ok v w) : (results fn tmps).run P w = .ok v w := by
  have hp' : tmps[p]?.getD undef = .pointer (some ⟨g, 0, none⟩) := by simpa using hp
  simp [results, h, hp', asAddr, hl]
theorem load_bool {W : World} {g : Nat} {b : Bool} (h : Bx W g 4 (.bool b)) : (loadVar 4 ⟨g, 0, none⟩).run Try.prog W = .ok (.bool b) W := by
  have hc := h.cell
  go_simp
/-- Two ranges' marks at the end of a function that hands back a variable. -/
theorem two_marks {tmps : Array Value} {fn : Func} {w W : World} {D D2 g : Nat} {p : Tmp} (hf : fn.results = #[.cell p 4]) (hp : tmps.getD p undef = .pointer (some ⟨g, 0, none⟩))
    (k4 : W.heap[D2]? = some (.deferred (some []))) (k3 : W.heap[D]? = some (.deferred (some []))) (b4 : Bx W g 4 (.bool true)) (hm : Mk w W) (h1 : w.heap.size ≤ D) (h2 : w.heap.size ≤ D2) (h3 : D ≠ D2) (h4 : g ≠ D) (h5 : g ≠ D2) :
    bodyPostM Fence.wide 0 Try.prog fn (fun e w' => e = .returned (.bool true) ∧ Mk w w') .ret { tmps := tmps, defers := [{ target := .collected D2, args := #[] }, { target := .collected D, args := #[] }] } W := by
  refine ⟨by simp, .inl ⟨_, _, rfl, run_takeDeferred k4, ⟨by simp, .inl ⟨_, _, rfl, run_takeDeferred ((World.putObj_heap_other h3).trans k3), ?_⟩⟩⟩⟩
  refine ⟨_, results_cell_one hf _ _ g (.bool true) hp (load_bool ((World.putObj_heap_other h4).trans ((World.putObj_heap_other h5).trans b4))), rfl, ?_⟩
  have hm2 := hm.grown (grownBy_putObj' W D2 (.deferred none)) hm.size (fun k e => by cases e; omega)
  exact hm2.grown (grownBy_putObj' _ D _) hm2.size (fun k e => by cases e; omega)

set_option maxRecDepth 100000 in
theorem fn_ne (gb : Nat) (W : World) : (binOp .eql 38 (.func (.func 82) #[] #[.pointer (some ⟨gb, 0, none⟩)]) .nilFunc).run Try.prog W = .ok (.bool false) W := by kernel_rfl

set_option maxHeartbeats 4000000 in
set_option maxRecDepth 100000 in
theorem frameScans_any (w : World) (v : Value) (xs : List UInt8) (h : Bs w v xs) (hb : xs.length ≤ 1048576) (stop : Int) (hs : (Lit.int .i64 stop).wf = true) :
    Calls Try.prog 5 #[v, .int .i64 stop] w fun e w' => e = .returned (.bool true) ∧ Mk w w' := by
  obtain ⟨a, cap, rfl, hc1, hc2⟩ := h.form
  have H := Lib.hid h
  obtain ⟨hs1, hs2⟩ := i64_of hs
  clear h hc1 hc2 hs
  refine calls_of_marks Try.func5 rfl ?_
  simp only [Try.ntmps5, List.size_toArray, List.length_cons, List.length_nil, Nat.reduceAdd, Nat.reduceSub, Array.replicate_succ, Array.replicate_zero, List.push_toArray, List.append_toArray, List.nil_append, List.cons_append]
  go_wp2_with fail
  obtain ⟨w0, hw0⟩ : ∃ w0, (w.alloc (.cells #[.int .i64 stop] 3)).alloc (.cells #[.bool false] 4) = w0 := ⟨_, rfl⟩
  have hB3 : Bx w0 w.heap.size 3 (.int .i64 stop) := by
    rw [← hw0]; exact Bx.mk (heap_alloc_new w _) (mk_alloc _ _)
  have hB4 : Bx w0 (w.heap.size + 1) 4 (.bool false) := by
    have := heap_alloc_new (w.alloc (.cells #[.int .i64 stop] 3)) (.cells #[.bool false] 4)
    rw [← hw0]; simpa [Bx] using this
  have hM0 : Mk w w0 := by rw [← hw0]; exact mk_trans (mk_alloc _ _) (mk_alloc _ _)
  have hS0 : w0.heap.size = w.heap.size + 2 := by rw [← hw0]; simp
  rw [hw0]
  have HB3 := Lib.hid hB3
  have HB4 := Lib.hid hB4
  have HM0 := Lib.hid hM0
  have HS0 := Lib.hid hS0
  clear hB3 hB4 hM0 hS0 hw0
  refine (shown_any _).mono ?_
  rintro e w1 ⟨rfl, hm⟩
  have HM1 := Lib.hid (mk_trans HM0.out hm)
  have HM01 := Lib.hid hm
  clear hm
  go_wp2_with fail
  refine (lent_any w1 _ xs (H.out.mk HM1.out) (by omega)).mono ?_
  rintro e w2 ⟨g2, rfl, ho, hm⟩
  have HO2 := Lib.hid ho
  have HM2 := Lib.hid (mk_trans HM1.out hm)
  have HM02 := Lib.hid (mk_trans HM01.out hm)
  have HXL := Lib.hid (bs_of (xs := xs ++ List.replicate 8 201) (own_sl HO2.out) (by simp))
  have HX := Lib.hid (show Bs w2 (.slice (some ⟨g2, 0, none⟩) xs.length (xs.length + 8)) xs by simpa using Sl.taken HXL.out xs.length (by simp))
  clear ho hm
  go_wp2_with fail
  refine (whole_any _ _ xs HX.out (by omega)).mono ?_
  rintro e w3 ⟨rfl, hm⟩
  have HM23 := Lib.hid hm
  clear hm
  go_wp2_with fail
  refine (scan_any _ _ xs (HX.out.mk HM23.out) (by omega)).mono ?_
  rintro e w4 ⟨gb, v1, rfl, hcl, hbs, hgb, hob, hm⟩
  have HC4 := Lib.hid hcl
  have HS4 := Lib.hid hbs
  have HGB := Lib.hid hgb
  have HOB := Lib.hid hob
  have HM24 := Lib.hid (mk_trans HM23.out hm)
  clear hcl hbs hgb hob hm
  go_wp2_with fail
  refine (still_any _ _ _ (xs ++ List.replicate 8 201) xs (HXL.out.mk HM24.out) (H.out.mk (mk_trans HM2.out HM24.out)) (by simp; omega) (by omega) rfl).mono ?_
  rintro e w5 ⟨rfl, hm⟩
  have HM25 := Lib.hid (mk_trans HM24.out hm)
  have HM45 := Lib.hid hm
  clear hm
  go_wp2_with fail
  go_loopw [10] (fun i wr => ∃ (k : Nat) (ys : List UInt8), k ≤ xs.length + 8 ∧ ys.length = xs.length + 8 ∧ i = .int .i64 k ∧ wr.ownsRow w1.heap.size 5 1 (.slice (some ⟨g2, 0, none⟩) (xs.length + 8) (xs.length + 8)) (xs.length + 8) (bv ys) ∧ w5.grownBy wr (some g2)) (fun i _ => xs.length + 8 - (intOf i).toNat)
  case atStart => exact ⟨0, xs ++ List.replicate 8 201, by omega, by simp, rfl, own_mk HO2.out HM25.out, grown_refl _ _⟩
  case round =>
    obtain ⟨k, ys, hk, hyl, rfl, ho, hg⟩ := hrel
    have HO := Lib.hid ho
    have HG := Lib.hid hg
    have HYL := Lib.hid hyl
    clear ho hg hyl
    by_cases hlt : k < xs.length + 8
    · obtain ⟨c0, hcell⟩ : ∃ c0, wr.cell? ⟨g2, k, none⟩ = some c0 := ⟨_, own_cell HO.out k (by rw [HYL.out]; omega) HYL.out⟩
      have hfro := HO.out.frozenAt k
      go_wp2_with fail
      go_roundw
      case rel => exact ⟨k + 1, ys.set k 5, by omega, by simp [HYL.out], by go_num, own_store HO.out k 5, grown_trans HG.out (HO.out.stored k _).2 (fun x hx => .inl (by cases hx; rfl))⟩
      case measure => simp [intOf]; omega
    · have e : k = xs.length + 8 := by omega
      subst e
      go_wp2_with fail
      have hgl : w1.heap.size ≤ g2 ∧ g2 < w2.heap.size := HO2.out.lt g2 rfl
      have hsz := And.intro HS0.out (And.intro HM01.out.size (And.intro HM23.out.size HM45.out.size))
      have hMr : Mk w wr := mk_own' (mk_trans HM2.out HM25.out) (fun k e => by cases e; have := HM1.out.size; omega) HG.out
      have hBr3 : Bx wr w.heap.size 3 (.int .i64 stop) := (HB3.out.mk (mk_trans HM02.out HM25.out)).kept HG.out (fun e => by cases e; omega)
      have hBr4 : Bx wr (w.heap.size + 1) 4 (.bool false) := (HB4.out.mk (mk_trans HM02.out HM25.out)).kept HG.out (fun e => by cases e; omega)
      have hCr : wr.cell? ⟨gb, 0, none⟩ = some v1 := by
        have h1 : w5.cell? ⟨gb, 0, none⟩ = some v1 := (HM45.out.cell (p := ⟨gb, 0, none⟩) HGB.out.2).trans HC4.out
        have h2 : wr.heap[gb]? = w5.heap[gb]? := HG.out.block gb (by have := HGB.out.2; omega) (fun e => by cases e; have := HGB.out.1; omega)
        simp only [World.cell?] at h1 ⊢
        rw [h2]; exact h1
      have hVr : Bs wr v1 xs := (HS4.out.mk HM45.out).grown HG.out (by
        rcases e : v1.ownBlock with _ | k
        · exact .inl rfl
        · refine .inr fun e2 => ?_
          cases e2
          have := (HOB.out _ e).1
          omega)
      have hgbr : gb < wr.heap.size := by have := HGB.out.2; have := HG.out.size; omega
      have hobr : ∀ k, v1.ownBlock = some k → k < wr.heap.size := fun k hk => by have := (HOB.out k hk).2; have := HG.out.size; omega
      have hgb2 : w.heap.size + 2 ≤ gb := by have := HGB.out.1; omega
      have hob2 : ∀ k, v1.ownBlock = some k → w.heap.size + 2 ≤ k := fun k hk => by have := (HOB.out k hk).1; omega
      have HMr := Lib.hid hMr
      have HBr3 := Lib.hid hBr3
      have HBr4 := Lib.hid hBr4
      have HCr := Lib.hid hCr
      have HVr := Lib.hid hVr
      have HOBr := Lib.hid (show ∀ k, v1.ownBlock = some k → w.heap.size + 2 ≤ k ∧ k < wr.heap.size from fun k hk => ⟨hob2 k hk, hobr k hk⟩)
      have HGBr := Lib.hid (And.intro hgb2 hgbr)
      have hwr : w.heap.size + 2 ≤ wr.heap.size := by omega
      clear hMr hBr3 hBr4 hCr hVr hgbr hobr hgb2 hob2 hgl hsz HB3 HB4 HM0 HS0 HM1 HM01 HO2 HM2 HM02 HXL HX HM23 HC4 HS4 HGB HOB HM24 HM25 HM45 HO HG HYL hk hlt
      refine (scanR_any _ _ xs (H.out.mk HMr.out) (by omega)).mono ?_
      rintro e w7 ⟨fv, vs, rfl, ho, he, hm⟩
      obtain ⟨fa, fc, rfl, hfc1, hfc2⟩ := (own_sl ho).form
      have HOF := Lib.hid ho
      have HEF := Lib.hid he
      have HM7 := Lib.hid hm
      clear ho he hm
      have hLn : (framesOf xs).length ≤ 1048576 := by
        have := wholeOf_le _ xs (Nat.le_refl _)
        have h2 : ∀ l : List (UInt8 × List UInt8), l.length ≤ wholeOf l := by
          intro l
          induction l with
          | nil => simp
          | cons p l ih => simp [wholeOf]; omega
        have := h2 (framesOf xs)
        omega
      have kn := fn_ne gb
      have hB37 : Bx (w7.alloc (.cells #[.slice fa (framesOf xs).length fc] 40)) w.heap.size 3 (.int .i64 stop) := HBr3.out.mk (mk_trans HM7.out (mk_alloc _ _))
      have hc37 := hB37.cell
      have hf37 := hB37.frozen
      have hstart := fun (m : Nat) (W2 : World) => Sc.start0 (m := m) (W2 := W2) (mk_trans HMr.out HM7.out) (HBr4.out.mk HM7.out) (cell_kept HCr.out HGBr.out.2 (mk_grown HM7.out) (by simp)) (HVr.out.mk HM7.out) ⟨HGBr.out.1, by have := HGBr.out.2; have := HM7.out.size; omega⟩
        (fun k hk => ⟨(HOBr.out k hk).1, by have := (HOBr.out k hk).2; have := HM7.out.size; omega⟩) hwr (by have := HM7.out.size; omega) HOF.out HEF.out
      have HST := Lib.hid hstart
      clear hstart hB37
      rcases turn_cases stop with ⟨hcn, m, em⟩ | ⟨hcn, m, em⟩
      · have hsc : Sc w (((w7.alloc (.cells #[.slice fa (framesOf xs).length fc] 40)).setCell ⟨w.heap.size, 0, none⟩ (.int .i64 (m : Int))).alloc (.cells #[.int .i64 0] 3)) gb w7.heap.size v1 (.slice fa (framesOf xs).length fc) xs m 0 wr.heap.size vs :=
          HST.out m _ (set_grown _ _ _) (Bx.set (HBr3.out.mk (mk_trans HM7.out (mk_alloc _ _))) _) (by simp)
        have HSC := Lib.hid hsc
        clear hsc
        go_wp2_with fail
        clear hc37 hf37 HBr3 HBr4 HCr HVr HOBr HGBr HOF HEF HST hwr hs1 hs2
        generalize ((w7.alloc (.cells #[.slice fa (framesOf xs).length fc] 40)).setCell ⟨w.heap.size, 0, none⟩ (.int .i64 (m : Int))).alloc (.cells #[.int .i64 0] 3) = w8 at *
        generalize w7.heap.size = g11 at *
        generalize wr.heap.size = base at *
        have hsc := HSC.out
        refine wp_range (gf := 82) (lb := #[.pointer (some ⟨gb, 0, none⟩)]) rfl (enters_of Try.func82 (by kernel_rfl) rfl)
          (scan1_seq w8 gb (w.heap.size + 2) g11 v1 xs hsc.hc hsc.hv hsc.hgb hsc.hob (by have := hsc.size; omega) (by omega)) (fun h k => h.trans k)
          (fun W l o hl => ⟨by simp, fun k _ h2 => World.putObj_heap_other (by have := hsc.size; omega)⟩) (fun _ => rfl) (own_from _)
          (fun pre W => Sc w W gb g11 v1 (.slice fa (framesOf xs).length fc) xs m pre.length base vs ∧ pre.length ≤ m % 8)
          (fun c pre W => c = .exit 2 ∧ ∃ i, i + 1 = pre.length ∧ i = m % 8 ∧ Sc w W gb g11 v1 (.slice fa (framesOf xs).length fc) xs m i base vs)
          (fun s W W' row hs hg hr => ⟨Sc.from _ hsc.size (fun pre => pre.length) s W W' row hs.1 hg hr, hs.2⟩)
          (fun c s W W' row hs hg hr => by
            obtain ⟨h1, i, h2, h3, h4⟩ := hs
            exact ⟨h1, i, h2, h3, Sc.from _ hsc.size (fun _ => i) s W W' row h4 hg hr⟩) ⟨hsc, by simp⟩ ?act ?assign ?body ?done ?stop
        case assign =>
          intro l x W K hK
          simp only [encI]
          gi_wp2
          exact hK
        case body =>
          rintro l pre ⟨k, dat, dv⟩ W ⟨hS, hle⟩ hnx hgi
          dsimp only at hgi ⊢
          obtain ⟨da, dc, hdv, hd1, hd2⟩ := (own_sl hgi).form
          dsimp only at hdv
          subst hdv
          obtain ⟨rest, hrest⟩ := hnx
          have hpl : pre.length < (framesOf xs).length := by rw [← hrest]; simp
          have hLk : (framesOf xs)[pre.length] = (k, dat) := by
            have h1 : (framesOf xs)[pre.length]? = some (k, dat) := by rw [← hrest]; simp [key]
            rw [List.getElem?_eq_getElem hpl] at h1
            exact Option.some.inj h1
          have hsm : dat.length ≤ 4194304 := frames_small _ xs (Nat.le_refl _) (k, dat) (by rw [← hrest]; simp [key])
          have hmt : (m : Int).tmod 8 = ((m % 8 : Nat) : Int) := (Int.ofNat_tmod m 8).symm
          have hc13 := hS.b13.cell
          have hf13 := hS.b13.frozen
          have hc3 := hS.b3.cell
          have HS := Lib.hid hS
          have HGI := Lib.hid hgi
          have HLK := Lib.hid hLk
          have HRest := Lib.hid hrest
          clear hS hgi hLk hrest hd2 hsc
          by_cases hlt : pre.length < m % 8
          · gi_wp2
            obtain ⟨gf, cf, hfe, _, _, _, _⟩ := own_form HS.out.own (by omega)
            have hfe' : fa = some ⟨gf, 0, none⟩ := by cases hfe; rfl
            subst hfe'
            have hat := EncB.at pre.length hpl HS.out.enc
            rw [HLK.out] at hat
            obtain ⟨hk0, dv2, hd0, hod2⟩ := hat
            dsimp only at hk0 hod2
            obtain ⟨da2, dc2, rfl, _, _⟩ := (own_sl hod2).form
            have hca := HS.out.own.cells (g := gf) rfl
            have q1 := @qAt_value Try.prog
            have l13 : ∀ w', Mk W w' → w'.cell? ⟨g11 + 1, 0, none⟩ = some (.int .i64 (pre.length : Int)) := fun w' h => (HS.out.b13.mk h).cell
            have l11 : ∀ w', Mk W w' → w'.cell? ⟨g11, 0, none⟩ = some (.slice (some ⟨gf, 0, none⟩) (framesOf xs).length fc) := fun w' h => (HS.out.b11.mk h).cell
            have lk : ∀ w', Mk W w' → w'.cell? ⟨gf, pre.length * 2, none⟩ = some (.int .u8 (k.toNat : Int)) := fun w' h => by
              have := (own_mk HS.out.own h).cells (g := gf) rfl _ _ hk0
              by_cases h0 : pre.length * 2 = 0 <;> simp_all [Addr.add]
            have ld : ∀ w', Mk W w' → w'.cell? ⟨gf, pre.length * 2 + 1, none⟩ = some (.slice da2 dat.length dc2) := fun w' h => by
              have := (own_mk HS.out.own h).cells (g := gf) rfl _ _ hd0
              simpa [Addr.add] using this
            have c1 : ∀ w', Mk W w' → (convert 22 9 (.slice da dat.length dc)).run Try.prog w' = .ok (.string ⟨dat.toArray⟩) w' := fun w' h => str_of (own_sl (own_mk HGI.out h))
            have c2 : ∀ w', Mk W w' → (convert 22 9 (.slice da2 dat.length dc2)).run Try.prog w' = .ok (.string ⟨dat.toArray⟩) w' := fun w' h => str_of (own_sl (own_mk hod2 h))
            clear hk0 hd0 hod2 hca hfe hc13 hf13 hc3
            have hn1 : ¬ (framesOf xs).length ≤ pre.length := by omega
            have hi0 : (pre.length : Int) < ((framesOf xs).length : Int) := by omega
            refine wpIn_region_sp (fun _ => false) (fun w' => Mk W w') (by kernel_rfl) (by kernel_rfl) (by kernel_rfl) (mk_refl _) (fun _ _ => mk_trans) ?_
            intro D hD hne
            iterate 24 (first | (refine spk (by rfl) (by rfl) (by rfl) (fun K hK => ?_); go_big_quiet_op; first | (refine hK _ ?_; clear hK K) | (apply Exists.intro; refine ⟨fun _ => ?_, hK _ ?_⟩; (exact fun _ => rfl); clear hK K)) | (refine spq (by rfl) (by rfl) (fun K hK => ?_); apply Exists.intro; refine ⟨fun w' hw' => ?_, ?_⟩; (go_simp; exact rfl); (go_simp; refine hK _ ?_; clear hK K)))
            refine sp_nil ?_
            intro w9 hw9
            have HM9 := Lib.hid (hD.out _ hw9).1
            clear hw9 hD hne D l13 l11 lk ld c1 c2 q1
            have HGI9 := Lib.hid (own_mk (own_base HGI.out (base' := g11 + 2) (by have := HSC.out.size; omega)) HM9.out)
            have hb9 : g11 + 2 ≤ w9.heap.size := by have := HS.out.size; have := HM9.out.size; omega
            gi_wp2_with (refine ⟨trivial, rfl, ?_⟩; gi_at_call 22; refine (CallsIn.inRound l (callsIn_wide.2 (full_any w9 _ _ dat 3 HGI9.out (by omega) hb9))).mono ?_; rintro e w10 ⟨u, rfl, ho, hg, hf⟩; obtain ⟨ua, uc, rfl, _, _⟩ := (own_sl ho).form; have HG10 := Lib.hid hg; have hS10 := (HS.out.mk' HM9.out).kept hg (own_lt HGI9.out); have HS10 := Lib.hid hS10; have hc13 := hS10.b13.cell; have hf13 := hS10.b13.frozen; clear ho hg hf hS10)
            refine ⟨((mk_keeps HM9.out).trans (keeps_own HGI9.out HG10.out)).trans (KeepsOthers.setCell _ _ _),
              ((mk_kp HM9.out (by have := HS.out.size; omega)).trans ⟨HG10.out.size, fun k h1 h2 => HG10.out.block k (by omega) (fun e => by have := own_lt HGI9.out k e.symm; omega)⟩).trans
                ⟨by simp, fun k h1 h2 => Below.heap_setCell _ _ _ _ (by show k ≠ g11 + 1; omega)⟩, ?_, by simp; omega⟩
            have := Sc.set HS10.out (pre.length + 1)
            simpa using this
          · have e : pre.length = m % 8 := by omega
            gi_wp2
            exact ⟨KeepsOthers.refl _, rfl, pre.length, by simp, e, HS.out⟩
        case done =>
          rintro D ys W hD hSy ⟨hS, hle⟩ hK
          have hys : ys.length = (framesOf xs).length := by rw [← hSy]; simp
          rw [hys] at hS hle
          obtain ⟨t, ht⟩ : ∃ t, m % 8 = t := ⟨_, rfl⟩
          have hmt : (m : Int).tmod 8 = (t : Int) := by rw [← ht]; exact (Int.ofNat_tmod m 8).symm
          rw [ht] at hle
          have hc13 := hS.b13.cell
          have hf13 := hS.b13.frozen
          have hc3 := hS.b3.cell
          have hc11 := hS.b11.cell
          have HS := Lib.hid hS
          have HK := Lib.hid hK
          clear hS hK hSy hys hsc ht
          rcases Nat.lt_or_eq_of_le hle with hlt | hlt
          · go_wp2_with fail
            have hS2 : Sc w (W.setCell ⟨g11 + 1, 0, none⟩ (.int .i64 0)) gb g11 v1 (.slice fa (framesOf xs).length fc) xs m 0 base vs := by
              have := Sc.set HS.out 0
              simpa using this
            have hK2 : (W.setCell ⟨g11 + 1, 0, none⟩ (.int .i64 0)).heap[D]? = some (.deferred (some [])) := (Below.heap_setCell _ _ _ _ (by show D ≠ g11 + 1; have := HSC.out.size; omega)).trans HK.out
            clear hc13 hf13 hc3 hc11
            generalize W.setCell ⟨g11 + 1, 0, none⟩ (.int .i64 0) = w12 at *
            refine wp_range (gf := 82) (lb := #[.pointer (some ⟨gb, 0, none⟩)]) rfl (enters_of Try.func82 (by kernel_rfl) rfl)
              (scan1_seq w12 gb (w.heap.size + 2) g11 v1 xs hS2.hc hS2.hv hS2.hgb hS2.hob (by have := hS2.size; omega) (by omega)) (fun h k => h.trans k)
              (fun W l o hl => ⟨by simp, fun k _ h2 => World.putObj_heap_other (by have := hS2.size; omega)⟩) (fun _ => rfl) (own_from _)
              (fun pre W => Sc w W gb g11 v1 (.slice fa (framesOf xs).length fc) xs m pre.length base vs ∧ W.heap[D]? = some (.deferred (some [])))
              (fun _ _ _ => False)
              (fun s W W' row hs hg hr => ⟨Sc.from _ hS2.size (fun pre => pre.length) s W W' row hs.1 hg hr, (hg.block D (Array.getElem?_eq_some_iff.1 hs.2).1 (fun e => by have := (hr D e.symm).1; have := (Array.getElem?_eq_some_iff.1 hK2).1; omega)).trans hs.2⟩)
              (fun _ _ _ _ _ h _ _ => h) ⟨hS2, hK2⟩ ?act2 ?assign2 ?body2 ?done2 ?stop2
            case assign2 =>
              intro l x W K hK
              simp only [encI]
              gi_wp2
              exact hK
            case body2 =>
              rintro l pre ⟨k, dat, dv⟩ W ⟨hS, hKD⟩ hnx hgi
              dsimp only at hgi ⊢
              obtain ⟨da, dc, hdv, hd1, hd2⟩ := (own_sl hgi).form
              dsimp only at hdv
              subst hdv
              obtain ⟨rest, hrest⟩ := hnx
              have hpl : pre.length < (framesOf xs).length := by rw [← hrest]; simp
              have hLk : (framesOf xs)[pre.length] = (k, dat) := by
                have h1 : (framesOf xs)[pre.length]? = some (k, dat) := by rw [← hrest]; simp [key]
                rw [List.getElem?_eq_getElem hpl] at h1
                exact Option.some.inj h1
              have HS3 := Lib.hid hS
              have HKD := Lib.hid hKD
              have HGI := Lib.hid hgi
              have HLK := Lib.hid hLk
              clear hS hgi hLk hrest hd2 hKD hK2
              obtain ⟨gf, cf, hfe, _, _, _, _⟩ := own_form HS3.out.own (by omega)
              have hfe' : fa = some ⟨gf, 0, none⟩ := by cases hfe; rfl
              subst hfe'
              have hat := EncB.at pre.length hpl HS3.out.enc
              rw [HLK.out] at hat
              obtain ⟨hk0, dv2, hd0, hod2⟩ := hat
              dsimp only at hk0 hod2
              obtain ⟨da2, dc2, rfl, _, _⟩ := (own_sl hod2).form
              have q1 := @qAt_value Try.prog
              have l13 : ∀ w', Mk W w' → w'.cell? ⟨g11 + 1, 0, none⟩ = some (.int .i64 (pre.length : Int)) := fun w' h => (HS3.out.b13.mk h).cell
              have l11 : ∀ w', Mk W w' → w'.cell? ⟨g11, 0, none⟩ = some (.slice (some ⟨gf, 0, none⟩) (framesOf xs).length fc) := fun w' h => (HS3.out.b11.mk h).cell
              have lk : ∀ w', Mk W w' → w'.cell? ⟨gf, pre.length * 2, none⟩ = some (.int .u8 (k.toNat : Int)) := fun w' h => by
                have := (own_mk HS3.out.own h).cells (g := gf) rfl _ _ hk0
                by_cases h0 : pre.length * 2 = 0 <;> simp_all [Addr.add]
              have ld : ∀ w', Mk W w' → w'.cell? ⟨gf, pre.length * 2 + 1, none⟩ = some (.slice da2 dat.length dc2) := fun w' h => by
                have := (own_mk HS3.out.own h).cells (g := gf) rfl _ _ hd0
                simpa [Addr.add] using this
              have c1 : ∀ w', Mk W w' → (convert 22 9 (.slice da dat.length dc)).run Try.prog w' = .ok (.string ⟨dat.toArray⟩) w' := fun w' h => str_of (own_sl (own_mk HGI.out h))
              have c2 : ∀ w', Mk W w' → (convert 22 9 (.slice da2 dat.length dc2)).run Try.prog w' = .ok (.string ⟨dat.toArray⟩) w' := fun w' h => str_of (own_sl (own_mk hod2 h))
              clear hk0 hd0 hod2 hfe
              have hn1 : ¬ (framesOf xs).length ≤ pre.length := by omega
              have hi0 : (pre.length : Int) < ((framesOf xs).length : Int) := by omega
              gi_wp2
              refine wpIn_region_sp (fun _ => false) (fun w' => Mk W w') (by kernel_rfl) (by kernel_rfl) (by kernel_rfl) (mk_refl _) (fun _ _ => mk_trans) ?_
              intro D2 hD2 hne
              iterate 24 (first | (refine spk (by rfl) (by rfl) (by rfl) (fun K hK => ?_); go_big_quiet_op; first | (refine hK _ ?_; clear hK K) | (apply Exists.intro; refine ⟨fun _ => ?_, hK _ ?_⟩; (exact fun _ => rfl); clear hK K)) | (refine spq (by rfl) (by rfl) (fun K hK => ?_); apply Exists.intro; refine ⟨fun w' hw' => ?_, ?_⟩; (go_simp; exact rfl); (go_simp; refine hK _ ?_; clear hK K)))
              refine sp_nil ?_
              intro w9 hw9
              have HM9 := Lib.hid (hD2.out _ hw9).1
              clear hw9 hD2 hne D2 l13 l11 lk ld c1 c2 q1
              have hS9 := HS3.out.mk' HM9.out
              have HS9 := Lib.hid hS9
              have hc13 := hS9.b13.cell
              have hf13 := hS9.b13.frozen
              clear hS9
              gi_wp2
              have hDl : D ≠ g11 + 1 := by have := HSC.out.size; omega
              refine ⟨(mk_keeps HM9.out).trans (KeepsOthers.setCell _ _ _),
                (mk_kp HM9.out (by have := HS3.out.size; omega)).trans ⟨by simp, fun k h1 h2 => Below.heap_setCell _ _ _ _ (by show k ≠ g11 + 1; omega)⟩, ?_,
                (Below.heap_setCell _ _ _ _ hDl).trans ((HM9.out.block D (Array.getElem?_eq_some_iff.1 HKD.out).1).trans HKD.out)⟩
              have := Sc.set HS9.out (pre.length + 1)
              simpa using this
            case done2 =>
              rintro D2 ys W2 hD2 hSy ⟨hS, hK3⟩ hK4
              have hys : ys.length = (framesOf xs).length := by rw [← hSy]; simp
              rw [hys] at hS
              have hc13 := hS.b13.cell
              have hc11 := hS.b11.cell
              have hc4 := hS.b4.cell
              have hf4 := hS.b4.frozen
              have HS3 := Lib.hid hS
              have HK3 := Lib.hid hK3
              have HK4 := Lib.hid hK4
              have hDlt : D < w12.heap.size := (Array.getElem?_eq_some_iff.1 hK2).1
              clear hS hK3 hK4 hSy hys hS2 hK2
              go_wp2_with fail
              have hl4 : w.heap.size + 1 < g11 := by have := HS3.out.hgb; omega
              have hg11 : g11 + 2 ≤ D := by have := HSC.out.size; omega
              have hm4 : Mk w (W2.setCell ⟨w.heap.size + 1, 0, none⟩ (.bool true)) := HS3.out.made.setCell (by show w.heap.size ≤ w.heap.size + 1; omega) _
              have k4 : (W2.setCell ⟨w.heap.size + 1, 0, none⟩ (.bool true)).heap[D2]? = some (.deferred (some [])) := (Below.heap_setCell _ _ _ _ (by show D2 ≠ w.heap.size + 1; omega)).trans HK4.out
              have k3 : (W2.setCell ⟨w.heap.size + 1, 0, none⟩ (.bool true)).heap[D]? = some (.deferred (some [])) := (Below.heap_setCell _ _ _ _ (by show D ≠ w.heap.size + 1; omega)).trans HK3.out
              have b4 := HS3.out.b4.set (.bool true)
              generalize W2.setCell ⟨w.heap.size + 1, 0, none⟩ (.bool true) = w13 at *
              exact two_marks rfl rfl k4 k3 b4 hm4 (by omega) (by omega) (by omega) (by omega) (by omega)
            case stop2 =>
              rintro _ _ _ _ _ _ h _
              exact h.elim
          · subst hlt
            go_wp2_with fail
            have hS2 : Sc w (W.setCell ⟨g11 + 1, 0, none⟩ (.int .i64 0)) gb g11 v1 (.slice fa (framesOf xs).length fc) xs m 0 base vs := by
              have := Sc.set HS.out 0
              simpa using this
            have hK2 : (W.setCell ⟨g11 + 1, 0, none⟩ (.int .i64 0)).heap[D]? = some (.deferred (some [])) := (Below.heap_setCell _ _ _ _ (by show D ≠ g11 + 1; have := HSC.out.size; omega)).trans HK.out
            clear hc13 hf13 hc3 hc11
            generalize W.setCell ⟨g11 + 1, 0, none⟩ (.int .i64 0) = w12 at *
            refine wp_range (gf := 82) (lb := #[.pointer (some ⟨gb, 0, none⟩)]) rfl (enters_of Try.func82 (by kernel_rfl) rfl)
              (scan1_seq w12 gb (w.heap.size + 2) g11 v1 xs hS2.hc hS2.hv hS2.hgb hS2.hob (by have := hS2.size; omega) (by omega)) (fun h k => h.trans k)
              (fun W l o hl => ⟨by simp, fun k _ h2 => World.putObj_heap_other (by have := hS2.size; omega)⟩) (fun _ => rfl) (own_from _)
              (fun pre W => Sc w W gb g11 v1 (.slice fa (framesOf xs).length fc) xs m pre.length base vs ∧ W.heap[D]? = some (.deferred (some [])))
              (fun _ _ _ => False)
              (fun s W W' row hs hg hr => ⟨Sc.from _ hS2.size (fun pre => pre.length) s W W' row hs.1 hg hr, (hg.block D (Array.getElem?_eq_some_iff.1 hs.2).1 (fun e => by have := (hr D e.symm).1; have := (Array.getElem?_eq_some_iff.1 hK2).1; omega)).trans hs.2⟩)
              (fun _ _ _ _ _ h _ _ => h) ⟨hS2, hK2⟩ ?act3 ?assign3 ?body3 ?done3 ?stop3
            case assign3 =>
              intro l x W K hK
              simp only [encI]
              gi_wp2
              exact hK
            case body3 =>
              rintro l pre ⟨k, dat, dv⟩ W ⟨hS, hKD⟩ hnx hgi
              dsimp only at hgi ⊢
              obtain ⟨da, dc, hdv, hd1, hd2⟩ := (own_sl hgi).form
              dsimp only at hdv
              subst hdv
              obtain ⟨rest, hrest⟩ := hnx
              have hpl : pre.length < (framesOf xs).length := by rw [← hrest]; simp
              have hLk : (framesOf xs)[pre.length] = (k, dat) := by
                have h1 : (framesOf xs)[pre.length]? = some (k, dat) := by rw [← hrest]; simp [key]
                rw [List.getElem?_eq_getElem hpl] at h1
                exact Option.some.inj h1
              have HS3 := Lib.hid hS
              have HKD := Lib.hid hKD
              have HGI := Lib.hid hgi
              have HLK := Lib.hid hLk
              clear hS hgi hLk hrest hd2 hKD hK2
              obtain ⟨gf, cf, hfe, _, _, _, _⟩ := own_form HS3.out.own (by omega)
              have hfe' : fa = some ⟨gf, 0, none⟩ := by cases hfe; rfl
              subst hfe'
              have hat := EncB.at pre.length hpl HS3.out.enc
              rw [HLK.out] at hat
              obtain ⟨hk0, dv2, hd0, hod2⟩ := hat
              dsimp only at hk0 hod2
              obtain ⟨da2, dc2, rfl, _, _⟩ := (own_sl hod2).form
              have q1 := @qAt_value Try.prog
              have l13 : ∀ w', Mk W w' → w'.cell? ⟨g11 + 1, 0, none⟩ = some (.int .i64 (pre.length : Int)) := fun w' h => (HS3.out.b13.mk h).cell
              have l11 : ∀ w', Mk W w' → w'.cell? ⟨g11, 0, none⟩ = some (.slice (some ⟨gf, 0, none⟩) (framesOf xs).length fc) := fun w' h => (HS3.out.b11.mk h).cell
              have lk : ∀ w', Mk W w' → w'.cell? ⟨gf, pre.length * 2, none⟩ = some (.int .u8 (k.toNat : Int)) := fun w' h => by
                have := (own_mk HS3.out.own h).cells (g := gf) rfl _ _ hk0
                by_cases h0 : pre.length * 2 = 0 <;> simp_all [Addr.add]
              have ld : ∀ w', Mk W w' → w'.cell? ⟨gf, pre.length * 2 + 1, none⟩ = some (.slice da2 dat.length dc2) := fun w' h => by
                have := (own_mk HS3.out.own h).cells (g := gf) rfl _ _ hd0
                simpa [Addr.add] using this
              have c1 : ∀ w', Mk W w' → (convert 22 9 (.slice da dat.length dc)).run Try.prog w' = .ok (.string ⟨dat.toArray⟩) w' := fun w' h => str_of (own_sl (own_mk HGI.out h))
              have c2 : ∀ w', Mk W w' → (convert 22 9 (.slice da2 dat.length dc2)).run Try.prog w' = .ok (.string ⟨dat.toArray⟩) w' := fun w' h => str_of (own_sl (own_mk hod2 h))
              clear hk0 hd0 hod2 hfe
              have hn1 : ¬ (framesOf xs).length ≤ pre.length := by omega
              have hi0 : (pre.length : Int) < ((framesOf xs).length : Int) := by omega
              gi_wp2
              refine wpIn_region_sp (fun _ => false) (fun w' => Mk W w') (by kernel_rfl) (by kernel_rfl) (by kernel_rfl) (mk_refl _) (fun _ _ => mk_trans) ?_
              intro D2 hD2 hne
              iterate 24 (first | (refine spk (by rfl) (by rfl) (by rfl) (fun K hK => ?_); go_big_quiet_op; first | (refine hK _ ?_; clear hK K) | (apply Exists.intro; refine ⟨fun _ => ?_, hK _ ?_⟩; (exact fun _ => rfl); clear hK K)) | (refine spq (by rfl) (by rfl) (fun K hK => ?_); apply Exists.intro; refine ⟨fun w' hw' => ?_, ?_⟩; (go_simp; exact rfl); (go_simp; refine hK _ ?_; clear hK K)))
              refine sp_nil ?_
              intro w9 hw9
              have HM9 := Lib.hid (hD2.out _ hw9).1
              clear hw9 hD2 hne D2 l13 l11 lk ld c1 c2 q1
              have hS9 := HS3.out.mk' HM9.out
              have HS9 := Lib.hid hS9
              have hc13 := hS9.b13.cell
              have hf13 := hS9.b13.frozen
              clear hS9
              gi_wp2
              have hDl : D ≠ g11 + 1 := by have := HSC.out.size; omega
              refine ⟨(mk_keeps HM9.out).trans (KeepsOthers.setCell _ _ _),
                (mk_kp HM9.out (by have := HS3.out.size; omega)).trans ⟨by simp, fun k h1 h2 => Below.heap_setCell _ _ _ _ (by show k ≠ g11 + 1; omega)⟩, ?_,
                (Below.heap_setCell _ _ _ _ hDl).trans ((HM9.out.block D (Array.getElem?_eq_some_iff.1 HKD.out).1).trans HKD.out)⟩
              have := Sc.set HS9.out (pre.length + 1)
              simpa using this
            case done3 =>
              rintro D2 ys W2 hD2 hSy ⟨hS, hK3⟩ hK4
              have hys : ys.length = (framesOf xs).length := by rw [← hSy]; simp
              rw [hys] at hS
              have hc13 := hS.b13.cell
              have hc11 := hS.b11.cell
              have hc4 := hS.b4.cell
              have hf4 := hS.b4.frozen
              have HS3 := Lib.hid hS
              have HK3 := Lib.hid hK3
              have HK4 := Lib.hid hK4
              have hDlt : D < w12.heap.size := (Array.getElem?_eq_some_iff.1 hK2).1
              clear hS hK3 hK4 hSy hys hS2 hK2
              go_wp2_with fail
              have hl4 : w.heap.size + 1 < g11 := by have := HS3.out.hgb; omega
              have hg11 : g11 + 2 ≤ D := by have := HSC.out.size; omega
              have hm4 : Mk w (W2.setCell ⟨w.heap.size + 1, 0, none⟩ (.bool true)) := HS3.out.made.setCell (by show w.heap.size ≤ w.heap.size + 1; omega) _
              have k4 : (W2.setCell ⟨w.heap.size + 1, 0, none⟩ (.bool true)).heap[D2]? = some (.deferred (some [])) := (Below.heap_setCell _ _ _ _ (by show D2 ≠ w.heap.size + 1; omega)).trans HK4.out
              have k3 : (W2.setCell ⟨w.heap.size + 1, 0, none⟩ (.bool true)).heap[D]? = some (.deferred (some [])) := (Below.heap_setCell _ _ _ _ (by show D ≠ w.heap.size + 1; omega)).trans HK3.out
              have b4 := HS3.out.b4.set (.bool true)
              generalize W2.setCell ⟨w.heap.size + 1, 0, none⟩ (.bool true) = w13 at *
              exact two_marks rfl rfl k4 k3 b4 hm4 (by omega) (by omega) (by omega) (by omega) (by omega)
            case stop3 =>
              rintro _ _ _ _ _ _ h _
              exact h.elim
        case stop =>
          rintro D c pre W hD hSp ⟨rfl, i, hi1, hi2, hS⟩ hK
          have hys : i < (framesOf xs).length := by
            have := hSp.length_le
            simp at this
            omega
          obtain ⟨t, ht⟩ : ∃ t, m % 8 = t := ⟨_, rfl⟩
          have hmt : (m : Int).tmod 8 = (t : Int) := by rw [← ht]; exact (Int.ofNat_tmod m 8).symm
          rw [ht] at hi2
          subst hi2
          have hc13 := hS.b13.cell
          have hf13 := hS.b13.frozen
          have hc3 := hS.b3.cell
          have hc11 := hS.b11.cell
          have HS := Lib.hid hS
          have HK := Lib.hid hK
          clear hS hK hSp hsc ht
          go_wp2_with fail
          have hS2 : Sc w (W.setCell ⟨g11 + 1, 0, none⟩ (.int .i64 0)) gb g11 v1 (.slice fa (framesOf xs).length fc) xs m 0 base vs := by
            have := Sc.set HS.out 0
            simpa using this
          have hK2 : (W.setCell ⟨g11 + 1, 0, none⟩ (.int .i64 0)).heap[D]? = some (.deferred (some [])) := (Below.heap_setCell _ _ _ _ (by show D ≠ g11 + 1; have := HSC.out.size; omega)).trans HK.out
          clear hc13 hf13 hc3 hc11
          generalize W.setCell ⟨g11 + 1, 0, none⟩ (.int .i64 0) = w12 at *
          refine wp_range (gf := 82) (lb := #[.pointer (some ⟨gb, 0, none⟩)]) rfl (enters_of Try.func82 (by kernel_rfl) rfl)
            (scan1_seq w12 gb (w.heap.size + 2) g11 v1 xs hS2.hc hS2.hv hS2.hgb hS2.hob (by have := hS2.size; omega) (by omega)) (fun h k => h.trans k)
            (fun W l o hl => ⟨by simp, fun k _ h2 => World.putObj_heap_other (by have := hS2.size; omega)⟩) (fun _ => rfl) (own_from _)
            (fun pre W => Sc w W gb g11 v1 (.slice fa (framesOf xs).length fc) xs m pre.length base vs ∧ W.heap[D]? = some (.deferred (some [])))
            (fun _ _ _ => False)
            (fun s W W' row hs hg hr => ⟨Sc.from _ hS2.size (fun pre => pre.length) s W W' row hs.1 hg hr, (hg.block D (Array.getElem?_eq_some_iff.1 hs.2).1 (fun e => by have := (hr D e.symm).1; have := (Array.getElem?_eq_some_iff.1 hK2).1; omega)).trans hs.2⟩)
            (fun _ _ _ _ _ h _ _ => h) ⟨hS2, hK2⟩ ?act4 ?assign4 ?body4 ?done4 ?stop4
          case assign4 =>
            intro l x W K hK
            simp only [encI]
            gi_wp2
            exact hK
          case body4 =>
            rintro l pre ⟨k, dat, dv⟩ W ⟨hS, hKD⟩ hnx hgi
            dsimp only at hgi ⊢
            obtain ⟨da, dc, hdv, hd1, hd2⟩ := (own_sl hgi).form
            dsimp only at hdv
            subst hdv
            obtain ⟨rest, hrest⟩ := hnx
            have hpl : pre.length < (framesOf xs).length := by rw [← hrest]; simp
            have hLk : (framesOf xs)[pre.length] = (k, dat) := by
              have h1 : (framesOf xs)[pre.length]? = some (k, dat) := by rw [← hrest]; simp [key]
              rw [List.getElem?_eq_getElem hpl] at h1
              exact Option.some.inj h1
            have HS3 := Lib.hid hS
            have HKD := Lib.hid hKD
            have HGI := Lib.hid hgi
            have HLK := Lib.hid hLk
            clear hS hgi hLk hrest hd2 hKD hK2
            obtain ⟨gf, cf, hfe, _, _, _, _⟩ := own_form HS3.out.own (by omega)
            have hfe' : fa = some ⟨gf, 0, none⟩ := by cases hfe; rfl
            subst hfe'
            have hat := EncB.at pre.length hpl HS3.out.enc
            rw [HLK.out] at hat
            obtain ⟨hk0, dv2, hd0, hod2⟩ := hat
            dsimp only at hk0 hod2
            obtain ⟨da2, dc2, rfl, _, _⟩ := (own_sl hod2).form
            have q1 := @qAt_value Try.prog
            have l13 : ∀ w', Mk W w' → w'.cell? ⟨g11 + 1, 0, none⟩ = some (.int .i64 (pre.length : Int)) := fun w' h => (HS3.out.b13.mk h).cell
            have l11 : ∀ w', Mk W w' → w'.cell? ⟨g11, 0, none⟩ = some (.slice (some ⟨gf, 0, none⟩) (framesOf xs).length fc) := fun w' h => (HS3.out.b11.mk h).cell
            have lk : ∀ w', Mk W w' → w'.cell? ⟨gf, pre.length * 2, none⟩ = some (.int .u8 (k.toNat : Int)) := fun w' h => by
              have := (own_mk HS3.out.own h).cells (g := gf) rfl _ _ hk0
              by_cases h0 : pre.length * 2 = 0 <;> simp_all [Addr.add]
            have ld : ∀ w', Mk W w' → w'.cell? ⟨gf, pre.length * 2 + 1, none⟩ = some (.slice da2 dat.length dc2) := fun w' h => by
              have := (own_mk HS3.out.own h).cells (g := gf) rfl _ _ hd0
              simpa [Addr.add] using this
            have c1 : ∀ w', Mk W w' → (convert 22 9 (.slice da dat.length dc)).run Try.prog w' = .ok (.string ⟨dat.toArray⟩) w' := fun w' h => str_of (own_sl (own_mk HGI.out h))
            have c2 : ∀ w', Mk W w' → (convert 22 9 (.slice da2 dat.length dc2)).run Try.prog w' = .ok (.string ⟨dat.toArray⟩) w' := fun w' h => str_of (own_sl (own_mk hod2 h))
            clear hk0 hd0 hod2 hfe
            have hn1 : ¬ (framesOf xs).length ≤ pre.length := by omega
            have hi0 : (pre.length : Int) < ((framesOf xs).length : Int) := by omega
            gi_wp2
            refine wpIn_region_sp (fun _ => false) (fun w' => Mk W w') (by kernel_rfl) (by kernel_rfl) (by kernel_rfl) (mk_refl _) (fun _ _ => mk_trans) ?_
            intro D2 hD2 hne
            iterate 24 (first | (refine spk (by rfl) (by rfl) (by rfl) (fun K hK => ?_); go_big_quiet_op; first | (refine hK _ ?_; clear hK K) | (apply Exists.intro; refine ⟨fun _ => ?_, hK _ ?_⟩; (exact fun _ => rfl); clear hK K)) | (refine spq (by rfl) (by rfl) (fun K hK => ?_); apply Exists.intro; refine ⟨fun w' hw' => ?_, ?_⟩; (go_simp; exact rfl); (go_simp; refine hK _ ?_; clear hK K)))
            refine sp_nil ?_
            intro w9 hw9
            have HM9 := Lib.hid (hD2.out _ hw9).1
            clear hw9 hD2 hne D2 l13 l11 lk ld c1 c2 q1
            have hS9 := HS3.out.mk' HM9.out
            have HS9 := Lib.hid hS9
            have hc13 := hS9.b13.cell
            have hf13 := hS9.b13.frozen
            clear hS9
            gi_wp2
            have hDl : D ≠ g11 + 1 := by have := HSC.out.size; omega
            refine ⟨(mk_keeps HM9.out).trans (KeepsOthers.setCell _ _ _),
              (mk_kp HM9.out (by have := HS3.out.size; omega)).trans ⟨by simp, fun k h1 h2 => Below.heap_setCell _ _ _ _ (by show k ≠ g11 + 1; omega)⟩, ?_,
              (Below.heap_setCell _ _ _ _ hDl).trans ((HM9.out.block D (Array.getElem?_eq_some_iff.1 HKD.out).1).trans HKD.out)⟩
            have := Sc.set HS9.out (pre.length + 1)
            simpa using this
          case done4 =>
            rintro D2 ys W2 hD2 hSy ⟨hS, hK3⟩ hK4
            have hys : ys.length = (framesOf xs).length := by rw [← hSy]; simp
            rw [hys] at hS
            have hc13 := hS.b13.cell
            have hc11 := hS.b11.cell
            have hc4 := hS.b4.cell
            have hf4 := hS.b4.frozen
            have HS3 := Lib.hid hS
            have HK3 := Lib.hid hK3
            have HK4 := Lib.hid hK4
            have hDlt : D < w12.heap.size := (Array.getElem?_eq_some_iff.1 hK2).1
            clear hS hK3 hK4 hSy hys hS2 hK2
            go_wp2_with fail
            have hl4 : w.heap.size + 1 < g11 := by have := HS3.out.hgb; omega
            have hg11 : g11 + 2 ≤ D := by have := HSC.out.size; omega
            have hm4 : Mk w (W2.setCell ⟨w.heap.size + 1, 0, none⟩ (.bool true)) := HS3.out.made.setCell (by show w.heap.size ≤ w.heap.size + 1; omega) _
            have k4 : (W2.setCell ⟨w.heap.size + 1, 0, none⟩ (.bool true)).heap[D2]? = some (.deferred (some [])) := (Below.heap_setCell _ _ _ _ (by show D2 ≠ w.heap.size + 1; omega)).trans HK4.out
            have k3 : (W2.setCell ⟨w.heap.size + 1, 0, none⟩ (.bool true)).heap[D]? = some (.deferred (some [])) := (Below.heap_setCell _ _ _ _ (by show D ≠ w.heap.size + 1; omega)).trans HK3.out
            have b4 := HS3.out.b4.set (.bool true)
            generalize W2.setCell ⟨w.heap.size + 1, 0, none⟩ (.bool true) = w13 at *
            exact two_marks rfl rfl k4 k3 b4 hm4 (by omega) (by omega) (by omega) (by omega) (by omega)
          case stop4 =>
            rintro _ _ _ _ _ _ h _
            exact h.elim
      · have hsc : Sc w ((w7.alloc (.cells #[.slice fa (framesOf xs).length fc] 40)).alloc (.cells #[.int .i64 0] 3)) gb w7.heap.size v1 (.slice fa (framesOf xs).length fc) xs m 0 wr.heap.size vs :=
          HST.out m _ (grown_refl _ _) (by rw [← em]; exact HBr3.out.mk (mk_trans HM7.out (mk_alloc _ _))) (by simp)
        have HSC := Lib.hid hsc
        clear hsc
        go_wp2_with fail
        clear hc37 hf37 HBr3 HBr4 HCr HVr HOBr HGBr HOF HEF HST hwr hs1 hs2
        generalize (w7.alloc (.cells #[.slice fa (framesOf xs).length fc] 40)).alloc (.cells #[.int .i64 0] 3) = w8 at *
        generalize w7.heap.size = g11 at *
        generalize wr.heap.size = base at *
        have hsc := HSC.out
        refine wp_range (gf := 82) (lb := #[.pointer (some ⟨gb, 0, none⟩)]) rfl (enters_of Try.func82 (by kernel_rfl) rfl)
          (scan1_seq w8 gb (w.heap.size + 2) g11 v1 xs hsc.hc hsc.hv hsc.hgb hsc.hob (by have := hsc.size; omega) (by omega)) (fun h k => h.trans k)
          (fun W l o hl => ⟨by simp, fun k _ h2 => World.putObj_heap_other (by have := hsc.size; omega)⟩) (fun _ => rfl) (own_from _)
          (fun pre W => Sc w W gb g11 v1 (.slice fa (framesOf xs).length fc) xs m pre.length base vs ∧ pre.length ≤ m % 8)
          (fun c pre W => c = .exit 2 ∧ ∃ i, i + 1 = pre.length ∧ i = m % 8 ∧ Sc w W gb g11 v1 (.slice fa (framesOf xs).length fc) xs m i base vs)
          (fun s W W' row hs hg hr => ⟨Sc.from _ hsc.size (fun pre => pre.length) s W W' row hs.1 hg hr, hs.2⟩)
          (fun c s W W' row hs hg hr => by
            obtain ⟨h1, i, h2, h3, h4⟩ := hs
            exact ⟨h1, i, h2, h3, Sc.from _ hsc.size (fun _ => i) s W W' row h4 hg hr⟩) ⟨hsc, by simp⟩ ?actb ?assignb ?bodyb ?doneb ?stopb
        case assignb =>
          intro l x W K hK
          simp only [encI]
          gi_wp2
          exact hK
        case bodyb =>
          rintro l pre ⟨k, dat, dv⟩ W ⟨hS, hle⟩ hnx hgi
          dsimp only at hgi ⊢
          obtain ⟨da, dc, hdv, hd1, hd2⟩ := (own_sl hgi).form
          dsimp only at hdv
          subst hdv
          obtain ⟨rest, hrest⟩ := hnx
          have hpl : pre.length < (framesOf xs).length := by rw [← hrest]; simp
          have hLk : (framesOf xs)[pre.length] = (k, dat) := by
            have h1 : (framesOf xs)[pre.length]? = some (k, dat) := by rw [← hrest]; simp [key]
            rw [List.getElem?_eq_getElem hpl] at h1
            exact Option.some.inj h1
          have hsm : dat.length ≤ 4194304 := frames_small _ xs (Nat.le_refl _) (k, dat) (by rw [← hrest]; simp [key])
          have hmt : (m : Int).tmod 8 = ((m % 8 : Nat) : Int) := (Int.ofNat_tmod m 8).symm
          have hc13 := hS.b13.cell
          have hf13 := hS.b13.frozen
          have hc3 := hS.b3.cell
          have HS := Lib.hid hS
          have HGI := Lib.hid hgi
          have HLK := Lib.hid hLk
          have HRest := Lib.hid hrest
          clear hS hgi hLk hrest hd2 hsc
          by_cases hlt : pre.length < m % 8
          · gi_wp2
            obtain ⟨gf, cf, hfe, _, _, _, _⟩ := own_form HS.out.own (by omega)
            have hfe' : fa = some ⟨gf, 0, none⟩ := by cases hfe; rfl
            subst hfe'
            have hat := EncB.at pre.length hpl HS.out.enc
            rw [HLK.out] at hat
            obtain ⟨hk0, dv2, hd0, hod2⟩ := hat
            dsimp only at hk0 hod2
            obtain ⟨da2, dc2, rfl, _, _⟩ := (own_sl hod2).form
            have hca := HS.out.own.cells (g := gf) rfl
            have q1 := @qAt_value Try.prog
            have l13 : ∀ w', Mk W w' → w'.cell? ⟨g11 + 1, 0, none⟩ = some (.int .i64 (pre.length : Int)) := fun w' h => (HS.out.b13.mk h).cell
            have l11 : ∀ w', Mk W w' → w'.cell? ⟨g11, 0, none⟩ = some (.slice (some ⟨gf, 0, none⟩) (framesOf xs).length fc) := fun w' h => (HS.out.b11.mk h).cell
            have lk : ∀ w', Mk W w' → w'.cell? ⟨gf, pre.length * 2, none⟩ = some (.int .u8 (k.toNat : Int)) := fun w' h => by
              have := (own_mk HS.out.own h).cells (g := gf) rfl _ _ hk0
              by_cases h0 : pre.length * 2 = 0 <;> simp_all [Addr.add]
            have ld : ∀ w', Mk W w' → w'.cell? ⟨gf, pre.length * 2 + 1, none⟩ = some (.slice da2 dat.length dc2) := fun w' h => by
              have := (own_mk HS.out.own h).cells (g := gf) rfl _ _ hd0
              simpa [Addr.add] using this
            have c1 : ∀ w', Mk W w' → (convert 22 9 (.slice da dat.length dc)).run Try.prog w' = .ok (.string ⟨dat.toArray⟩) w' := fun w' h => str_of (own_sl (own_mk HGI.out h))
            have c2 : ∀ w', Mk W w' → (convert 22 9 (.slice da2 dat.length dc2)).run Try.prog w' = .ok (.string ⟨dat.toArray⟩) w' := fun w' h => str_of (own_sl (own_mk hod2 h))
            clear hk0 hd0 hod2 hca hfe hc13 hf13 hc3
            have hn1 : ¬ (framesOf xs).length ≤ pre.length := by omega
            have hi0 : (pre.length : Int) < ((framesOf xs).length : Int) := by omega
            refine wpIn_region_sp (fun _ => false) (fun w' => Mk W w') (by kernel_rfl) (by kernel_rfl) (by kernel_rfl) (mk_refl _) (fun _ _ => mk_trans) ?_
            intro D hD hne
            iterate 24 (first | (refine spk (by rfl) (by rfl) (by rfl) (fun K hK => ?_); go_big_quiet_op; first | (refine hK _ ?_; clear hK K) | (apply Exists.intro; refine ⟨fun _ => ?_, hK _ ?_⟩; (exact fun _ => rfl); clear hK K)) | (refine spq (by rfl) (by rfl) (fun K hK => ?_); apply Exists.intro; refine ⟨fun w' hw' => ?_, ?_⟩; (go_simp; exact rfl); (go_simp; refine hK _ ?_; clear hK K)))
            refine sp_nil ?_
            intro w9 hw9
            have HM9 := Lib.hid (hD.out _ hw9).1
            clear hw9 hD hne D l13 l11 lk ld c1 c2 q1
            have HGI9 := Lib.hid (own_mk (own_base HGI.out (base' := g11 + 2) (by have := HSC.out.size; omega)) HM9.out)
            have hb9 : g11 + 2 ≤ w9.heap.size := by have := HS.out.size; have := HM9.out.size; omega
            gi_wp2_with (refine ⟨trivial, rfl, ?_⟩; gi_at_call 22; refine (CallsIn.inRound l (callsIn_wide.2 (full_any w9 _ _ dat 3 HGI9.out (by omega) hb9))).mono ?_; rintro e w10 ⟨u, rfl, ho, hg, hf⟩; obtain ⟨ua, uc, rfl, _, _⟩ := (own_sl ho).form; have HG10 := Lib.hid hg; have hS10 := (HS.out.mk' HM9.out).kept hg (own_lt HGI9.out); have HS10 := Lib.hid hS10; have hc13 := hS10.b13.cell; have hf13 := hS10.b13.frozen; clear ho hg hf hS10)
            refine ⟨((mk_keeps HM9.out).trans (keeps_own HGI9.out HG10.out)).trans (KeepsOthers.setCell _ _ _),
              ((mk_kp HM9.out (by have := HS.out.size; omega)).trans ⟨HG10.out.size, fun k h1 h2 => HG10.out.block k (by omega) (fun e => by have := own_lt HGI9.out k e.symm; omega)⟩).trans
                ⟨by simp, fun k h1 h2 => Below.heap_setCell _ _ _ _ (by show k ≠ g11 + 1; omega)⟩, ?_, by simp; omega⟩
            have := Sc.set HS10.out (pre.length + 1)
            simpa using this
          · have e : pre.length = m % 8 := by omega
            gi_wp2
            exact ⟨KeepsOthers.refl _, rfl, pre.length, by simp, e, HS.out⟩
        case doneb =>
          rintro D ys W hD hSy ⟨hS, hle⟩ hK
          have hys : ys.length = (framesOf xs).length := by rw [← hSy]; simp
          rw [hys] at hS hle
          obtain ⟨t, ht⟩ : ∃ t, m % 8 = t := ⟨_, rfl⟩
          have hmt : (m : Int).tmod 8 = (t : Int) := by rw [← ht]; exact (Int.ofNat_tmod m 8).symm
          rw [ht] at hle
          have hc13 := hS.b13.cell
          have hf13 := hS.b13.frozen
          have hc3 := hS.b3.cell
          have hc11 := hS.b11.cell
          have HS := Lib.hid hS
          have HK := Lib.hid hK
          clear hS hK hSy hys hsc ht
          rcases Nat.lt_or_eq_of_le hle with hlt | hlt
          · go_wp2_with fail
            have hS2 : Sc w (W.setCell ⟨g11 + 1, 0, none⟩ (.int .i64 0)) gb g11 v1 (.slice fa (framesOf xs).length fc) xs m 0 base vs := by
              have := Sc.set HS.out 0
              simpa using this
            have hK2 : (W.setCell ⟨g11 + 1, 0, none⟩ (.int .i64 0)).heap[D]? = some (.deferred (some [])) := (Below.heap_setCell _ _ _ _ (by show D ≠ g11 + 1; have := HSC.out.size; omega)).trans HK.out
            clear hc13 hf13 hc3 hc11
            generalize W.setCell ⟨g11 + 1, 0, none⟩ (.int .i64 0) = w12 at *
            refine wp_range (gf := 82) (lb := #[.pointer (some ⟨gb, 0, none⟩)]) rfl (enters_of Try.func82 (by kernel_rfl) rfl)
              (scan1_seq w12 gb (w.heap.size + 2) g11 v1 xs hS2.hc hS2.hv hS2.hgb hS2.hob (by have := hS2.size; omega) (by omega)) (fun h k => h.trans k)
              (fun W l o hl => ⟨by simp, fun k _ h2 => World.putObj_heap_other (by have := hS2.size; omega)⟩) (fun _ => rfl) (own_from _)
              (fun pre W => Sc w W gb g11 v1 (.slice fa (framesOf xs).length fc) xs m pre.length base vs ∧ W.heap[D]? = some (.deferred (some [])))
              (fun _ _ _ => False)
              (fun s W W' row hs hg hr => ⟨Sc.from _ hS2.size (fun pre => pre.length) s W W' row hs.1 hg hr, (hg.block D (Array.getElem?_eq_some_iff.1 hs.2).1 (fun e => by have := (hr D e.symm).1; have := (Array.getElem?_eq_some_iff.1 hK2).1; omega)).trans hs.2⟩)
              (fun _ _ _ _ _ h _ _ => h) ⟨hS2, hK2⟩ ?act2b ?assign2b ?body2b ?done2b ?stop2b
            case assign2b =>
              intro l x W K hK
              simp only [encI]
              gi_wp2
              exact hK
            case body2b =>
              rintro l pre ⟨k, dat, dv⟩ W ⟨hS, hKD⟩ hnx hgi
              dsimp only at hgi ⊢
              obtain ⟨da, dc, hdv, hd1, hd2⟩ := (own_sl hgi).form
              dsimp only at hdv
              subst hdv
              obtain ⟨rest, hrest⟩ := hnx
              have hpl : pre.length < (framesOf xs).length := by rw [← hrest]; simp
              have hLk : (framesOf xs)[pre.length] = (k, dat) := by
                have h1 : (framesOf xs)[pre.length]? = some (k, dat) := by rw [← hrest]; simp [key]
                rw [List.getElem?_eq_getElem hpl] at h1
                exact Option.some.inj h1
              have HS3 := Lib.hid hS
              have HKD := Lib.hid hKD
              have HGI := Lib.hid hgi
              have HLK := Lib.hid hLk
              clear hS hgi hLk hrest hd2 hKD hK2
              obtain ⟨gf, cf, hfe, _, _, _, _⟩ := own_form HS3.out.own (by omega)
              have hfe' : fa = some ⟨gf, 0, none⟩ := by cases hfe; rfl
              subst hfe'
              have hat := EncB.at pre.length hpl HS3.out.enc
              rw [HLK.out] at hat
              obtain ⟨hk0, dv2, hd0, hod2⟩ := hat
              dsimp only at hk0 hod2
              obtain ⟨da2, dc2, rfl, _, _⟩ := (own_sl hod2).form
              have q1 := @qAt_value Try.prog
              have l13 : ∀ w', Mk W w' → w'.cell? ⟨g11 + 1, 0, none⟩ = some (.int .i64 (pre.length : Int)) := fun w' h => (HS3.out.b13.mk h).cell
              have l11 : ∀ w', Mk W w' → w'.cell? ⟨g11, 0, none⟩ = some (.slice (some ⟨gf, 0, none⟩) (framesOf xs).length fc) := fun w' h => (HS3.out.b11.mk h).cell
              have lk : ∀ w', Mk W w' → w'.cell? ⟨gf, pre.length * 2, none⟩ = some (.int .u8 (k.toNat : Int)) := fun w' h => by
                have := (own_mk HS3.out.own h).cells (g := gf) rfl _ _ hk0
                by_cases h0 : pre.length * 2 = 0 <;> simp_all [Addr.add]
              have ld : ∀ w', Mk W w' → w'.cell? ⟨gf, pre.length * 2 + 1, none⟩ = some (.slice da2 dat.length dc2) := fun w' h => by
                have := (own_mk HS3.out.own h).cells (g := gf) rfl _ _ hd0
                simpa [Addr.add] using this
              have c1 : ∀ w', Mk W w' → (convert 22 9 (.slice da dat.length dc)).run Try.prog w' = .ok (.string ⟨dat.toArray⟩) w' := fun w' h => str_of (own_sl (own_mk HGI.out h))
              have c2 : ∀ w', Mk W w' → (convert 22 9 (.slice da2 dat.length dc2)).run Try.prog w' = .ok (.string ⟨dat.toArray⟩) w' := fun w' h => str_of (own_sl (own_mk hod2 h))
              clear hk0 hd0 hod2 hfe
              have hn1 : ¬ (framesOf xs).length ≤ pre.length := by omega
              have hi0 : (pre.length : Int) < ((framesOf xs).length : Int) := by omega
              gi_wp2
              refine wpIn_region_sp (fun _ => false) (fun w' => Mk W w') (by kernel_rfl) (by kernel_rfl) (by kernel_rfl) (mk_refl _) (fun _ _ => mk_trans) ?_
              intro D2 hD2 hne
              iterate 24 (first | (refine spk (by rfl) (by rfl) (by rfl) (fun K hK => ?_); go_big_quiet_op; first | (refine hK _ ?_; clear hK K) | (apply Exists.intro; refine ⟨fun _ => ?_, hK _ ?_⟩; (exact fun _ => rfl); clear hK K)) | (refine spq (by rfl) (by rfl) (fun K hK => ?_); apply Exists.intro; refine ⟨fun w' hw' => ?_, ?_⟩; (go_simp; exact rfl); (go_simp; refine hK _ ?_; clear hK K)))
              refine sp_nil ?_
              intro w9 hw9
              have HM9 := Lib.hid (hD2.out _ hw9).1
              clear hw9 hD2 hne D2 l13 l11 lk ld c1 c2 q1
              have hS9 := HS3.out.mk' HM9.out
              have HS9 := Lib.hid hS9
              have hc13 := hS9.b13.cell
              have hf13 := hS9.b13.frozen
              clear hS9
              gi_wp2
              have hDl : D ≠ g11 + 1 := by have := HSC.out.size; omega
              refine ⟨(mk_keeps HM9.out).trans (KeepsOthers.setCell _ _ _),
                (mk_kp HM9.out (by have := HS3.out.size; omega)).trans ⟨by simp, fun k h1 h2 => Below.heap_setCell _ _ _ _ (by show k ≠ g11 + 1; omega)⟩, ?_,
                (Below.heap_setCell _ _ _ _ hDl).trans ((HM9.out.block D (Array.getElem?_eq_some_iff.1 HKD.out).1).trans HKD.out)⟩
              have := Sc.set HS9.out (pre.length + 1)
              simpa using this
            case done2b =>
              rintro D2 ys W2 hD2 hSy ⟨hS, hK3⟩ hK4
              have hys : ys.length = (framesOf xs).length := by rw [← hSy]; simp
              rw [hys] at hS
              have hc13 := hS.b13.cell
              have hc11 := hS.b11.cell
              have hc4 := hS.b4.cell
              have hf4 := hS.b4.frozen
              have HS3 := Lib.hid hS
              have HK3 := Lib.hid hK3
              have HK4 := Lib.hid hK4
              have hDlt : D < w12.heap.size := (Array.getElem?_eq_some_iff.1 hK2).1
              clear hS hK3 hK4 hSy hys hS2 hK2
              go_wp2_with fail
              have hl4 : w.heap.size + 1 < g11 := by have := HS3.out.hgb; omega
              have hg11 : g11 + 2 ≤ D := by have := HSC.out.size; omega
              have hm4 : Mk w (W2.setCell ⟨w.heap.size + 1, 0, none⟩ (.bool true)) := HS3.out.made.setCell (by show w.heap.size ≤ w.heap.size + 1; omega) _
              have k4 : (W2.setCell ⟨w.heap.size + 1, 0, none⟩ (.bool true)).heap[D2]? = some (.deferred (some [])) := (Below.heap_setCell _ _ _ _ (by show D2 ≠ w.heap.size + 1; omega)).trans HK4.out
              have k3 : (W2.setCell ⟨w.heap.size + 1, 0, none⟩ (.bool true)).heap[D]? = some (.deferred (some [])) := (Below.heap_setCell _ _ _ _ (by show D ≠ w.heap.size + 1; omega)).trans HK3.out
              have b4 := HS3.out.b4.set (.bool true)
              generalize W2.setCell ⟨w.heap.size + 1, 0, none⟩ (.bool true) = w13 at *
              exact two_marks rfl rfl k4 k3 b4 hm4 (by omega) (by omega) (by omega) (by omega) (by omega)
            case stop2b =>
              rintro _ _ _ _ _ _ h _
              exact h.elim
          · subst hlt
            go_wp2_with fail
            have hS2 : Sc w (W.setCell ⟨g11 + 1, 0, none⟩ (.int .i64 0)) gb g11 v1 (.slice fa (framesOf xs).length fc) xs m 0 base vs := by
              have := Sc.set HS.out 0
              simpa using this
            have hK2 : (W.setCell ⟨g11 + 1, 0, none⟩ (.int .i64 0)).heap[D]? = some (.deferred (some [])) := (Below.heap_setCell _ _ _ _ (by show D ≠ g11 + 1; have := HSC.out.size; omega)).trans HK.out
            clear hc13 hf13 hc3 hc11
            generalize W.setCell ⟨g11 + 1, 0, none⟩ (.int .i64 0) = w12 at *
            refine wp_range (gf := 82) (lb := #[.pointer (some ⟨gb, 0, none⟩)]) rfl (enters_of Try.func82 (by kernel_rfl) rfl)
              (scan1_seq w12 gb (w.heap.size + 2) g11 v1 xs hS2.hc hS2.hv hS2.hgb hS2.hob (by have := hS2.size; omega) (by omega)) (fun h k => h.trans k)
              (fun W l o hl => ⟨by simp, fun k _ h2 => World.putObj_heap_other (by have := hS2.size; omega)⟩) (fun _ => rfl) (own_from _)
              (fun pre W => Sc w W gb g11 v1 (.slice fa (framesOf xs).length fc) xs m pre.length base vs ∧ W.heap[D]? = some (.deferred (some [])))
              (fun _ _ _ => False)
              (fun s W W' row hs hg hr => ⟨Sc.from _ hS2.size (fun pre => pre.length) s W W' row hs.1 hg hr, (hg.block D (Array.getElem?_eq_some_iff.1 hs.2).1 (fun e => by have := (hr D e.symm).1; have := (Array.getElem?_eq_some_iff.1 hK2).1; omega)).trans hs.2⟩)
              (fun _ _ _ _ _ h _ _ => h) ⟨hS2, hK2⟩ ?act3b ?assign3b ?body3b ?done3b ?stop3b
            case assign3b =>
              intro l x W K hK
              simp only [encI]
              gi_wp2
              exact hK
            case body3b =>
              rintro l pre ⟨k, dat, dv⟩ W ⟨hS, hKD⟩ hnx hgi
              dsimp only at hgi ⊢
              obtain ⟨da, dc, hdv, hd1, hd2⟩ := (own_sl hgi).form
              dsimp only at hdv
              subst hdv
              obtain ⟨rest, hrest⟩ := hnx
              have hpl : pre.length < (framesOf xs).length := by rw [← hrest]; simp
              have hLk : (framesOf xs)[pre.length] = (k, dat) := by
                have h1 : (framesOf xs)[pre.length]? = some (k, dat) := by rw [← hrest]; simp [key]
                rw [List.getElem?_eq_getElem hpl] at h1
                exact Option.some.inj h1
              have HS3 := Lib.hid hS
              have HKD := Lib.hid hKD
              have HGI := Lib.hid hgi
              have HLK := Lib.hid hLk
              clear hS hgi hLk hrest hd2 hKD hK2
              obtain ⟨gf, cf, hfe, _, _, _, _⟩ := own_form HS3.out.own (by omega)
              have hfe' : fa = some ⟨gf, 0, none⟩ := by cases hfe; rfl
              subst hfe'
              have hat := EncB.at pre.length hpl HS3.out.enc
              rw [HLK.out] at hat
              obtain ⟨hk0, dv2, hd0, hod2⟩ := hat
              dsimp only at hk0 hod2
              obtain ⟨da2, dc2, rfl, _, _⟩ := (own_sl hod2).form
              have q1 := @qAt_value Try.prog
              have l13 : ∀ w', Mk W w' → w'.cell? ⟨g11 + 1, 0, none⟩ = some (.int .i64 (pre.length : Int)) := fun w' h => (HS3.out.b13.mk h).cell
              have l11 : ∀ w', Mk W w' → w'.cell? ⟨g11, 0, none⟩ = some (.slice (some ⟨gf, 0, none⟩) (framesOf xs).length fc) := fun w' h => (HS3.out.b11.mk h).cell
              have lk : ∀ w', Mk W w' → w'.cell? ⟨gf, pre.length * 2, none⟩ = some (.int .u8 (k.toNat : Int)) := fun w' h => by
                have := (own_mk HS3.out.own h).cells (g := gf) rfl _ _ hk0
                by_cases h0 : pre.length * 2 = 0 <;> simp_all [Addr.add]
              have ld : ∀ w', Mk W w' → w'.cell? ⟨gf, pre.length * 2 + 1, none⟩ = some (.slice da2 dat.length dc2) := fun w' h => by
                have := (own_mk HS3.out.own h).cells (g := gf) rfl _ _ hd0
                simpa [Addr.add] using this
              have c1 : ∀ w', Mk W w' → (convert 22 9 (.slice da dat.length dc)).run Try.prog w' = .ok (.string ⟨dat.toArray⟩) w' := fun w' h => str_of (own_sl (own_mk HGI.out h))
              have c2 : ∀ w', Mk W w' → (convert 22 9 (.slice da2 dat.length dc2)).run Try.prog w' = .ok (.string ⟨dat.toArray⟩) w' := fun w' h => str_of (own_sl (own_mk hod2 h))
              clear hk0 hd0 hod2 hfe
              have hn1 : ¬ (framesOf xs).length ≤ pre.length := by omega
              have hi0 : (pre.length : Int) < ((framesOf xs).length : Int) := by omega
              gi_wp2
              refine wpIn_region_sp (fun _ => false) (fun w' => Mk W w') (by kernel_rfl) (by kernel_rfl) (by kernel_rfl) (mk_refl _) (fun _ _ => mk_trans) ?_
              intro D2 hD2 hne
              iterate 24 (first | (refine spk (by rfl) (by rfl) (by rfl) (fun K hK => ?_); go_big_quiet_op; first | (refine hK _ ?_; clear hK K) | (apply Exists.intro; refine ⟨fun _ => ?_, hK _ ?_⟩; (exact fun _ => rfl); clear hK K)) | (refine spq (by rfl) (by rfl) (fun K hK => ?_); apply Exists.intro; refine ⟨fun w' hw' => ?_, ?_⟩; (go_simp; exact rfl); (go_simp; refine hK _ ?_; clear hK K)))
              refine sp_nil ?_
              intro w9 hw9
              have HM9 := Lib.hid (hD2.out _ hw9).1
              clear hw9 hD2 hne D2 l13 l11 lk ld c1 c2 q1
              have hS9 := HS3.out.mk' HM9.out
              have HS9 := Lib.hid hS9
              have hc13 := hS9.b13.cell
              have hf13 := hS9.b13.frozen
              clear hS9
              gi_wp2
              have hDl : D ≠ g11 + 1 := by have := HSC.out.size; omega
              refine ⟨(mk_keeps HM9.out).trans (KeepsOthers.setCell _ _ _),
                (mk_kp HM9.out (by have := HS3.out.size; omega)).trans ⟨by simp, fun k h1 h2 => Below.heap_setCell _ _ _ _ (by show k ≠ g11 + 1; omega)⟩, ?_,
                (Below.heap_setCell _ _ _ _ hDl).trans ((HM9.out.block D (Array.getElem?_eq_some_iff.1 HKD.out).1).trans HKD.out)⟩
              have := Sc.set HS9.out (pre.length + 1)
              simpa using this
            case done3b =>
              rintro D2 ys W2 hD2 hSy ⟨hS, hK3⟩ hK4
              have hys : ys.length = (framesOf xs).length := by rw [← hSy]; simp
              rw [hys] at hS
              have hc13 := hS.b13.cell
              have hc11 := hS.b11.cell
              have hc4 := hS.b4.cell
              have hf4 := hS.b4.frozen
              have HS3 := Lib.hid hS
              have HK3 := Lib.hid hK3
              have HK4 := Lib.hid hK4
              have hDlt : D < w12.heap.size := (Array.getElem?_eq_some_iff.1 hK2).1
              clear hS hK3 hK4 hSy hys hS2 hK2
              go_wp2_with fail
              have hl4 : w.heap.size + 1 < g11 := by have := HS3.out.hgb; omega
              have hg11 : g11 + 2 ≤ D := by have := HSC.out.size; omega
              have hm4 : Mk w (W2.setCell ⟨w.heap.size + 1, 0, none⟩ (.bool true)) := HS3.out.made.setCell (by show w.heap.size ≤ w.heap.size + 1; omega) _
              have k4 : (W2.setCell ⟨w.heap.size + 1, 0, none⟩ (.bool true)).heap[D2]? = some (.deferred (some [])) := (Below.heap_setCell _ _ _ _ (by show D2 ≠ w.heap.size + 1; omega)).trans HK4.out
              have k3 : (W2.setCell ⟨w.heap.size + 1, 0, none⟩ (.bool true)).heap[D]? = some (.deferred (some [])) := (Below.heap_setCell _ _ _ _ (by show D ≠ w.heap.size + 1; omega)).trans HK3.out
              have b4 := HS3.out.b4.set (.bool true)
              generalize W2.setCell ⟨w.heap.size + 1, 0, none⟩ (.bool true) = w13 at *
              exact two_marks rfl rfl k4 k3 b4 hm4 (by omega) (by omega) (by omega) (by omega) (by omega)
            case stop3b =>
              rintro _ _ _ _ _ _ h _
              exact h.elim
        case stopb =>
          rintro D c pre W hD hSp ⟨rfl, i, hi1, hi2, hS⟩ hK
          have hys : i < (framesOf xs).length := by
            have := hSp.length_le
            simp at this
            omega
          obtain ⟨t, ht⟩ : ∃ t, m % 8 = t := ⟨_, rfl⟩
          have hmt : (m : Int).tmod 8 = (t : Int) := by rw [← ht]; exact (Int.ofNat_tmod m 8).symm
          rw [ht] at hi2
          subst hi2
          have hc13 := hS.b13.cell
          have hf13 := hS.b13.frozen
          have hc3 := hS.b3.cell
          have hc11 := hS.b11.cell
          have HS := Lib.hid hS
          have HK := Lib.hid hK
          clear hS hK hSp hsc ht
          go_wp2_with fail
          have hS2 : Sc w (W.setCell ⟨g11 + 1, 0, none⟩ (.int .i64 0)) gb g11 v1 (.slice fa (framesOf xs).length fc) xs m 0 base vs := by
            have := Sc.set HS.out 0
            simpa using this
          have hK2 : (W.setCell ⟨g11 + 1, 0, none⟩ (.int .i64 0)).heap[D]? = some (.deferred (some [])) := (Below.heap_setCell _ _ _ _ (by show D ≠ g11 + 1; have := HSC.out.size; omega)).trans HK.out
          clear hc13 hf13 hc3 hc11
          generalize W.setCell ⟨g11 + 1, 0, none⟩ (.int .i64 0) = w12 at *
          refine wp_range (gf := 82) (lb := #[.pointer (some ⟨gb, 0, none⟩)]) rfl (enters_of Try.func82 (by kernel_rfl) rfl)
            (scan1_seq w12 gb (w.heap.size + 2) g11 v1 xs hS2.hc hS2.hv hS2.hgb hS2.hob (by have := hS2.size; omega) (by omega)) (fun h k => h.trans k)
            (fun W l o hl => ⟨by simp, fun k _ h2 => World.putObj_heap_other (by have := hS2.size; omega)⟩) (fun _ => rfl) (own_from _)
            (fun pre W => Sc w W gb g11 v1 (.slice fa (framesOf xs).length fc) xs m pre.length base vs ∧ W.heap[D]? = some (.deferred (some [])))
            (fun _ _ _ => False)
            (fun s W W' row hs hg hr => ⟨Sc.from _ hS2.size (fun pre => pre.length) s W W' row hs.1 hg hr, (hg.block D (Array.getElem?_eq_some_iff.1 hs.2).1 (fun e => by have := (hr D e.symm).1; have := (Array.getElem?_eq_some_iff.1 hK2).1; omega)).trans hs.2⟩)
            (fun _ _ _ _ _ h _ _ => h) ⟨hS2, hK2⟩ ?act4b ?assign4b ?body4b ?done4b ?stop4b
          case assign4b =>
            intro l x W K hK
            simp only [encI]
            gi_wp2
            exact hK
          case body4b =>
            rintro l pre ⟨k, dat, dv⟩ W ⟨hS, hKD⟩ hnx hgi
            dsimp only at hgi ⊢
            obtain ⟨da, dc, hdv, hd1, hd2⟩ := (own_sl hgi).form
            dsimp only at hdv
            subst hdv
            obtain ⟨rest, hrest⟩ := hnx
            have hpl : pre.length < (framesOf xs).length := by rw [← hrest]; simp
            have hLk : (framesOf xs)[pre.length] = (k, dat) := by
              have h1 : (framesOf xs)[pre.length]? = some (k, dat) := by rw [← hrest]; simp [key]
              rw [List.getElem?_eq_getElem hpl] at h1
              exact Option.some.inj h1
            have HS3 := Lib.hid hS
            have HKD := Lib.hid hKD
            have HGI := Lib.hid hgi
            have HLK := Lib.hid hLk
            clear hS hgi hLk hrest hd2 hKD hK2
            obtain ⟨gf, cf, hfe, _, _, _, _⟩ := own_form HS3.out.own (by omega)
            have hfe' : fa = some ⟨gf, 0, none⟩ := by cases hfe; rfl
            subst hfe'
            have hat := EncB.at pre.length hpl HS3.out.enc
            rw [HLK.out] at hat
            obtain ⟨hk0, dv2, hd0, hod2⟩ := hat
            dsimp only at hk0 hod2
            obtain ⟨da2, dc2, rfl, _, _⟩ := (own_sl hod2).form
            have q1 := @qAt_value Try.prog
            have l13 : ∀ w', Mk W w' → w'.cell? ⟨g11 + 1, 0, none⟩ = some (.int .i64 (pre.length : Int)) := fun w' h => (HS3.out.b13.mk h).cell
            have l11 : ∀ w', Mk W w' → w'.cell? ⟨g11, 0, none⟩ = some (.slice (some ⟨gf, 0, none⟩) (framesOf xs).length fc) := fun w' h => (HS3.out.b11.mk h).cell
            have lk : ∀ w', Mk W w' → w'.cell? ⟨gf, pre.length * 2, none⟩ = some (.int .u8 (k.toNat : Int)) := fun w' h => by
              have := (own_mk HS3.out.own h).cells (g := gf) rfl _ _ hk0
              by_cases h0 : pre.length * 2 = 0 <;> simp_all [Addr.add]
            have ld : ∀ w', Mk W w' → w'.cell? ⟨gf, pre.length * 2 + 1, none⟩ = some (.slice da2 dat.length dc2) := fun w' h => by
              have := (own_mk HS3.out.own h).cells (g := gf) rfl _ _ hd0
              simpa [Addr.add] using this
            have c1 : ∀ w', Mk W w' → (convert 22 9 (.slice da dat.length dc)).run Try.prog w' = .ok (.string ⟨dat.toArray⟩) w' := fun w' h => str_of (own_sl (own_mk HGI.out h))
            have c2 : ∀ w', Mk W w' → (convert 22 9 (.slice da2 dat.length dc2)).run Try.prog w' = .ok (.string ⟨dat.toArray⟩) w' := fun w' h => str_of (own_sl (own_mk hod2 h))
            clear hk0 hd0 hod2 hfe
            have hn1 : ¬ (framesOf xs).length ≤ pre.length := by omega
            have hi0 : (pre.length : Int) < ((framesOf xs).length : Int) := by omega
            gi_wp2
            refine wpIn_region_sp (fun _ => false) (fun w' => Mk W w') (by kernel_rfl) (by kernel_rfl) (by kernel_rfl) (mk_refl _) (fun _ _ => mk_trans) ?_
            intro D2 hD2 hne
            iterate 24 (first | (refine spk (by rfl) (by rfl) (by rfl) (fun K hK => ?_); go_big_quiet_op; first | (refine hK _ ?_; clear hK K) | (apply Exists.intro; refine ⟨fun _ => ?_, hK _ ?_⟩; (exact fun _ => rfl); clear hK K)) | (refine spq (by rfl) (by rfl) (fun K hK => ?_); apply Exists.intro; refine ⟨fun w' hw' => ?_, ?_⟩; (go_simp; exact rfl); (go_simp; refine hK _ ?_; clear hK K)))
            refine sp_nil ?_
            intro w9 hw9
            have HM9 := Lib.hid (hD2.out _ hw9).1
            clear hw9 hD2 hne D2 l13 l11 lk ld c1 c2 q1
            have hS9 := HS3.out.mk' HM9.out
            have HS9 := Lib.hid hS9
            have hc13 := hS9.b13.cell
            have hf13 := hS9.b13.frozen
            clear hS9
            gi_wp2
            have hDl : D ≠ g11 + 1 := by have := HSC.out.size; omega
            refine ⟨(mk_keeps HM9.out).trans (KeepsOthers.setCell _ _ _),
              (mk_kp HM9.out (by have := HS3.out.size; omega)).trans ⟨by simp, fun k h1 h2 => Below.heap_setCell _ _ _ _ (by show k ≠ g11 + 1; omega)⟩, ?_,
              (Below.heap_setCell _ _ _ _ hDl).trans ((HM9.out.block D (Array.getElem?_eq_some_iff.1 HKD.out).1).trans HKD.out)⟩
            have := Sc.set HS9.out (pre.length + 1)
            simpa using this
          case done4b =>
            rintro D2 ys W2 hD2 hSy ⟨hS, hK3⟩ hK4
            have hys : ys.length = (framesOf xs).length := by rw [← hSy]; simp
            rw [hys] at hS
            have hc13 := hS.b13.cell
            have hc11 := hS.b11.cell
            have hc4 := hS.b4.cell
            have hf4 := hS.b4.frozen
            have HS3 := Lib.hid hS
            have HK3 := Lib.hid hK3
            have HK4 := Lib.hid hK4
            have hDlt : D < w12.heap.size := (Array.getElem?_eq_some_iff.1 hK2).1
            clear hS hK3 hK4 hSy hys hS2 hK2
            go_wp2_with fail
            have hl4 : w.heap.size + 1 < g11 := by have := HS3.out.hgb; omega
            have hg11 : g11 + 2 ≤ D := by have := HSC.out.size; omega
            have hm4 : Mk w (W2.setCell ⟨w.heap.size + 1, 0, none⟩ (.bool true)) := HS3.out.made.setCell (by show w.heap.size ≤ w.heap.size + 1; omega) _
            have k4 : (W2.setCell ⟨w.heap.size + 1, 0, none⟩ (.bool true)).heap[D2]? = some (.deferred (some [])) := (Below.heap_setCell _ _ _ _ (by show D2 ≠ w.heap.size + 1; omega)).trans HK4.out
            have k3 : (W2.setCell ⟨w.heap.size + 1, 0, none⟩ (.bool true)).heap[D]? = some (.deferred (some [])) := (Below.heap_setCell _ _ _ _ (by show D ≠ w.heap.size + 1; omega)).trans HK3.out
            have b4 := HS3.out.b4.set (.bool true)
            generalize W2.setCell ⟨w.heap.size + 1, 0, none⟩ (.bool true) = w13 at *
            exact two_marks rfl rfl k4 k3 b4 hm4 (by omega) (by omega) (by omega) (by omega) (by omega)
          case stop4b =>
            rintro _ _ _ _ _ _ h _
            exact h.elim
end Go.Proofs.FrW
