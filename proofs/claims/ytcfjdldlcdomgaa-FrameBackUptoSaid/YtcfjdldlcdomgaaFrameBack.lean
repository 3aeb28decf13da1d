/- Proved here: the statement 'FrameBackUptoSaid', whatever the input: the law answers true and leaves its arguments as they were, where what it reads is of bulk at most 1048576. -/
import Derived.Test.YtcfjdldlcdomgaaFrQ
import Derived.Test.YtcfjdldlcdomgaaUp
namespace Go.Proofs.Ytcfjdldlcdomgaa.frameBack
open Go.ChangeShapes Go.WideShapes Go.ChangeAt Go.RowKit Go.Tk Go.Proofs.Ytcfjdldlcdomgaa.Up
set_option linter.unusedVariables false

section
variable {H : Type} {enc : TypeId × Value → H} {W : World} {base : Nat} {v : Value} {d : DataW H} {p : List MemPlace}
set_option maxRecDepth 100000 in
theorem bytes_cell {fuel : Nat} {cs : List Value} (hf : DataW.trod enc Try.prog W 0 (fun _ => true) true fuel 22 cs = some (d, p)) : ∃ u xs, cs = [u] ∧ Bs W u xs := by
  rcases open_ints Try.underlying22 Try.underlying5 (by kernel_rfl) hf with ⟨hcs, hx⟩ | ⟨x, l, cap, zs, hcs, _, hl, hm, hz, hx, hcell, hwz⟩
  · exact ⟨_, [], hcs, ⟨rfl, none, 0, rfl, Nat.le_refl _, Nat.zero_le _, fun _ => rfl, fun h => absurd h (by simp)⟩⟩
  · clear hx
    simp only [if_true] at hz
    obtain ⟨xs, hb, hlx⟩ := bytes_of zs hwz
    refine ⟨_, xs.take l, hcs, ?_⟩
    have hl2 : (xs.take l).length = l := by simp; omega
    refine ⟨by rw [bv_length]; omega, some x, cap, by rw [hl2], by omega, hm, (fun h => by cases h), fun hp => ?_⟩
    obtain ⟨b, off, spot⟩ := x
    have h0 := hcell 0 (by omega)
    have hs : spot = none := by
      cases spot with
      | none => rfl
      | some s =>
        simp only [Addr.add, if_true, World.cell?] at h0
        split at h0 <;> simp at h0
    subst hs
    refine ⟨b, off, rfl, fun j u hu => ?_⟩
    have hj : j < (bv (xs.take l)).length := (List.getElem?_eq_some_iff.1 hu).1
    rw [bv_length] at hj
    have e1 : (bv (xs.take l))[j]? = some (.int .u8 (zs.getD j 0)) := by
      have : bv (xs.take l) = (bv xs).take l := by simp [bv, List.map_take]
      rw [this, List.getElem?_take, if_pos (by omega), ← hb, List.getElem?_map, List.getD_eq_getElem?_getD, List.getElem?_eq_getElem (by omega)]
      rfl
    rw [e1] at hu
    have hc := hcell j (by omega)
    rw [← hu, ← hc]
    by_cases hj0 : j = 0 <;> simp [hj0, Addr.add]

theorem both_choose {α β : Type} (q : Nat → α → β → Prop) : ∀ n : Nat, (∀ i, i < n → ∃ a b, q i a b) → ∃ (xa : List α) (xb : List β), xa.length = n ∧ xb.length = n ∧ ∀ (i : Nat) (h1 : i < xa.length) (h2 : i < xb.length), q i xa[i] xb[i]
  | 0, _ => ⟨[], [], rfl, rfl, fun i h => by simp at h⟩
  | n + 1, h => by
    obtain ⟨xa, xb, h1, h2, h3⟩ := both_choose q n fun i hi => h i (by omega)
    obtain ⟨a, b, hab⟩ := h n (by omega)
    refine ⟨xa ++ [a], xb ++ [b], by simp [h1], by simp [h2], fun i g1 g2 => ?_⟩
    by_cases hi : i < n
    · rw [List.getElem_append_left (by omega), List.getElem_append_left (by omega)]; exact h3 i (by omega) (by omega)
    · obtain rfl : i = n := by simp [h1] at g1; omega
      rw [List.getElem_append_right (by omega), List.getElem_append_right (by omega)]
      simpa [h1, h2] using hab

set_option maxRecDepth 100000 in
theorem under46 : Try.prog.underlying 46 = some (.slice 22) := by kernel_rfl
set_option maxRecDepth 100000 in
theorem cells22 : Try.prog.cellsOf 22 = 1 := by kernel_rfl

set_option maxRecDepth 100000 in
theorem lists_open (hv : Value.okWide Try.prog W .any base 46 v) (h : DataW.Trod enc Try.prog W 0 (fun _ => true) true 46 v d p) :
    ∃ Ls, FrW.Ms W v Ls ∧ Ls.length + 1 ≤ Rows.uptoBulk d := by
  obtain ⟨a, l, cap, rfl⟩ := okWide_slice under46 hv
  obtain ⟨fuel, hf⟩ := h
  rcases DataW.trod_slice under46 hf with ⟨hcs, hx⟩ | ⟨x, len, cap', elems, rest, n, _, hcs, hx, _, hl, hm, hlen, hel, _, _⟩
  · simp [Value.cells] at hcs
    obtain ⟨rfl, rfl, rfl⟩ := hcs
    exact ⟨[], ⟨[], ⟨rfl, none, 0, rfl, Nat.le_refl _, Nat.zero_le _, fun _ => rfl, fun h => absurd h (by simp)⟩, fun i hi => by simp at hi⟩, one_le d⟩
  · simp [Value.cells] at hcs
    obtain ⟨rfl, rfl, rfl⟩ := hcs
    have hd : d = .slice (elems.map (·.1)) (rest.map (·.1)) := (Prod.mk.inj hx).1
    have each : ∀ i, i < l → ∃ u xs, W.cell? (x.add i) = some u ∧ Bs W u xs := by
      intro i hi
      have h1 := hel i hi
      rw [List.getElem?_eq_getElem (by omega), cells22, Nat.mul_one, Option.bind_eq_some_iff] at h1
      obtain ⟨cs, hc, hy⟩ := h1
      obtain ⟨u, xs, rfl, hb⟩ := bytes_cell (d := (elems[i]'(by omega)).1) (p := (elems[i]'(by omega)).2) hy
      exact ⟨u, xs, cell_of_cells?_one hc, hb⟩
    obtain ⟨vs, Ls, hv1, hL1, hall⟩ := both_choose (fun i u xs => W.cell? (x.add i) = some u ∧ Bs W u xs) l each
    refine ⟨Ls, ⟨vs, ?_, fun i hi => ⟨vs[i]'(by omega), List.getElem?_eq_getElem _, (hall i (by omega) hi).2⟩⟩, ?_⟩
    · refine ⟨by omega, some x, cap, by rw [hL1], by omega, hm, (fun h => by cases h), fun hp => ?_⟩
      obtain ⟨b, off, spot⟩ := x
      have h0 := (hall 0 (by omega) (by omega)).1
      have hs : spot = none := by
        cases spot with
        | none => rfl
        | some s =>
          simp only [Addr.add, if_true, World.cell?] at h0
          split at h0 <;> simp at h0
      subst hs
      refine ⟨b, off, rfl, fun j u hu => ?_⟩
      have hj : j < vs.length := (List.getElem?_eq_some_iff.1 hu).1
      rw [List.getElem?_eq_getElem hj] at hu
      have hc := (hall j hj (by omega)).1
      rw [← hu, ← hc]
      by_cases hj0 : j = 0 <;> simp [hj0, Addr.add]
    · subst hd
      have h1 := length_le (elems.map (·.1))
      rw [List.length_map] at h1
      simp only [Rows.uptoBulk]
      omega
end

set_option maxRecDepth 100000 in
theorem contract (H : Type) (enc : TypeId × Value → H) (W : World) (base : Nat) (args : Array Value) (ds gs : List (DataW H)) (before : List MemPlace)
    (hval : ∀ (j : Nat) t v, Try.f6.params[j]? = some t → args[j]? = some v → Value.okWide Try.prog W .any base t v)
    (hW : DataW.Whole enc Try.prog Try.f6.params.toList Rows.frameBackSpec.vars false W args.toList ds gs before) (hk : Rows.uptoSmall H (ds ++ gs) = true) :
    Calls Try.prog 6 args W fun e W' => ∃ v, e = .returned v ∧ Rows.frameBackSpec.post enc Try.prog Try.f6 false true false false W args v W' := by
  have hW' := hW
  obtain ⟨p, q, hA0, hV, rfl, hfz, hnd⟩ := hW
  have hA : DataW.TrodAll enc Try.prog W 0 (fun _ => true) true Try.f6.params.toList args.toList ds p := hA0
  rw [Try.params6] at hA hval
  obtain ⟨v0, vs0, d0, ds0, p0, q0, hargs, rfl, rfl, h0, r0⟩ := trodAll_cons hA
  obtain ⟨v1, vs1, d1, ds1, p1, q1, rfl, rfl, rfl, h1, r1⟩ := trodAll_cons r0
  obtain ⟨v2, vs2, d2, ds2, p2, q2, rfl, rfl, rfl, h2, r2⟩ := trodAll_cons r1
  obtain ⟨rfl, rfl, rfl⟩ := trodAll_nil r2
  obtain rfl : args = #[v0, v1, v2] := by cases args; simp_all
  obtain ⟨rfl, rfl⟩ := trodVars_none hV
  have hB := bound hk
  simp only [List.append_nil, Rows.uptoBulkAll] at hB
  obtain ⟨x0, b0, hb0⟩ := bytes_open (hval 0 22 v0 rfl rfl) h0
  have lt0 : ∀ x ∈ p0, x.block < W.heap.size := by obtain ⟨m, hm⟩ := h0; exact DataW.trod_lt m _ _ _ hm
  obtain ⟨x1, b1, hb1⟩ := lists_open (hval 1 46 v1 rfl rfl) h1
  have lt1 : ∀ x ∈ p1, x.block < W.heap.size := by obtain ⟨m, hm⟩ := h1; exact DataW.trod_lt m _ _ _ hm
  obtain ⟨x2, b2, hb2⟩ := bytes_open (hval 2 22 v2 rfl rfl) h2
  have lt2 : ∀ x ∈ p2, x.block < W.heap.size := by obtain ⟨m, hm⟩ := h2; exact DataW.trod_lt m _ _ _ hm
  clear hA0
  refine (FrW.frameBack_any W v0 x0 b0 (by omega) v1 x1 b1 (by omega) v2 x2 b2 (by omega)).mono fun e W' ⟨he, bel⟩ => ?_
  subst he
  exact ⟨_, rfl, _, _, _, [], _, [], hW', trodAll_mk1 (shut_bool Try.underlying4 _), (trodAll_cons_mk (Below.trod laidOut (by kernel_rfl) (of_decide_eq_true (by kernel_rfl)) h0 bel lt0) (trodAll_cons_mk (Below.trod laidOut (by kernel_rfl) (of_decide_eq_true (by kernel_rfl)) h1 bel lt1) (trodAll_cons_mk (Below.trod laidOut (by kernel_rfl) (of_decide_eq_true (by kernel_rfl)) h2 bel lt2) trodAll_mk0))), rfl, bel.frame _, fun h => by cases h⟩

set_option maxRecDepth 100000 in
theorem lifted (os : Os) (started : os.Started) (H : Type) (enc : TypeId × Value → H) (F : Stop.Interp) :
    ReturnsInHanded {} Try.checked os 6 .any ((Rows.OpenSpec.upto Rows.frameBackSpec).pre6 enc Try.prog Try.f6 Rows.frameBackUptoRow.domain false) (((Rows.OpenSpec.upto Rows.frameBackSpec).at F).post enc Try.prog Try.f6 false true false false) := by
  refine returnsInHanded_of_cond (C := Try.checked) (s := Rows.OpenSpec.upto Rows.frameBackSpec) (k := Rows.uptoSmall) rfl own started (by kernel_rfl) Try.func6
    (OpenSpec.witness (enc := enc) (C := Try.checked) (s := Rows.OpenSpec.upto Rows.frameBackSpec) (k := Rows.uptoSmall) rfl false ⟨#[], #[.slice none 0 0, .slice none 0 0, .slice none 0 0], []⟩ 8 (by kernel_rfl) (by kernel_rfl) (by kernel_rfl)
      (x := ([.nil, .nil, .nil], [], [])) (by kernel_rfl) rfl (by kernel_rfl)) ?_
  intro W base args ds gs before hval hW _ hk _
  exact contract H enc W base args ds gs before hval hW hk

theorem proved : Rows.FrameBackUptoSaid :=
  OpenClaim.holds_of_cond 6 Try.f6 rfl rfl rfl rfl rfl rfl rfl ⟨rfl, rfl, rfl, rfl, rfl⟩ rfl rfl rfl rfl rfl (by kernel_rfl) Try.func6 (by kernel_rfl)
    (of_decide_eq_true (by kernel_rfl)) (by unfold Func.isWrapper; first | (rw [if_pos (by decide +kernel)]; kernel_rfl) | (rw [if_neg (by decide +kernel)]; exact ⟨rfl, rfl⟩))
    (fun os started H enc _ F => lifted os started H enc F)
#print axioms proved
end Go.Proofs.Ytcfjdldlcdomgaa.frameBack
