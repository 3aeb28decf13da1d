/- Proved here: the statement 'WalPlaysUptoSaid', whatever the input: the law answers true and leaves its arguments as they were, where what it reads is of bulk at most 1048576. -/
import Derived.Test.YtcfjdldlcdomgaaMWalPlays29
set_option linter.unusedVariables false
set_option linter.unusedSimpArgs false
namespace Go.Proofs.Ytcfjdldlcdomgaa.walPlays
open Go.ChangeShapes Go.WideShapes Go.ChangeAt Go.RowKit Go.Tk Go.Proofs.Ytcfjdldlcdomgaa.Up
set_option linter.unusedVariables false

theorem under106 : Try.prog.underlying 106 = some (.slice 109) := by kernel_rfl
theorem cells109 : Try.prog.cellsOf 109 = 4 := by kernel_rfl
theorem under109 : (Try.prog.underlying 109).bind fieldsOf = some [(3, 0), (3, 1), (3, 2), (22, 3)] := by kernel_rfl
theorem cells3 : Try.prog.cellsOf 3 = 1 := by kernel_rfl
theorem cells22 : Try.prog.cellsOf 22 = 1 := by kernel_rfl
theorem i64_of {n : Int} (h : (Lit.int .i64 n).wf = true) : -9223372036854775808 ≤ n ∧ n ≤ 9223372036854775807 := by
  simp only [Lit.wf, Bool.and_eq_true, decide_eq_true_eq] at h
  have e1 : IntKind.i64.min = -9223372036854775808 := by kernel_rfl
  have e2 : IntKind.i64.max = 9223372036854775807 := by kernel_rfl
  omega
section
variable {H : Type} {enc : TypeId × Value → H} {W : World} {base : Nat} {v : Value} {d : DataW H} {p : List MemPlace}
set_option maxRecDepth 100000 in
theorem bytes_cell {fuel : Nat} {cs : List Value} (hf : DataW.trod enc Try.prog W 0 (fun _ => true) true fuel 22 cs = some (d, p)) : ∃ u xs, cs = [u] ∧ Bs W u xs := by
  rcases open_ints Try.underlying22 Try.underlying5 (by kernel_rfl) hf with ⟨hcs, hx⟩ | ⟨x, l, cap, zs, hcs, _, hl, hm, hz, hx, hcell, hwz⟩
  · exact ⟨_, [], hcs, ⟨rfl, none, 0, rfl, Nat.le_refl _, Nat.zero_le _, fun _ => rfl, fun h => absurd h (by simp)⟩⟩
  · clear hx
    simp only [if_true] at hz
    obtain ⟨xs, hb, hlx⟩ := bytes_of zs hwz
    refine ⟨_, xs.take l, hcs, ?_⟩
    have hl2 : (xs.take l).length = l := by simp; omega
    refine ⟨by rw [bv_length]; omega, some x, cap, by rw [hl2], by omega, hm, (fun h => by cases h), fun hp => ?_⟩
    obtain ⟨b, off, spot⟩ := x
    have h0 := hcell 0 (by omega)
    have hs : spot = none := by
      cases spot with
      | none => rfl
      | some s =>
        simp only [Addr.add, if_true, World.cell?] at h0
        split at h0 <;> simp at h0
    subst hs
    refine ⟨b, off, rfl, fun j u hu => ?_⟩
    have hj : j < (bv (xs.take l)).length := (List.getElem?_eq_some_iff.1 hu).1
    rw [bv_length] at hj
    have e1 : (bv (xs.take l))[j]? = some (.int .u8 (zs.getD j 0)) := by
      have : bv (xs.take l) = (bv xs).take l := by simp [bv, List.map_take]
      rw [this, List.getElem?_take, if_pos (by omega), ← hb, List.getElem?_map, List.getD_eq_getElem?_getD, List.getElem?_eq_getElem (by omega)]
      rfl
    rw [e1] at hu
    have hc := hcell j (by omega)
    rw [← hu, ← hc]
    by_cases hj0 : j = 0 <;> simp [hj0, Addr.add]

set_option maxRecDepth 100000 in
theorem op_cells (fuel : Nat) (cs : List Value) (x : DataW H × List MemPlace) (hl : cs.length = 4) (h : DataW.trod enc Try.prog W 0 (fun _ => true) true fuel 109 cs = some x) :
    ∃ b : WlW.WOp × Value, (cs = WlW.ovL b ∧ Bs W b.2 b.1.b ∧ -9223372036854775808 ≤ b.1.n ∧ b.1.n ≤ 9223372036854775807) ∧ (fun _ => 0) b + 1 ≤ Rows.uptoBulk x.1 := by
  obtain ⟨xs, n, hx, hlen, hf⟩ := trod_fields under109 h
  have g0 := hf 0 3 0 rfl
  have g1 := hf 1 3 1 rfl
  have g2 := hf 2 3 2 rfl
  have g3 := hf 3 22 3 rfl
  rw [cells3] at g0 g1 g2
  rw [cells22] at g3
  simp only [List.length_cons, List.length_nil] at hlen
  rw [List.getElem?_eq_getElem (by omega)] at g0 g1 g2 g3
  obtain ⟨n0, e0, _, k0⟩ := DataW.trod_int Try.underlying3 g0
  obtain ⟨n1, e1, _, k1⟩ := DataW.trod_int Try.underlying3 g1
  obtain ⟨n2, e2, _, k2⟩ := DataW.trod_int Try.underlying3 g2
  obtain ⟨u, ys, e3, k3⟩ := bytes_cell g3
  match cs, hl with
  | [a, b, c, e], _ =>
    simp at e0 e1 e2 e3
    subst e0 e1 e2 e3
    exact ⟨(⟨n0, n1, n2, ys⟩, e), ⟨rfl, k3, i64_of k1⟩, one_le _⟩
set_option maxRecDepth 100000 in
theorem ops_open (hv : Value.okWide Try.prog W .any base 106 v) (h : DataW.Trod enc Try.prog W 0 (fun _ => true) true 106 v d p) : ∃ os, WlW.Os W v os ∧ os.length + 1 ≤ Rows.uptoBulk d := by
  obtain ⟨rows, bs, h1, h2, h3, h4, h5⟩ := rows_open under106 cells109 (by decide) (fun cs (b : WlW.WOp × Value) => cs = WlW.ovL b ∧ Bs W b.2 b.1.b ∧ -9223372036854775808 ≤ b.1.n ∧ b.1.n ≤ 9223372036854775807) (fun _ => 0) op_cells hv h
  have e : rows = bs.map WlW.ovL := by
    apply List.ext_getElem
    · simpa using h1
    · intro i g1 g2
      rw [List.getElem_map]
      exact (h4 i g1 (by simpa using g2)).1
  refine ⟨bs, ⟨?_, fun b hb => ?_⟩, by omega⟩
  · rw [List.flatMap_def, ← e]; exact h3
  · obtain ⟨i, hi, rfl⟩ := List.getElem_of_mem hb
    exact (h4 i (by omega) hi).2
end
theorem walk (w : World) (files : Int) (_ : -9223372036854775808 ≤ files ∧ files ≤ 9223372036854775807) (v : Value) (os : List (WlW.WOp × Value)) (h : WlW.Os w v os) (hl : os.length ≤ 1048576) :
    Calls Try.prog 12 #[.int .i64 files, v] w fun e w' => e = .returned (.bool true) ∧ Mk w w' := WlW.walPlays_any w files v os h hl

set_option maxRecDepth 100000 in
theorem contract (H : Type) (enc : TypeId × Value → H) (W : World) (base : Nat) (args : Array Value) (ds gs : List (DataW H)) (before : List MemPlace)
    (hval : ∀ (j : Nat) t v, Try.f12.params[j]? = some t → args[j]? = some v → Value.okWide Try.prog W .any base t v)
    (hW : DataW.Whole enc Try.prog Try.f12.params.toList Rows.walPlaysSpec.vars false W args.toList ds gs before) (hk : Rows.uptoSmall H (ds ++ gs) = true) :
    Calls Try.prog 12 args W fun e W' => ∃ v, e = .returned v ∧ Rows.walPlaysSpec.post enc Try.prog Try.f12 false true false false W args v W' := by
  have hW' := hW
  obtain ⟨p, q, hA0, hV, rfl, hfz, hnd⟩ := hW
  have hA : DataW.TrodAll enc Try.prog W 0 (fun _ => true) true Try.f12.params.toList args.toList ds p := hA0
  rw [Try.params12] at hA hval
  obtain ⟨v0, vs0, d0, ds0, p0, q0, hargs, rfl, rfl, h0, r0⟩ := trodAll_cons hA
  obtain ⟨v1, vs1, d1, ds1, p1, q1, rfl, rfl, rfl, h1, r1⟩ := trodAll_cons r0
  obtain ⟨rfl, rfl, rfl⟩ := trodAll_nil r1
  obtain rfl : args = #[v0, v1] := by cases args; simp_all
  obtain ⟨rfl, rfl⟩ := trodVars_none hV
  have hB := bound hk
  simp only [List.append_nil, Rows.uptoBulkAll] at hB
  obtain ⟨a0, rfl, rfl, rfl, w0⟩ := open_int Try.underlying3 (hval 0 3 v0 rfl rfl) h0
  obtain ⟨x1, b1, hb1⟩ := ops_open (hval 1 106 v1 rfl rfl) h1
  have lt1 : ∀ x ∈ p1, x.block < W.heap.size := by obtain ⟨m, hm⟩ := h1; exact DataW.trod_lt m _ _ _ hm
  clear hA0
  refine (walk W a0 (i64_of w0) v1 x1 b1 (by omega)).mono fun e W' ⟨he, bel⟩ => ?_
  subst he
  exact ⟨_, rfl, _, _, _, [], _, [], hW', trodAll_mk1 (shut_bool Try.underlying4 _), (trodAll_cons_mk (shut_int Try.underlying3 w0) (trodAll_cons_mk (Below.trod laidOut (by kernel_rfl) (of_decide_eq_true (by kernel_rfl)) h1 bel lt1) trodAll_mk0)), rfl, bel.frame _, fun h => by cases h⟩

set_option maxRecDepth 100000 in
theorem lifted (os : Os) (started : os.Started) (H : Type) (enc : TypeId × Value → H) (F : Stop.Interp) :
    ReturnsInHanded {} Try.checked os 12 .any ((Rows.OpenSpec.upto Rows.walPlaysSpec).pre6 enc Try.prog Try.f12 Rows.walPlaysUptoRow.domain false) (((Rows.OpenSpec.upto Rows.walPlaysSpec).at F).post enc Try.prog Try.f12 false true false false) := by
  refine returnsInHanded_of_cond (C := Try.checked) (s := Rows.OpenSpec.upto Rows.walPlaysSpec) (k := Rows.uptoSmall) rfl own started (by kernel_rfl) Try.func12
    (OpenSpec.witness (enc := enc) (C := Try.checked) (s := Rows.OpenSpec.upto Rows.walPlaysSpec) (k := Rows.uptoSmall) rfl false ⟨#[], #[.int .i64 0, .slice none 0 0], []⟩ 8 (by kernel_rfl) (by kernel_rfl) (by kernel_rfl)
      (x := ([.lit (.int .i64 0), .nil], [], [])) (by kernel_rfl) rfl (by kernel_rfl)) ?_
  intro W base args ds gs before hval hW _ hk _
  exact contract H enc W base args ds gs before hval hW hk

theorem proved : Rows.WalPlaysUptoSaid :=
  OpenClaim.holds_of_cond 12 Try.f12 rfl rfl rfl rfl rfl rfl rfl ⟨rfl, rfl, rfl, rfl, rfl⟩ rfl rfl rfl rfl rfl (by kernel_rfl) Try.func12 (by kernel_rfl)
    (of_decide_eq_true (by kernel_rfl)) (by unfold Func.isWrapper; first | (rw [if_pos (by decide +kernel)]; kernel_rfl) | (rw [if_neg (by decide +kernel)]; exact ⟨rfl, rfl⟩))
    (fun os started H enc _ F => lifted os started H enc F)
#print axioms proved
end Go.Proofs.Ytcfjdldlcdomgaa.walPlays
