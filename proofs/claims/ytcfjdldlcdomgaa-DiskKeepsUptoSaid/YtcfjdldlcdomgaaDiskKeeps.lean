/- Proved here: the statement 'DiskKeepsUptoSaid', whatever the input: the law answers true and leaves its arguments as they were, where what it reads is of bulk at most 1048576. -/
import Derived.Test.YtcfjdldlcdomgaaDkJ
import Derived.Test.YtcfjdldlcdomgaaUpS
namespace Go.Proofs.Ytcfjdldlcdomgaa.diskKeeps
open Go.ChangeShapes Go.WideShapes Go.ChangeAt Go.RowKit Go.Tk Go.Proofs.Ytcfjdldlcdomgaa.Up
set_option linter.unusedVariables false

theorem under49 : Try.prog.underlying 49 = some (.slice 58) := by kernel_rfl
theorem cells58 : Try.prog.cellsOf 58 = 3 := by kernel_rfl
theorem under58 : (Try.prog.underlying 58).bind fieldsOf = some [(3, 0), (3, 1), (3, 2)] := by kernel_rfl
theorem cells3 : Try.prog.cellsOf 3 = 1 := by kernel_rfl
theorem i64_of {n : Int} (h : (Lit.int .i64 n).wf = true) : DkW.I64 n := by
  simp only [Lit.wf, Bool.and_eq_true, decide_eq_true_eq] at h
  have e1 : IntKind.i64.min = -9223372036854775808 := by kernel_rfl
  have e2 : IntKind.i64.max = 9223372036854775807 := by kernel_rfl
  unfold DkW.I64
  omega
section
variable {H : Type} {enc : TypeId × Value → H} {W : World} {base : Nat} {v : Value} {d : DataW H} {p : List MemPlace}
set_option maxRecDepth 100000 in
theorem deed_cells (fuel : Nat) (cs : List Value) (x : DataW H × List MemPlace) (hl : cs.length = 3) (h : DataW.trod enc Try.prog W 0 (fun _ => true) true fuel 58 cs = some x) :
    ∃ b : Int × Int × Int, (cs = DkW.dv b ∧ DkW.I64 b.1 ∧ DkW.I64 b.2.1 ∧ DkW.I64 b.2.2) ∧ (fun _ => 0) b + 1 ≤ Rows.uptoBulk x.1 := by
  obtain ⟨xs, n, hx, hlen, hf⟩ := trod_fields under58 h
  have g0 := hf 0 3 0 rfl
  have g1 := hf 1 3 1 rfl
  have g2 := hf 2 3 2 rfl
  rw [cells3] at g0 g1 g2
  simp only [List.length_cons, List.length_nil] at hlen
  rw [List.getElem?_eq_getElem (by omega)] at g0 g1 g2
  obtain ⟨n0, e0, _, k0⟩ := DataW.trod_int Try.underlying3 g0
  obtain ⟨n1, e1, _, k1⟩ := DataW.trod_int Try.underlying3 g1
  obtain ⟨n2, e2, _, k2⟩ := DataW.trod_int Try.underlying3 g2
  match cs, hl with
  | [a, b, c], _ =>
    simp at e0 e1 e2
    subst e0 e1 e2
    exact ⟨(n0, n1, n2), ⟨rfl, i64_of k0, i64_of k1, i64_of k2⟩, one_le _⟩
set_option maxRecDepth 100000 in
theorem deeds_open (hv : Value.okWide Try.prog W .any base 49 v) (h : DataW.Trod enc Try.prog W 0 (fun _ => true) true 49 v d p) : ∃ ds, DkW.Ds W v ds ∧ ds.length + 1 ≤ Rows.uptoBulk d := by
  obtain ⟨rows, bs, h1, h2, h3, h4, h5⟩ := rows_open under49 cells58 (by decide) (fun cs (b : Int × Int × Int) => cs = DkW.dv b ∧ DkW.I64 b.1 ∧ DkW.I64 b.2.1 ∧ DkW.I64 b.2.2) (fun _ => 0) deed_cells hv h
  have e : rows = bs.map DkW.dv := by
    apply List.ext_getElem
    · simpa using h1
    · intro i g1 g2
      rw [List.getElem_map]
      exact (h4 i g1 (by simpa using g2)).1
  refine ⟨bs, ⟨?_, fun b hb => ?_⟩, by omega⟩
  · rw [List.flatMap_def, ← e]; exact h3
  · obtain ⟨i, hi, rfl⟩ := List.getElem_of_mem hb
    exact (h4 i (by omega) hi).2
end
theorem walk (w : World) (v0 : Value) (ds : List (Int × Int × Int)) (h0 : DkW.Ds w v0 ds) (hb0 : ds.length ≤ 1048576) (ops : Int) (ho : DkW.I64 ops) (keep : Int) (hk : DkW.I64 keep) :
    Calls Try.prog 8 #[v0, .int .i64 ops, .int .i64 keep] w fun e w' => e = .returned (.bool true) ∧ Mk w w' := DkW.diskKeeps_any w v0 ds h0 hb0 ops keep ho hk

set_option maxRecDepth 100000 in
theorem contract (H : Type) (enc : TypeId × Value → H) (W : World) (base : Nat) (args : Array Value) (ds gs : List (DataW H)) (before : List MemPlace)
    (hval : ∀ (j : Nat) t v, Try.f8.params[j]? = some t → args[j]? = some v → Value.okWide Try.prog W .any base t v)
    (hW : DataW.Whole enc Try.prog Try.f8.params.toList Rows.diskKeepsSpec.vars false W args.toList ds gs before) (hk : Rows.uptoSmall H (ds ++ gs) = true) :
    Calls Try.prog 8 args W fun e W' => ∃ v, e = .returned v ∧ Rows.diskKeepsSpec.post enc Try.prog Try.f8 false true false false W args v W' := by
  have hW' := hW
  obtain ⟨p, q, hA0, hV, rfl, hfz, hnd⟩ := hW
  have hA : DataW.TrodAll enc Try.prog W 0 (fun _ => true) true Try.f8.params.toList args.toList ds p := hA0
  rw [Try.params8] at hA hval
  obtain ⟨v0, vs0, d0, ds0, p0, q0, hargs, rfl, rfl, h0, r0⟩ := trodAll_cons hA
  obtain ⟨v1, vs1, d1, ds1, p1, q1, rfl, rfl, rfl, h1, r1⟩ := trodAll_cons r0
  obtain ⟨v2, vs2, d2, ds2, p2, q2, rfl, rfl, rfl, h2, r2⟩ := trodAll_cons r1
  obtain ⟨rfl, rfl, rfl⟩ := trodAll_nil r2
  obtain rfl : args = #[v0, v1, v2] := by cases args; simp_all
  obtain ⟨rfl, rfl⟩ := trodVars_none hV
  have hB := bound hk
  simp only [List.append_nil, Rows.uptoBulkAll] at hB
  obtain ⟨x0, b0, hb0⟩ := deeds_open (hval 0 49 v0 rfl rfl) h0
  have lt0 : ∀ x ∈ p0, x.block < W.heap.size := by obtain ⟨m, hm⟩ := h0; exact DataW.trod_lt m _ _ _ hm
  obtain ⟨a1, rfl, rfl, rfl, w1⟩ := open_int Try.underlying3 (hval 1 3 v1 rfl rfl) h1
  obtain ⟨a2, rfl, rfl, rfl, w2⟩ := open_int Try.underlying3 (hval 2 3 v2 rfl rfl) h2
  clear hA0
  refine (walk W v0 x0 b0 (by omega) a1 (i64_of w1) a2 (i64_of w2)).mono fun e W' ⟨he, bel⟩ => ?_
  subst he
  exact ⟨_, rfl, _, _, _, [], _, [], hW', trodAll_mk1 (shut_bool Try.underlying4 _), (trodAll_cons_mk (Below.trod laidOut (by kernel_rfl) (of_decide_eq_true (by kernel_rfl)) h0 bel lt0) (trodAll_cons_mk (shut_int Try.underlying3 w1) (trodAll_cons_mk (shut_int Try.underlying3 w2) trodAll_mk0))), rfl, bel.frame _, fun h => by cases h⟩

set_option maxRecDepth 100000 in
theorem lifted (os : Os) (started : os.Started) (H : Type) (enc : TypeId × Value → H) (F : Stop.Interp) :
    ReturnsInHanded {} Try.checked os 8 .any ((Rows.OpenSpec.upto Rows.diskKeepsSpec).pre6 enc Try.prog Try.f8 Rows.diskKeepsUptoRow.domain false) (((Rows.OpenSpec.upto Rows.diskKeepsSpec).at F).post enc Try.prog Try.f8 false true false false) := by
  refine returnsInHanded_of_cond (C := Try.checked) (s := Rows.OpenSpec.upto Rows.diskKeepsSpec) (k := Rows.uptoSmall) rfl own started (by kernel_rfl) Try.func8
    (OpenSpec.witness (enc := enc) (C := Try.checked) (s := Rows.OpenSpec.upto Rows.diskKeepsSpec) (k := Rows.uptoSmall) rfl false ⟨#[], #[.slice none 0 0, .int .i64 0, .int .i64 0], []⟩ 8 (by kernel_rfl) (by kernel_rfl) (by kernel_rfl)
      (x := ([.nil, .lit (.int .i64 0), .lit (.int .i64 0)], [], [])) (by kernel_rfl) rfl (by kernel_rfl)) ?_
  intro W base args ds gs before hval hW _ hk _
  exact contract H enc W base args ds gs before hval hW hk

theorem proved : Rows.DiskKeepsUptoSaid :=
  OpenClaim.holds_of_cond 8 Try.f8 rfl rfl rfl rfl rfl rfl rfl ⟨rfl, rfl, rfl, rfl, rfl⟩ rfl rfl rfl rfl rfl (by kernel_rfl) Try.func8 (by kernel_rfl)
    (of_decide_eq_true (by kernel_rfl)) (by unfold Func.isWrapper; first | (rw [if_pos (by decide +kernel)]; kernel_rfl) | (rw [if_neg (by decide +kernel)]; exact ⟨rfl, rfl⟩))
    (fun os started H enc _ F => lifted os started H enc F)
#print axioms proved
end Go.Proofs.Ytcfjdldlcdomgaa.diskKeeps
