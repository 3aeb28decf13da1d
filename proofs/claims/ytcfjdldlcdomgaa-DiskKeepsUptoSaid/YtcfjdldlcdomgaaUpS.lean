/- What the readings of arguments give: slices of structs. -/
import Derived.Test.YtcfjdldlcdomgaaUp
namespace Go.Proofs.Ytcfjdldlcdomgaa.Up
open Go Go.ChangeShapes Go.WideShapes Go.ChangeAt Go.RowKit Go.Tk

theorem flat_at {size : Nat} : ∀ (rows : List (List Value)), (∀ r ∈ rows, r.length = size) → ∀ (i j : Nat), j < size → rows.flatten[i * size + j]? = (rows[i]?).bind (·[j]?)
  | [], _, i, j, _ => by simp
  | r :: rows, h, 0, j, hj => by
    have hr := h r (by simp)
    simp only [List.flatten_cons, Nat.zero_mul, Nat.zero_add, List.getElem?_cons_zero, Option.bind_some]
    rw [List.getElem?_append_left (by omega)]
  | r :: rows, h, i + 1, j, hj => by
    have hr := h r (by simp)
    have := flat_at rows (fun r h' => h r (by simp [h'])) i j hj
    simp only [List.flatten_cons, List.getElem?_cons_succ]
    rw [List.getElem?_append_right (by rw [hr, Nat.add_mul]; omega), show (i + 1) * size + j - r.length = i * size + j by rw [hr, Nat.add_mul]; omega]
    exact this
theorem addr_add (b o k : Nat) : (⟨b, o, none⟩ : Addr).add k = ⟨b, o + k, none⟩ := by
  unfold Addr.add; split <;> simp_all
theorem choose3 {α β : Type} (q : Nat → α → β → Prop) : ∀ n : Nat, (∀ i, i < n → ∃ a b, q i a b) → ∃ (xa : List α) (xb : List β), xa.length = n ∧ xb.length = n ∧ ∀ (i : Nat) (h1 : i < xa.length) (h2 : i < xb.length), q i xa[i] xb[i]
  | 0, _ => ⟨[], [], rfl, rfl, fun i h => by simp at h⟩
  | n + 1, h => by
    obtain ⟨xa, xb, h1, h2, h3⟩ := choose3 q n fun i hi => h i (by omega)
    obtain ⟨a, b, hab⟩ := h n (by omega)
    refine ⟨xa ++ [a], xb ++ [b], by simp [h1], by simp [h2], fun i g1 g2 => ?_⟩
    by_cases hi : i < n
    · rw [List.getElem_append_left (by omega), List.getElem_append_left (by omega)]; exact h3 i (by omega) (by omega)
    · obtain rfl : i = n := by simp [h1] at g1; omega
      rw [List.getElem_append_right (by omega), List.getElem_append_right (by omega)]
      simpa [h1, h2] using hab
theorem sum_le {H β : Type} (wt : β → Nat) : ∀ (bs : List β) (ds : List (DataW H)), bs.length = ds.length → (∀ (i : Nat) (h1 : i < bs.length) (h2 : i < ds.length), wt bs[i] + 1 ≤ Rows.uptoBulk ds[i]) → (bs.map wt).sum + bs.length ≤ Rows.uptoBulkAll ds
  | [], [], _, _ => by simp [Rows.uptoBulkAll]
  | b :: bs, d :: ds, hl, h => by
    have h0 := h 0 (by simp) (by simp)
    have := sum_le wt bs ds (by simpa using hl) fun i h1 h2 => h (i + 1) (by simp; omega) (by simp; omega)
    simp only [List.getElem_cons_zero] at h0
    simp only [List.map_cons, List.sum_cons, List.length_cons, Rows.uptoBulkAll]
    omega
section
variable {H : Type} {enc : TypeId × Value → H} {W : World} {base : Nat} {v : Value} {d : DataW H} {p : List MemPlace}

/-- A struct's fields: their types, where they begin. -/
def fieldsOf : TypeDesc → Option (List (TypeId × Nat))
  | .struct fs => some (fs.toList.map fun f => (f.type, f.offset))
  | _ => none
theorem trod_fields {t : TypeId} {l : List (TypeId × Nat)} (hu : (Try.prog.underlying t).bind fieldsOf = some l) {fuel : Nat} {cs : List Value} {x : DataW H × List MemPlace} (h : DataW.trod enc Try.prog W 0 (fun _ => true) true fuel t cs = some x) :
    ∃ (xs : List (DataW H × List MemPlace)) (n : Nat), x.1 = .agg (xs.map (·.1)) ∧ xs.length = l.length ∧
      ∀ (i ty off : Nat), l[i]? = some (ty, off) → DataW.trod enc Try.prog W 0 (fun _ => true) true n ty ((cs.drop off).take (Try.prog.cellsOf ty)) = xs[i]? := by
  obtain ⟨d, hd, hl⟩ := Option.bind_eq_some_iff.1 hu
  cases d with
  | struct fs =>
    simp only [fieldsOf, Option.some.injEq] at hl
    obtain ⟨xs, n, _, rfl, _, hlen, hf⟩ := DataW.trod_struct hd h
    refine ⟨xs, n, rfl, by rw [hlen, ← hl, List.length_map, Array.length_toList], fun i ty off hi => ?_⟩
    rw [← hl, List.getElem?_map, Array.getElem?_toList] at hi
    cases hfi : fs[i]? with
    | none => rw [hfi] at hi; cases hi
    | some f =>
      rw [hfi] at hi
      simp only [Option.map_some, Option.some.injEq, Prod.mk.injEq] at hi
      obtain ⟨rfl, rfl⟩ := hi
      exact hf i f hfi
  | _ => cases hl
set_option maxRecDepth 100000 in
/-- A slice whose elements read one by one. -/
theorem rows_open {β : Type} {t e size : Nat} (ht : Try.prog.underlying t = some (.slice e)) (hce : Try.prog.cellsOf e = size) (hsz : 0 < size) (R : List Value → β → Prop) (wt : β → Nat)
    (hR : ∀ (fuel : Nat) (cs : List Value) (x : DataW H × List MemPlace), cs.length = size → DataW.trod enc Try.prog W 0 (fun _ => true) true fuel e cs = some x → ∃ b, R cs b ∧ wt b + 1 ≤ Rows.uptoBulk x.1)
    (hv : Value.okWide Try.prog W .any base t v) (h : DataW.Trod enc Try.prog W 0 (fun _ => true) true t v d p) :
    ∃ (rows : List (List Value)) (bs : List β), rows.length = bs.length ∧ (∀ r ∈ rows, r.length = size) ∧ Sl W size v bs.length rows.flatten ∧ (∀ (i : Nat) (h1 : i < rows.length) (h2 : i < bs.length), R rows[i] bs[i]) ∧
      (bs.map wt).sum + bs.length + 1 ≤ Rows.uptoBulk d := by
  obtain ⟨a, l, cap, rfl⟩ := okWide_slice ht hv
  obtain ⟨fuel, hf⟩ := h
  rcases DataW.trod_slice ht hf with ⟨hcs, hx⟩ | ⟨x, len, cap', elems, rest, n, _, hcs, hx, _, hl, hm, hlen, hel, _, _⟩
  · simp [Value.cells] at hcs
    obtain ⟨rfl, rfl, rfl⟩ := hcs
    exact ⟨[], [], rfl, by simp, ⟨by simp, none, 0, rfl, Nat.le_refl _, Nat.zero_le _, fun _ => rfl, fun h => absurd h (by simp)⟩, by simp, one_le d⟩
  · simp [Value.cells] at hcs
    obtain ⟨rfl, rfl, rfl⟩ := hcs
    have hd : d = .slice (elems.map (·.1)) (rest.map (·.1)) := (Prod.mk.inj hx).1
    have each : ∀ i, i < l → ∃ (cs : List Value) (b : β), cs.length = size ∧ (∀ j, j < size → W.cell? ((x.add (i * size)).add j) = cs[j]?) ∧ R cs b ∧ ∀ (h2 : i < elems.length), wt b + 1 ≤ Rows.uptoBulk elems[i].1 := by
      intro i hi
      have h1 := hel i hi
      rw [List.getElem?_eq_getElem (by omega), hce, Option.bind_eq_some_iff] at h1
      obtain ⟨cs, hc, hy⟩ := h1
      obtain ⟨_, hcl, hcc⟩ := World.cells?_some hc
      obtain ⟨b, hb, hw⟩ := hR n cs _ hcl hy
      exact ⟨cs, b, hcl, hcc, hb, fun _ => hw⟩
    obtain ⟨rows, bs, hv1, hL1, hall⟩ := choose3 (fun i cs b => cs.length = size ∧ (∀ j, j < size → W.cell? ((x.add (i * size)).add j) = cs[j]?) ∧ R cs b ∧ ∀ (h2 : i < elems.length), wt b + 1 ≤ Rows.uptoBulk elems[i].1) l each
    have hrl : ∀ r ∈ rows, r.length = size := by
      intro r hr
      obtain ⟨i, hi, rfl⟩ := List.getElem_of_mem hr
      exact (hall i hi (by omega)).1
    have hfl : rows.flatten.length = bs.length * size := by
      have : ∀ (rs : List (List Value)), (∀ r ∈ rs, r.length = size) → rs.flatten.length = rs.length * size := by
        intro rs
        induction rs with
        | nil => intro _; simp
        | cons r rs ih =>
          intro h
          rw [List.flatten_cons, List.length_append, ih fun r h' => h r (by simp [h']), h r (by simp), List.length_cons, Nat.add_mul]
          omega
      rw [this rows hrl, hv1, hL1]
    refine ⟨rows, bs, by omega, hrl, ⟨hfl, some x, cap, by rw [hL1], by omega, hm, (fun h => by cases h), fun hp => ?_⟩, fun i h1 h2 => (hall i h1 h2).2.2.1, ?_⟩
    · obtain ⟨b, off, spot⟩ := x
      have h0 := (hall 0 (by omega) (by omega)).2.1 0 hsz
      have hs : spot = none := by
        cases spot with
        | none => rfl
        | some s =>
          have hr0 := hrl rows[0] (List.getElem_mem (by omega))
          rw [Nat.zero_mul, List.getElem?_eq_getElem (by omega)] at h0
          simp only [Addr.add, if_true, World.cell?] at h0
          split at h0 <;> simp at h0
      subst hs
      refine ⟨b, off, rfl, fun j u hu => ?_⟩
      have hj : j < rows.flatten.length := (List.getElem?_eq_some_iff.1 hu).1
      have hji : j / size < l := by
        rw [hfl, hL1] at hj
        exact Nat.div_lt_of_lt_mul (by rw [Nat.mul_comm]; exact hj)
      have hjm : j % size < size := Nat.mod_lt _ hsz
      have ej : j = j / size * size + j % size := by rw [Nat.mul_comm]; exact (Nat.div_add_mod j size).symm
      have h1 := (hall (j / size) (by omega) (by omega)).2.1 (j % size) hjm
      have h2 := flat_at rows hrl (j / size) (j % size) hjm
      rw [← ej, hu, List.getElem?_eq_getElem (by omega), Option.bind_some] at h2
      rw [← h2] at h1
      have ea : ((⟨b, off, none⟩ : Addr).add (j / size * size)).add (j % size) = ⟨b, off + j, none⟩ := by
        rw [addr_add, addr_add]
        congr 1
        omega
      rw [ea] at h1
      exact h1
    · subst hd
      have h1 := sum_le wt bs (elems.map (·.1)) (by rw [List.length_map]; omega) fun i h1 h2 => by
        have h3 : i < elems.length := by rw [List.length_map] at h2; exact h2
        have := (hall i (by omega) h1).2.2.2 h3
        rw [List.getElem_map]; exact this
      simp only [Rows.uptoBulk]
      omega
end
end Go.Proofs.Ytcfjdldlcdomgaa.Up
