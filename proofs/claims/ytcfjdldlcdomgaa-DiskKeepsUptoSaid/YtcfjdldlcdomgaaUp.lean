/- What the readings of arguments give: bytes as a list, the bound of the second form. -/
import Derived.Test.YtcfjdldlcdomgaaRows
import Derived.Test.YtcfjdldlcdomgaaTk
import Derived.WalkKit
import Derived.ProofKit
import Derived.OpenShut
import Derived.ShutString
import Derived.ChangeOld
import Derived.Below
import Derived.JoinedCond
namespace Go.Proofs.Ytcfjdldlcdomgaa.Up
open Go Go.ChangeShapes Go.WideShapes Go.ChangeAt Go.RowKit Go.Tk

theorem own : ownKnob Try.prog.godebug = none := by kernel_rfl
theorem laidOut : laidOutB Try.prog = true := by kernel_rfl

theorem one_le {H : Type} (d : DataW H) : 1 ≤ Rows.uptoBulk d := by
  cases d with
  | lit l => cases l <;> simp [Rows.uptoBulk]
  | nil => simp [Rows.uptoBulk]
  | ptr d => simp [Rows.uptoBulk]
  | slice elems spare => simp [Rows.uptoBulk]
  | agg parts => simp [Rows.uptoBulk]
  | iface t d => simp [Rows.uptoBulk]
  | map entries => simp [Rows.uptoBulk]
  | held h => simp [Rows.uptoBulk]
theorem length_le {H : Type} (l : List (DataW H)) : l.length ≤ Rows.uptoBulkAll l := by
  induction l with
  | nil => simp [Rows.uptoBulkAll]
  | cons x r ih => have := one_le x; simp only [Rows.uptoBulkAll, List.length_cons]; omega
theorem bound {H : Type} {l : List (DataW H)} (hk : Rows.uptoSmall H l = true) : Rows.uptoBulkAll l ≤ 1048576 := by
  simpa [Rows.uptoSmall] using hk

/-- Integers that fit a byte are bytes. -/
theorem byte_of {n : Int} (h : (Lit.int .u8 n).wf = true) : ∃ c : UInt8, n = (c.toNat : Int) := by
  have h2 : 0 ≤ n ∧ n < 256 := by
    simp only [Lit.wf, Bool.and_eq_true, decide_eq_true_eq] at h
    have e1 : IntKind.u8.min = 0 := by kernel_rfl
    have e2 : IntKind.u8.max = 255 := by kernel_rfl
    omega
  refine ⟨UInt8.ofNat n.toNat, ?_⟩
  rw [UInt8.toNat_ofNat_of_lt' (by show n.toNat < 256; omega)]
  omega
theorem bytes_of : ∀ zs : List Int, (∀ n ∈ zs, (Lit.int .u8 n).wf = true) → ∃ xs : List UInt8, zs.map (Value.int .u8) = bv xs ∧ xs.length = zs.length := by
  intro zs
  induction zs with
  | nil => exact fun _ => ⟨[], rfl, rfl⟩
  | cons z r ih =>
    intro h
    obtain ⟨c, rfl⟩ := byte_of (h z (by simp))
    obtain ⟨xs, hx, hl⟩ := ih fun n hn => h n (by simp [hn])
    exact ⟨c :: xs, by simp [bv] at hx ⊢; exact hx, by simp [hl]⟩

section
variable {H : Type} {enc : TypeId × Value → H} {W : World} {base : Nat} {v : Value} {d : DataW H} {p : List MemPlace} {sp hd : Nat → Bool}

theorem bulk_lits (k : IntKind) (zs : List Int) : (lits (H := H) k zs).length = zs.length := by simp [lits]

set_option maxRecDepth 100000 in
theorem bytes_open (hv : Value.okWide Try.prog W .any base 22 v) (h : DataW.Trod enc Try.prog W 0 (fun _ => true) true 22 v d p) :
    ∃ xs, Bs W v xs ∧ xs.length + 1 ≤ Rows.uptoBulk d := by
  obtain ⟨a, len, cap, rfl⟩ := okWide_slice Try.underlying22 hv
  obtain ⟨fuel, hf⟩ := h
  rcases open_ints Try.underlying22 Try.underlying5 (by kernel_rfl) hf with ⟨hcs, hx⟩ | ⟨x, l, c, zs, hcs, _, hl, hm, hz, hx, hcell, hwz⟩
  · simp [Value.cells] at hcs
    obtain ⟨rfl, rfl, rfl⟩ := hcs
    exact ⟨[], ⟨rfl, none, 0, rfl, Nat.le_refl _, Nat.zero_le _, fun _ => rfl, fun h => absurd h (by simp)⟩, one_le d⟩
  · simp [Value.cells] at hcs
    obtain ⟨rfl, rfl, rfl⟩ := hcs
    simp only [if_true] at hz
    obtain ⟨xs, hb, hlx⟩ := bytes_of zs hwz
    have hd : d = .slice (lits .u8 (zs.take len)) (lits .u8 (zs.drop len)) := (Prod.mk.inj hx).1
    refine ⟨xs.take len, ?_, ?_⟩
    · have hl2 : (xs.take len).length = len := by simp; omega
      refine ⟨by rw [bv_length]; omega, some x, cap, by rw [hl2], by omega, hm, (fun h => by cases h), fun hp => ?_⟩
      obtain ⟨b, off, spot⟩ := x
      have h0 := hcell 0 (by omega)
      have hs : spot = none := by
        cases spot with
        | none => rfl
        | some s =>
          simp only [Addr.add, if_true, World.cell?] at h0
          split at h0 <;> simp at h0
      subst hs
      refine ⟨b, off, rfl, fun j u hu => ?_⟩
      have hj : j < (bv (xs.take len)).length := (List.getElem?_eq_some_iff.1 hu).1
      rw [bv_length] at hj
      have e1 : (bv (xs.take len))[j]? = some (.int .u8 (zs.getD j 0)) := by
        have : bv (xs.take len) = (bv xs).take len := by simp [bv, List.map_take]
        rw [this, List.getElem?_take, if_pos (by omega), ← hb, List.getElem?_map, List.getD_eq_getElem?_getD, List.getElem?_eq_getElem (by omega)]
        rfl
      rw [e1] at hu
      have hc := hcell j (by omega)
      rw [← hu, ← hc]
      by_cases hj0 : j = 0 <;> simp [hj0, Addr.add]
    · subst hd
      have h1 := length_le (lits (H := H) .u8 (zs.take len))
      rw [bulk_lits] at h1
      simp only [Rows.uptoBulk]
      have h2 : (xs.take len).length = (zs.take len).length := by simp; omega
      omega
end
#print axioms bytes_open
end Go.Proofs.Ytcfjdldlcdomgaa.Up
