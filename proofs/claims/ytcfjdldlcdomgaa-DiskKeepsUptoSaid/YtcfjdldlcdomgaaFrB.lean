/- The walks of layer 5, frame, and of the sum it leans on: sizes; the table; the sum by the table and bit by bit. -/
import Derived.Test.YtcfjdldlcdomgaaFrA
namespace Go.Proofs.FrW
open Go Go.RowKit Go.Tk

def sizeF (n : Int) : Int := if n < 0 then 0 else if 4194304 < n then 0 else n + 9
theorem size_any (n : Int) (w : World) : Calls Try.prog 20 #[.int .i64 n] w fun e w' => e = .returned (.int .i64 (sizeF n)) ∧ w = w' := by
  unfold sizeF
  by_cases h1 : n < 0
  · go_enter Try.func20, Try.ntmps20
    go_wp2
    go_ret
    exact ⟨by simp [h1], rfl⟩
  · by_cases h2 : 4194304 < n
    · go_enter Try.func20, Try.ntmps20
      go_wp2
      go_ret
      exact ⟨by simp [h1, h2], rfl⟩
    · go_enter Try.func20, Try.ntmps20
      go_wp2
      go_ret
      exact ⟨by simp [h1, h2]; omega, rfl⟩
theorem sizeR_any (n : Int) (w : World) : Calls Try.prog 21 #[.int .i64 n] w fun e w' => e = .returned (.int .i64 (sizeF n)) ∧ w = w' := by
  unfold sizeF
  by_cases h1 : n < 0
  · go_enter Try.func21, Try.ntmps21
    go_wp2
    go_ret
    exact ⟨by simp [h1], rfl⟩
  · by_cases h2 : 4194304 < n
    · go_enter Try.func21, Try.ntmps21
      go_wp2
      go_ret
      exact ⟨by simp [h1, h2], rfl⟩
    · go_enter Try.func21, Try.ntmps21
      go_wp2
      go_ret
      exact ⟨by simp [h1, h2], rfl⟩
set_option maxHeartbeats 400000 in
set_option maxRecDepth 100000 in
theorem four_any (w : World) (base : Nat) (v : Value) (xs : List UInt8) (n : Nat) (hn : n < 4294967296) (h : w.ownsRow base 5 1 v xs.length (bv xs)) (hb : xs.length ≤ 140737488355000) (hbase : base ≤ w.heap.size) :
    Calls Try.prog 142 #[v, .int .u32 (n : Int)] w fun e w' => ∃ v', e = .returned v' ∧ w'.ownsRow base 5 1 v' (xs ++ by4 n).length (bv (xs ++ by4 n)) ∧ w.grownBy w' v.ownBlock ∧ (v'.ownBlock = v.ownBlock ∨ ∃ g, v'.ownBlock = some g ∧ w.heap.size ≤ g) := by
  have h' := Lib.hid h
  have hb' := Lib.hid hb
  have hn' := Lib.hid hn
  clear h hb hn
  go_enter Try.func142, Try.ntmps142
  go_wp2_with (at_builtin; refine wpList_append_bytes (P := Try.prog) Try.underlying22 info5 rfl (.tmp 5) (.tmp 17) rfl rfl (h'.out.alloc _) rfl (new_bytes w (by4 n) _ 5 4 rfl (by4_eq n) (by simp [maxLen])) (bv_one _) (by have := hb'.out; omega) (by simp; omega) ?_; intro v1 w1 ho1 hg1 hn1 hf1; have Ho1 := Lib.hid ho1; have Hg1 := Lib.hid hg1; have Hf1 := Lib.hid hf1; clear ho1 hg1 hn1 hf1)
  go_ret
  exact ⟨_, rfl, by rw [List.length_append, bv_append]; exact Ho1.out, alloc_grown Hg1.out, own_fresh_alloc Hf1.out⟩

/-! ### the table -/
theorem s1_odd {n : Nat} (h : n % 2 = 1) : ((Fr.s1 n : Nat) : Int) = ((n / 2 ^^^ 3988292384 : Nat) : Int) := by unfold Fr.s1; rw [if_pos h]
theorem s1_even {n : Nat} (h : n % 2 = 0) : ((Fr.s1 n : Nat) : Int) = ((n / 2 : Nat) : Int) := by unfold Fr.s1; rw [if_neg (by omega)]
/-- what the inner loop has made of i behind k rounds -/
def skL : Nat → Nat → Nat
  | 0, n => n
  | k + 1, n => Fr.s1 (skL k n)
theorem skL_s1 (k n : Nat) : skL k (Fr.s1 n) = Fr.s1 (skL k n) := by
  induction k with
  | zero => rfl
  | succ k ih => simp only [skL]; rw [ih]
theorem skL_eq (k : Nat) : ∀ n, skL k n = Fr.sk k n := by
  induction k with
  | zero => intro n; rfl
  | succ k ih => intro n; simp only [skL, Fr.sk]; rw [← ih, skL_s1]
theorem skL_lt (k : Nat) {n : Nat} (h : n < 2 ^ 32) : skL k n < 2 ^ 32 := by rw [skL_eq]; exact Fr.sk_lt k h

theorem info196 : (Try.prog.info? 196).map (fun i => (i.zero, i.size, i.bytes)) = some (some (.agg (Array.replicate 256 (.int .u32 0))), 256, 1024) := by kernel_rfl
/-- the table -/
def crcTab : Array Value := ((List.range 256).map fun i => Value.int .u32 (Fr.sk 8 i : Int)).toArray
theorem crcTab_size : crcTab.size = 256 := by simp [crcTab]
theorem crcTab_at (i : Nat) (h : i < 256) : crcTab[i]? = some (.int .u32 (Fr.sk 8 i : Int)) := by simp [crcTab, h]
theorem crcTab_one : ∀ v ∈ crcTab.toList, v.oneCell' = true := by intro v hv; simp [crcTab] at hv; obtain ⟨i, _, rfl⟩ := hv; rfl
theorem crcTab_info : (Try.prog.info? 196).map (·.size) = some crcTab.size := by rw [crcTab_size]; kernel_rfl
/-- the table as far as it is made -/
def Tab (g k : Nat) (w : World) : Prop := ∃ cs : Array Value, w.heap[g]? = some (.cells cs 196 (0, 0)) ∧ cs.size = 256 ∧ ∀ i, i < k → cs[i]? = some (.int .u32 (Fr.sk 8 i : Int))
theorem Tab.cell {g k : Nat} {w : World} (h : Tab g k w) (j : Nat) (hj : j < 256) : (∃ v, w.cell? ⟨g, j, none⟩ = some v) ∧ w.frozen? ⟨g, j, none⟩ = false := by
  obtain ⟨cs, hg, hs, _⟩ := h
  exact ⟨⟨cs[j], by rw [cell_of_row w g j cs 196 (0, 0) hg]; simp [hs, hj]⟩, frozen_of_row w g j cs 196 hg⟩
theorem Tab.set {g k : Nat} {w : World} (h : Tab g k w) (hk : k < 256) : Tab g (k + 1) (w.setCell ⟨g, k, none⟩ (.int .u32 (Fr.sk 8 k : Int))) := by
  obtain ⟨cs, hg, hs, hc⟩ := h
  refine ⟨_, heap_setCell_same w g k cs 196 _ hg, by simpa using hs, fun i hi => ?_⟩
  rw [Array.getElem?_setIfInBounds]
  by_cases e : k = i
  · subst e; simp [hs, hk]
  · rw [if_neg e]; exact hc i (by omega)
theorem Tab.full {g : Nat} {w : World} (h : Tab g 256 w) : w.heap[g]? = some (.cells crcTab 196 (0, 0)) := by
  obtain ⟨cs, hg, hs, hc⟩ := h
  rw [hg]
  congr 2
  apply Array.ext (by rw [hs, crcTab_size])
  intro i h1 h2
  have := hc i (by omega)
  have h3 := crcTab_at i (by omega)
  rw [Array.getElem?_eq_getElem h1] at this
  rw [Array.getElem?_eq_getElem h2] at h3
  exact Option.some.inj (this.trans h3.symm)
theorem and1 {x : Nat} (h : x < 4294967296) : bits BinOp.and IntKind.u32 (x : Int) 1 = ((x % 2 : Nat) : Int) := by
  have := u32_and_nat x 1 h (by omega)
  rw [show ((1 : Nat) : Int) = 1 from rfl] at this
  rw [this, nat_mask1]
theorem xorP {x : Nat} (h : x < 4294967296) (h1 : x % 2 = 1) : bits BinOp.xor IntKind.u32 ((x : Int) / 2) 3988292384 = ((Fr.s1 x : Nat) : Int) := by
  have := u32_xor_nat (x / 2) 3988292384 (by omega) (by omega)
  rw [show (((x / 2 : Nat) : Int)) = (x : Int) / 2 from by omega, show ((3988292384 : Nat) : Int) = 3988292384 from rfl] at this
  rw [this, s1_odd h1]
theorem shr1 {x : Nat} (h1 : x % 2 = 0) : (x : Int) / 2 = ((Fr.s1 x : Nat) : Int) := by rw [s1_even h1]; omega
set_option maxRecDepth 100000 in
theorem table_any (w : World) : Calls Try.prog 141 #[] w fun e w' => e = .returned (.agg crcTab) ∧ Mk w w' := by
  go_enter Try.func141, Try.ntmps141
  go_wp2
  obtain ⟨w0, hw0⟩ : ∃ w0, (w.alloc (Obj.cells Try.zeroCells196 196)).alloc (Obj.cells Try.zeroCells196 196) = w0 := ⟨_, rfl⟩
  have T0 : Tab (w.heap.size + 1) 0 w0 := by subst hw0; exact ⟨_, by have := heap_alloc_new (w.alloc (Obj.cells Try.zeroCells196 196)) (Obj.cells Try.zeroCells196 196); simpa using this, by kernel_rfl, fun i hi => by omega⟩
  have Z0 : w0.heap[w.heap.size]? = some (.cells Try.zeroCells196 196 (0, 0)) := by subst hw0; rw [Below.heap_alloc _ _ _ (by simp)]; exact heap_alloc_new _ _
  have B0 : Mk w w0 := by subst hw0; exact (mk_alloc _ _).alloc (by simp) _
  rw [hw0]
  clear hw0
  go_loopw [4] (fun i wr => ∃ k : Nat, k ≤ 256 ∧ i = .int .i64 k ∧ Tab (w.heap.size + 1) k wr ∧ Mk w wr ∧ wr.heap[w.heap.size]? = some (.cells Try.zeroCells196 196 (0, 0))) (fun i _ => 256 - (intOf i).toNat)
  case atStart => exact ⟨0, by omega, rfl, T0, B0, Z0⟩
  case round =>
    obtain ⟨k, hk, rfl, hT, hB, hZ⟩ := hrel
    have HZ := Lib.hid hZ
    have HT := Lib.hid hT
    have HB := Lib.hid hB
    clear hT hB hZ T0 B0 Z0
    by_cases hlt : k < 256
    · go_wp2
      go_loop [3, 9] (fun n j => ∃ m : Nat, m ≤ 8 ∧ j = .int .i64 m ∧ n = .int .u32 (skL m k : Int)) (fun _ j => 8 - (intOf j).toNat)
      case atStart => exact ⟨0, by omega, rfl, rfl⟩
      case round =>
        obtain ⟨m, hm, rfl, rfl⟩ := hrel
        by_cases hlm : m < 8
        · obtain ⟨x, hx⟩ : ∃ x, x = skL m k := ⟨_, rfl⟩
          have hxl : x < 4294967296 := by rw [hx]; exact skL_lt m (by omega)
          have hs : Fr.s1 x = skL (m + 1) k := by rw [hx]; rfl
          rw [← hx]
          have Hs := Lib.hid hs
          have Hxl := Lib.hid hxl
          clear hx hs hxl
          by_cases hp : x % 2 = 1
          · have hb : (bits BinOp.and IntKind.u32 (x : Int) 1 == 1) = true := by rw [and1 Hxl.out, hp]; rfl
            have Hp := Lib.hid hp
            clear hp
            go_wp2
            go_round
            case rel => exact ⟨m + 1, by omega, by go_num, by rw [xorP Hxl.out Hp.out, Hs.out]⟩
            case measure => simp [intOf]; omega
          · have hb : (bits BinOp.and IntKind.u32 (x : Int) 1 == 1) = false := by rw [and1 Hxl.out, show x % 2 = 0 by omega]; rfl
            have Hp := Lib.hid hp
            clear hp
            go_wp2
            go_round
            case rel => exact ⟨m + 1, by omega, by go_num, by rw [shr1 (by have := Hp.out; omega), Hs.out]⟩
            case measure => simp [intOf]; omega
        · obtain ⟨⟨v0, hc0⟩, hf0⟩ := HT.out.cell k hlt
          obtain rfl : m = 8 := by omega
          go_wp2
          go_roundw
          case rel => exact ⟨k + 1, by omega, by go_num, by rw [skL_eq]; exact HT.out.set hlt, HB.out.setCell (by simp) _, by rw [Below.heap_setCell _ _ _ _ (by simp)]; exact HZ.out⟩
          case measure => simp [intOf]; omega
    · have hfull : wr.heap[w.heap.size + 1]? = some (.cells crcTab 196 (0, 0)) := by
        obtain rfl : k = 256 := by omega
        exact HT.out.full
      have hz := HZ.out
      have HF := Lib.hid hfull
      have HZ2 := Lib.hid hz
      clear hfull hz
      go_wp2_with (first | (refine wpList_load_row rfl 196 (.tmp 1) rfl (w.heap.size + 1) rfl 196 _ _ _ HF.out Try.underlying196 rfl crcTab_info ?_) | (refine wpList_store_row rfl 196 (.tmp 0) (.tmp 24) rfl w.heap.size crcTab rfl rfl 196 _ HZ2.out crcTab_info (by rw [crcTab_size]; kernel_rfl) (by rw [Array.all_eq_true']; intro v hv; exact crcTab_one v (by simpa using hv)) ?_))
      have hr := setRow_has wr w.heap.size _ crcTab 196 HZ.out
      exact bodyPost_ret (results_cell_row rfl _ _ w.heap.size 196 _ _ _ rfl hr Try.underlying196 rfl crcTab_info) rfl ⟨rfl, mk_setRow HB.out (Nat.le_refl _) _⟩
end Go.Proofs.FrW
