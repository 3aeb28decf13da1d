/- The walks of layer 5, frame: the sum of 32 bits, by the table and bit by bit. -/
import Derived.Test.YtcfjdldlcdomgaaFrB
namespace Go.Proofs.FrW
open Go Go.RowKit Go.Tk

theorem bs_at {w : World} {a : Option Addr} {cap : Nat} {xs : List UInt8} (h : Bs w (.slice a xs.length cap) xs) (k : Nat) (hk : k < xs.length) :
    ∃ b off, a = some ⟨b, off, none⟩ ∧ w.cell? ⟨b, off + k, none⟩ = some (.int .u8 ((xs[k]).toNat : Int)) := by
  obtain ⟨b, off, rfl, hc⟩ := h.cellAt (by omega)
  exact ⟨b, off, rfl, hc k _ (bv_get xs k hk)⟩

theorem not32 {x : Nat} (h : x < 4294967296) : bits BinOp.xor IntKind.u32 IntKind.u32.max (x : Int) = ((4294967295 - x : Nat) : Int) := by
  have := u32_xor_nat 4294967295 x (by omega) h
  rw [show IntKind.u32.max = ((4294967295 : Nat) : Int) from rfl, this]
  congr 1
  apply Nat.eq_of_testBit_eq
  intro i
  have h1 := Nat.testBit_two_pow_sub_succ (n := 32) (x := x) h i
  have h2 := Nat.testBit_two_pow_sub_one 32 i
  rw [show 4294967295 - x = 2 ^ 32 - (x + 1) by omega, h1, Nat.testBit_xor, show (4294967295 : Nat) = 2 ^ 32 - 1 by decide, h2]
  by_cases hi : i < 32
  · simp [hi]
  · have : x.testBit i = false := Nat.testBit_lt_two_pow (Nat.lt_of_lt_of_le h (Nat.pow_le_pow_right (n := 2) (i := 32) (by decide) (by omega)))
    simp [hi, this]
theorem ret_int {k : IntKind} {a b : Int} (h : a = b) : Ending.returned (.int k a) = .returned (.int k b) := by rw [h]
set_option maxRecDepth 100000 in
theorem crc_any (w : World) (v : Value) (xs : List UInt8) (h : Bs w v xs) (hb : xs.length ≤ 140737488355328) :
    Calls Try.prog 76 #[v] w fun e w' => e = .returned (.int .u32 (Fr.crc xs : Int)) ∧ Mk w w' := by
  obtain ⟨a, cap, rfl, _, _⟩ := h.form
  have H := Lib.hid h
  have HBd := Lib.hid hb
  clear h hb
  go_enter Try.func76, Try.ntmps76
  go_wp2_with (first | (go_at_call 141; refine (table_any _).mono ?_; rintro e w1 ⟨rfl, hm⟩; have HM := Lib.hid hm; clear hm) | (refine wpList_store_row rfl 196 (.tmp 3) (.tmp 7) rfl w1.heap.size crcTab rfl rfl 196 _ (heap_alloc_new _ _) crcTab_info (by rw [crcTab_size]; kernel_rfl) (by rw [Array.all_eq_true']; intro v hv; exact crcTab_one v (by simpa using hv)) ?_))
  obtain ⟨w2, hw2⟩ : ∃ w2, (w1.alloc (Obj.cells Try.zeroCells196 196)).setRow w1.heap.size crcTab = w2 := ⟨_, rfl⟩
  have M2 : Mk w w2 := by subst hw2; exact mk_setRow (HM.out.alloc HM.out.size _) HM.out.size _
  have T2 : w2.heap[w1.heap.size]? = some (.cells crcTab 196 (0, 0)) := by subst hw2; exact setRow_has _ _ _ _ _ (heap_alloc_new _ _)
  have B2 : Bs w2 (.slice a xs.length cap) xs := H.out.mk M2
  rw [hw2]
  have HM2 := Lib.hid M2
  have HT2 := Lib.hid T2
  have HB2 := Lib.hid B2
  clear hw2 M2 T2 B2
  go_loop [4, 10] (fun n i => ∃ k : Nat, k ≤ xs.length ∧ i = .int .i64 k ∧ n = .int .u32 (Fr.run 4294967295 (xs.take k) : Int)) (fun _ i => xs.length - (intOf i).toNat)
  case atStart => exact ⟨0, by omega, rfl, rfl⟩
  case round =>
    obtain ⟨k, hk, rfl, rfl⟩ := hrel
    have hkm : k ≤ 140737488355328 := by have := HBd.out; omega
    obtain ⟨x, hx⟩ : ∃ x, x = Fr.run 4294967295 (xs.take k) := ⟨_, rfl⟩
    have hxl : x < 4294967296 := by rw [hx]; exact Fr.run_lt _ (by decide)
    rw [← hx]
    have Hx := Lib.hid hx
    clear hx
    by_cases hlt : k < xs.length
    · obtain ⟨b, off, rfl, hc⟩ := bs_at HB2.out k hlt
      obtain ⟨c, hcc⟩ : ∃ c, c = xs[k] := ⟨_, rfl⟩
      rw [← hcc] at hc
      have hcl := c.toNat_lt
      obtain ⟨j, hj⟩ : ∃ j, j = (x % 256 ^^^ c.toNat) := ⟨_, rfl⟩
      have hjl : j < 256 := by rw [hj]; exact Nat.xor_lt_two_pow (n := 8) (by omega) hcl
      have hxor : bits BinOp.xor IntKind.u8 ((x : Int) % 256) (c.toNat : Int) = (j : Int) := by
        have := u8_xor_nat (x % 256) c.toNat (by omega) hcl
        rw [hj, ← this]; rfl
      have hcell : w2.cell? ⟨w1.heap.size, j, none⟩ = some (.int .u32 (Fr.sk 8 j : Int)) := by
        rw [cell_of_row _ _ _ _ _ _ HT2.out]; exact crcTab_at j hjl
      have hstep : bits BinOp.xor IntKind.u32 ((x : Int) / 256) (Fr.sk 8 j : Int) = ((Fr.stepT x c.toNat : Nat) : Int) := by
        have := u32_xor_nat (x / 256) (Fr.sk 8 j) (by omega) (Fr.sk_lt 8 (by omega))
        rw [hj] at this ⊢
        exact this
      have Hstep := Lib.hid hstep
      have Hcc := Lib.hid hcc
      have Hj := Lib.hid hj
      have hj0 : (0 : Int) ≤ (j : Int) := by omega
      have hj1 : (j : Int) < 256 := by omega
      clear hstep hcc hj hjl hcl
      go_wp2
      go_round
      case rel =>
        refine ⟨k + 1, by omega, by go_num, ?_⟩
        rw [List.take_succ_eq_append_getElem hlt, Fr.run_snoc, ← Hcc.out, ← Hx.out, ← Fr.stepT_eq]
        exact congrArg (Value.int IntKind.u32) Hstep.out
      case measure => simp [intOf]; omega
    · go_wp2
      go_ret
      refine ⟨?_, HM2.out⟩
      have e : x = Fr.run 4294967295 xs := by rw [Hx.out, List.take_of_length_le (by omega)]
      have := not32 hxl
      rw [e] at this
      exact e ▸ ret_int this

set_option maxRecDepth 100000 in
theorem crcR_any (w : World) (v : Value) (xs : List UInt8) (h : Bs w v xs) (hb : xs.length ≤ 140737488355328) :
    Calls Try.prog 81 #[v] w fun e w' => e = .returned (.int .u32 (Fr.crc xs : Int)) ∧ w = w' := by
  obtain ⟨a, cap, rfl, _, _⟩ := h.form
  have H := Lib.hid h
  have HBd := Lib.hid hb
  clear h hb
  go_enter Try.func81, Try.ntmps81
  go_wp2_with fail
  go_loop [3, 4] (fun n i => ∃ k : Nat, k ≤ xs.length ∧ i = .int .i64 k ∧ n = .int .u32 (Fr.run 4294967295 (xs.take k) : Int)) (fun _ i => xs.length - (intOf i).toNat)
  case atStart => exact ⟨0, by omega, rfl, rfl⟩
  case round =>
    obtain ⟨k, hk, rfl, rfl⟩ := hrel
    have hkm : k ≤ 140737488355328 := by have := HBd.out; omega
    obtain ⟨x, hx⟩ : ∃ x, x = Fr.run 4294967295 (xs.take k) := ⟨_, rfl⟩
    have hxl : x < 4294967296 := by rw [hx]; exact Fr.run_lt _ (by decide)
    rw [← hx]
    have Hx := Lib.hid hx
    clear hx
    by_cases hlt : k < xs.length
    · obtain ⟨b, off, rfl, hc⟩ := bs_at H.out k hlt
      obtain ⟨c, hcc⟩ : ∃ c, c = xs[k] := ⟨_, rfl⟩
      rw [← hcc] at hc
      have hcl := c.toNat_lt
      have hc0 : 0 ≤ (c.toNat : Int) ∧ (c.toNat : Int) ≤ 255 := u8le c
      obtain ⟨y, hy⟩ : ∃ y, y = x ^^^ c.toNat := ⟨_, rfl⟩
      have hyl : y < 4294967296 := by rw [hy]; exact Nat.xor_lt_two_pow (n := 32) hxl (by omega)
      have hxor : bits BinOp.xor IntKind.u32 (x : Int) (c.toNat : Int) = (y : Int) := by
        have := u32_xor_nat x c.toNat hxl (by omega)
        rw [hy, ← this]
      have Hcc := Lib.hid hcc
      have Hy := Lib.hid hy
      have Hyl := Lib.hid hyl
      clear hcc hy hcl hyl
      obtain ⟨hc1, hc2⟩ := hc0
      go_wp2
      go_loop [3, 5] (fun n j => ∃ m : Nat, m ≤ 8 ∧ j = .int .i64 m ∧ n = .int .u32 (skL m y : Int)) (fun _ j => 8 - (intOf j).toNat)
      case atStart => exact ⟨0, by omega, rfl, rfl⟩
      case round =>
        obtain ⟨m, hm, rfl, rfl⟩ := hrel
        by_cases hlm : m < 8
        · obtain ⟨z, hz⟩ : ∃ z, z = skL m y := ⟨_, rfl⟩
          have hzl : z < 4294967296 := by rw [hz]; exact skL_lt m Hyl.out
          have hs : Fr.s1 z = skL (m + 1) y := by rw [hz]; rfl
          rw [← hz]
          have Hs := Lib.hid hs
          have Hzl := Lib.hid hzl
          clear hz hs hzl
          by_cases hp : z % 2 = 1
          · have hb : (bits BinOp.and IntKind.u32 (z : Int) 1 == 1) = true := by rw [and1 Hzl.out, hp]; rfl
            have Hp := Lib.hid hp
            clear hp
            go_wp2
            go_round
            case rel => exact ⟨m + 1, by omega, by go_num, by rw [xorP Hzl.out Hp.out, Hs.out]⟩
            case measure => simp [intOf]; omega
          · have hb : (bits BinOp.and IntKind.u32 (z : Int) 1 == 1) = false := by rw [and1 Hzl.out, show z % 2 = 0 by omega]; rfl
            have Hp := Lib.hid hp
            clear hp
            go_wp2
            go_round
            case rel => exact ⟨m + 1, by omega, by go_num, by rw [shr1 (by have := Hp.out; omega), Hs.out]⟩
            case measure => simp [intOf]; omega
        · go_wp2
          go_round
          case rel =>
            refine ⟨k + 1, by omega, by go_num, ?_⟩
            obtain rfl : m = 8 := by omega
            rw [List.take_succ_eq_append_getElem hlt, Fr.run_snoc, ← Hcc.out, ← Hx.out, skL_eq, Hy.out]
            rfl
          case measure => simp [intOf]; omega
    · go_wp2
      go_ret
      have e : x = Fr.run 4294967295 xs := by rw [Hx.out, List.take_of_length_le (by omega)]
      have := not32 hxl
      rw [e] at this
      exact ⟨e ▸ ret_int this, rfl⟩
end Go.Proofs.FrW
