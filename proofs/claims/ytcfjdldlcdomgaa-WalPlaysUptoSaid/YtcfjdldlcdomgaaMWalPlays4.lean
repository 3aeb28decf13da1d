/- The walks of layer 5, frame: the sum of 32 bits, by the table and bit by bit. The walks of layer 5, frame: the frame with which bytes begin. Layer 4, disk: the walks of the program's Read, Fuse, Crash, New. -/
import Derived.Test.YtcfjdldlcdomgaaMWalPlays3
set_option linter.unusedVariables false
set_option linter.unusedSimpArgs false
namespace Go.Proofs.FrW
open Go Go.RowKit Go.Tk

theorem bs_at {w : World} {a : Option Addr} {cap : Nat} {xs : List UInt8} (h : Bs w (.slice a xs.length cap) xs) (k : Nat) (hk : k < xs.length) :
    ∃ b off, a = some ⟨b, off, none⟩ ∧ w.cell? ⟨b, off + k, none⟩ = some (.int .u8 ((xs[k]).toNat : Int)) := by
  obtain ⟨b, off, rfl, hc⟩ := h.cellAt (by omega)
  exact ⟨b, off, rfl, hc k _ (bv_get xs k hk)⟩

theorem not32 {x : Nat} (h : x < 4294967296) : bits BinOp.xor IntKind.u32 IntKind.u32.max (x : Int) = ((4294967295 - x : Nat) : Int) := by
  have := u32_xor_nat 4294967295 x (by omega) h
  rw [show IntKind.u32.max = ((4294967295 : Nat) : Int) from rfl, this]
  congr 1
  apply Nat.eq_of_testBit_eq
  intro i
  have h1 := Nat.testBit_two_pow_sub_succ (n := 32) (x := x) h i
  have h2 := Nat.testBit_two_pow_sub_one 32 i
  rw [show 4294967295 - x = 2 ^ 32 - (x + 1) by omega, h1, Nat.testBit_xor, show (4294967295 : Nat) = 2 ^ 32 - 1 by decide, h2]
  by_cases hi : i < 32
  · simp [hi]
  · have : x.testBit i = false := Nat.testBit_lt_two_pow (Nat.lt_of_lt_of_le h (Nat.pow_le_pow_right (n := 2) (i := 32) (by decide) (by omega)))
    simp [hi, this]
theorem ret_int {k : IntKind} {a b : Int} (h : a = b) : Ending.returned (.int k a) = .returned (.int k b) := by rw [h]
set_option maxRecDepth 100000 in
theorem crc_any (w : World) (v : Value) (xs : List UInt8) (h : Bs w v xs) (hb : xs.length ≤ 140737488355328) :
    Calls Try.prog 76 #[v] w fun e w' => e = .returned (.int .u32 (Fr.crc xs : Int)) ∧ Mk w w' := by
  obtain ⟨a, cap, rfl, _, _⟩ := h.form
  have H := Lib.hid h
  have HBd := Lib.hid hb
  clear h hb
  go_enter Try.func76, Try.ntmps76
  go_wp2_with (first | (go_at_call 141; refine (table_any _).mono ?_; rintro e w1 ⟨rfl, hm⟩; have HM := Lib.hid hm; clear hm) | (refine wpList_store_row rfl 196 (.tmp 3) (.tmp 7) rfl w1.heap.size crcTab rfl rfl 196 _ (heap_alloc_new _ _) crcTab_info (by rw [crcTab_size]; kernel_rfl) (by rw [Array.all_eq_true']; intro v hv; exact crcTab_one v (by simpa using hv)) ?_))
  obtain ⟨w2, hw2⟩ : ∃ w2, (w1.alloc (Obj.cells Try.zeroCells196 196)).setRow w1.heap.size crcTab = w2 := ⟨_, rfl⟩
  have M2 : Mk w w2 := by subst hw2; exact mk_setRow (HM.out.alloc HM.out.size _) HM.out.size _
  have T2 : w2.heap[w1.heap.size]? = some (.cells crcTab 196 (0, 0)) := by subst hw2; exact setRow_has _ _ _ _ _ (heap_alloc_new _ _)
  have B2 : Bs w2 (.slice a xs.length cap) xs := H.out.mk M2
  rw [hw2]
  have HM2 := Lib.hid M2
  have HT2 := Lib.hid T2
  have HB2 := Lib.hid B2
  clear hw2 M2 T2 B2
  go_loop [4, 10] (fun n i => ∃ k : Nat, k ≤ xs.length ∧ i = .int .i64 k ∧ n = .int .u32 (Fr.run 4294967295 (xs.take k) : Int)) (fun _ i => xs.length - (intOf i).toNat)
  case atStart => exact ⟨0, by omega, rfl, rfl⟩
  case round =>
    obtain ⟨k, hk, rfl, rfl⟩ := hrel
    have hkm : k ≤ 140737488355328 := by have := HBd.out; omega
    obtain ⟨x, hx⟩ : ∃ x, x = Fr.run 4294967295 (xs.take k) := ⟨_, rfl⟩
    have hxl : x < 4294967296 := by rw [hx]; exact Fr.run_lt _ (by decide)
    rw [← hx]
    have Hx := Lib.hid hx
    clear hx
    by_cases hlt : k < xs.length
    · obtain ⟨b, off, rfl, hc⟩ := bs_at HB2.out k hlt
      obtain ⟨c, hcc⟩ : ∃ c, c = xs[k] := ⟨_, rfl⟩
      rw [← hcc] at hc
      have hcl := c.toNat_lt
      obtain ⟨j, hj⟩ : ∃ j, j = (x % 256 ^^^ c.toNat) := ⟨_, rfl⟩
      have hjl : j < 256 := by rw [hj]; exact Nat.xor_lt_two_pow (n := 8) (by omega) hcl
      have hxor : bits BinOp.xor IntKind.u8 ((x : Int) % 256) (c.toNat : Int) = (j : Int) := by
        have := u8_xor_nat (x % 256) c.toNat (by omega) hcl
        rw [hj, ← this]; rfl
      have hcell : w2.cell? ⟨w1.heap.size, j, none⟩ = some (.int .u32 (Fr.sk 8 j : Int)) := by
        rw [cell_of_row _ _ _ _ _ _ HT2.out]; exact crcTab_at j hjl
      have hstep : bits BinOp.xor IntKind.u32 ((x : Int) / 256) (Fr.sk 8 j : Int) = ((Fr.stepT x c.toNat : Nat) : Int) := by
        have := u32_xor_nat (x / 256) (Fr.sk 8 j) (by omega) (Fr.sk_lt 8 (by omega))
        rw [hj] at this ⊢
        exact this
      have Hstep := Lib.hid hstep
      have Hcc := Lib.hid hcc
      have Hj := Lib.hid hj
      have hj0 : (0 : Int) ≤ (j : Int) := by omega
      have hj1 : (j : Int) < 256 := by omega
      clear hstep hcc hj hjl hcl
      go_wp2
      go_round
      case rel =>
        refine ⟨k + 1, by omega, by go_num, ?_⟩
        rw [List.take_succ_eq_append_getElem hlt, Fr.run_snoc, ← Hcc.out, ← Hx.out, ← Fr.stepT_eq]
        exact congrArg (Value.int IntKind.u32) Hstep.out
      case measure => simp [intOf]; omega
    · go_wp2
      go_ret
      refine ⟨?_, HM2.out⟩
      have e : x = Fr.run 4294967295 xs := by rw [Hx.out, List.take_of_length_le (by omega)]
      have := not32 hxl
      rw [e] at this
      exact e ▸ ret_int this

set_option maxRecDepth 100000 in
theorem crcR_any (w : World) (v : Value) (xs : List UInt8) (h : Bs w v xs) (hb : xs.length ≤ 140737488355328) :
    Calls Try.prog 81 #[v] w fun e w' => e = .returned (.int .u32 (Fr.crc xs : Int)) ∧ w = w' := by
  obtain ⟨a, cap, rfl, _, _⟩ := h.form
  have H := Lib.hid h
  have HBd := Lib.hid hb
  clear h hb
  go_enter Try.func81, Try.ntmps81
  go_wp2_with fail
  go_loop [3, 4] (fun n i => ∃ k : Nat, k ≤ xs.length ∧ i = .int .i64 k ∧ n = .int .u32 (Fr.run 4294967295 (xs.take k) : Int)) (fun _ i => xs.length - (intOf i).toNat)
  case atStart => exact ⟨0, by omega, rfl, rfl⟩
  case round =>
    obtain ⟨k, hk, rfl, rfl⟩ := hrel
    have hkm : k ≤ 140737488355328 := by have := HBd.out; omega
    obtain ⟨x, hx⟩ : ∃ x, x = Fr.run 4294967295 (xs.take k) := ⟨_, rfl⟩
    have hxl : x < 4294967296 := by rw [hx]; exact Fr.run_lt _ (by decide)
    rw [← hx]
    have Hx := Lib.hid hx
    clear hx
    by_cases hlt : k < xs.length
    · obtain ⟨b, off, rfl, hc⟩ := bs_at H.out k hlt
      obtain ⟨c, hcc⟩ : ∃ c, c = xs[k] := ⟨_, rfl⟩
      rw [← hcc] at hc
      have hcl := c.toNat_lt
      have hc0 : 0 ≤ (c.toNat : Int) ∧ (c.toNat : Int) ≤ 255 := u8le c
      obtain ⟨y, hy⟩ : ∃ y, y = x ^^^ c.toNat := ⟨_, rfl⟩
      have hyl : y < 4294967296 := by rw [hy]; exact Nat.xor_lt_two_pow (n := 32) hxl (by omega)
      have hxor : bits BinOp.xor IntKind.u32 (x : Int) (c.toNat : Int) = (y : Int) := by
        have := u32_xor_nat x c.toNat hxl (by omega)
        rw [hy, ← this]
      have Hcc := Lib.hid hcc
      have Hy := Lib.hid hy
      have Hyl := Lib.hid hyl
      clear hcc hy hcl hyl
      obtain ⟨hc1, hc2⟩ := hc0
      go_wp2
      go_loop [3, 5] (fun n j => ∃ m : Nat, m ≤ 8 ∧ j = .int .i64 m ∧ n = .int .u32 (skL m y : Int)) (fun _ j => 8 - (intOf j).toNat)
      case atStart => exact ⟨0, by omega, rfl, rfl⟩
      case round =>
        obtain ⟨m, hm, rfl, rfl⟩ := hrel
        by_cases hlm : m < 8
        · obtain ⟨z, hz⟩ : ∃ z, z = skL m y := ⟨_, rfl⟩
          have hzl : z < 4294967296 := by rw [hz]; exact skL_lt m Hyl.out
          have hs : Fr.s1 z = skL (m + 1) y := by rw [hz]; rfl
          rw [← hz]
          have Hs := Lib.hid hs
          have Hzl := Lib.hid hzl
          clear hz hs hzl
          by_cases hp : z % 2 = 1
          · have hb : (bits BinOp.and IntKind.u32 (z : Int) 1 == 1) = true := by rw [and1 Hzl.out, hp]; rfl
            have Hp := Lib.hid hp
            clear hp
            go_wp2
            go_round
            case rel => exact ⟨m + 1, by omega, by go_num, by rw [xorP Hzl.out Hp.out, Hs.out]⟩
            case measure => simp [intOf]; omega
          · have hb : (bits BinOp.and IntKind.u32 (z : Int) 1 == 1) = false := by rw [and1 Hzl.out, show z % 2 = 0 by omega]; rfl
            have Hp := Lib.hid hp
            clear hp
            go_wp2
            go_round
            case rel => exact ⟨m + 1, by omega, by go_num, by rw [shr1 (by have := Hp.out; omega), Hs.out]⟩
            case measure => simp [intOf]; omega
        · go_wp2
          go_round
          case rel =>
            refine ⟨k + 1, by omega, by go_num, ?_⟩
            obtain rfl : m = 8 := by omega
            rw [List.take_succ_eq_append_getElem hlt, Fr.run_snoc, ← Hcc.out, ← Hx.out, skL_eq, Hy.out]
            rfl
          case measure => simp [intOf]; omega
    · go_wp2
      go_ret
      have e : x = Fr.run 4294967295 xs := by rw [Hx.out, List.take_of_length_le (by omega)]
      have := not32 hxl
      rw [e] at this
      exact ⟨e ▸ ret_int this, rfl⟩
end Go.Proofs.FrW

namespace Go.Proofs.FrW
open Go Go.RowKit Go.Tk

theorem sub_addr {w : World} {a : Option Addr} {n cap : Nat} {vs : List Value} (h : Sl w 1 (.slice a n cap) n vs) (lo hi c : Nat) (h1 : lo ≤ hi) (h2 : hi ≤ n) (h3 : hi ≤ c) (h4 : c ≤ cap) :
    Sl w 1 (.slice (if c = lo then a else a.map (·.add lo)) (hi - lo) (c - lo)) (hi - lo) ((vs.take hi).drop lo) := by
  have hh := h
  obtain ⟨hl, a', cap', he, hc1, hc2, hc3, hc4⟩ := h
  cases he
  refine ⟨by simp; omega, _, _, rfl, by omega, by omega, ?_, ?_⟩
  · intro hn
    split at hn
    · have := hc3 hn; omega
    · have : a = none := by cases a <;> simp_all
      have := hc3 this; omega
  · intro hp
    obtain ⟨b, off, rfl, hd⟩ := hc4 (by omega)
    refine ⟨b, off + lo, ?_, ?_⟩
    · rw [if_neg (by omega)]
      unfold Addr.add
      by_cases h0 : lo = 0 <;> simp [h0]
    · intro j u hu
      rw [List.getElem?_drop, List.getElem?_take] at hu
      split at hu
      · have := hd (lo + j) u hu
        rwa [← Nat.add_assoc] at this
      · cases hu

theorem sub_some {w : World} {b off n cap : Nat} {xs : List UInt8} (h : Bs w (.slice (some ⟨b, off, none⟩) n cap) xs) (hn : n = xs.length) (lo hi m c off' : Nat) (h1 : lo ≤ hi) (h2 : hi ≤ n) (hm : m = hi - lo) (hc : m ≤ c) (hc2 : c ≤ maxLen) (ho : off' = off + lo) :
    Bs w (.slice (some ⟨b, off', none⟩) m c) ((xs.take hi).drop lo) := by
  subst hn hm ho
  have hl : ((xs.take hi).drop lo).length = hi - lo := by simp; omega
  refine ⟨by simp [bv_length], _, _, by rw [hl], by omega, hc2, (fun h => by cases h), fun hp => ⟨b, off + lo, rfl, fun j u hu => ?_⟩⟩
  obtain ⟨b', off'', he, hd⟩ := h.cellAt (by omega)
  cases he
  have e : (bv ((xs.take hi).drop lo))[j]? = (bv xs)[lo + j]? := by
    have : j < hi - lo := by
      have := (List.getElem?_eq_some_iff.1 hu).1
      rw [bv_length, hl] at this; exact this
    simp only [bv, List.getElem?_map, List.getElem?_drop, List.getElem?_take]
    rw [if_pos (by omega)]
  rw [e] at hu
  have := hd (lo + j) u hu
  rwa [← Nat.add_assoc] at this

def le4? : List UInt8 → Nat
  | a :: b :: c :: d :: _ => le4 a b c d
  | _ => 0
theorem le4_lt (a b c d : UInt8) : le4 a b c d < 4294967296 := by
  have ha := a.toNat_lt; have hb := b.toNat_lt; have hc := c.toNat_lt; have hd := d.toNat_lt
  unfold le4; omega
/-- The frame with which bytes begin: kind, data, how many bytes it has. -/
def frameOf (xs : List UInt8) : Option (UInt8 × List UInt8 × Nat) :=
  if xs.length < 9 then none
  else if 4194304 < le4? (xs.drop 1) then none
  else if xs.length < le4? (xs.drop 1) + 9 then none
  else if le4? (xs.drop (5 + le4? (xs.drop 1))) = Fr.crc (xs.take (5 + le4? (xs.drop 1))) then some (xs.head?.getD 0, (xs.take (5 + le4? (xs.drop 1))).drop 5, 9 + le4? (xs.drop 1))
  else none
def FirstPost (xs : List UInt8) (w : World) (e : Ending) (w' : World) : Prop :=
  Mk w w' ∧ match frameOf xs with
  | none => e = .returned (.tuple #[.int .u8 0, .slice none 0 0, .int .i64 0])
  | some (k, dat, n) => ∃ dv, e = .returned (.tuple #[.int .u8 (k.toNat : Int), dv, .int .i64 (n : Int)]) ∧ Bs w dv dat

theorem frame_some {xs : List UInt8} (h1 : ¬ xs.length < 9) (h2 : ¬ 4194304 < le4? (xs.drop 1)) (h3 : ¬ xs.length < le4? (xs.drop 1) + 9)
    (h4 : le4? (xs.drop (5 + le4? (xs.drop 1))) = Fr.crc (xs.take (5 + le4? (xs.drop 1)))) :
    frameOf xs = some (xs.head?.getD 0, (xs.take (5 + le4? (xs.drop 1))).drop 5, 9 + le4? (xs.drop 1)) := by
  unfold frameOf; rw [if_neg h1, if_neg h2, if_neg h3, if_pos h4]
theorem ret3 {k d : Value} {a b : Int} (h : a = b) : Ending.returned (.tuple #[k, d, .int .i64 a]) = .returned (.tuple #[k, d, .int .i64 b]) := by rw [h]
theorem bs_empty (w : World) (a : Addr) : Bs w (.slice (some a) 0 0) [] :=
  ⟨rfl, _, _, rfl, Nat.le_refl _, Nat.zero_le _, (fun h => by cases h), fun hp => absurd hp (by simp)⟩
theorem get_le4 (w : World) (v : Value) (xs : List UInt8) (h : Bs w v xs) (hl : 4 ≤ xs.length) :
    Calls Try.prog 143 #[v] w fun e w' => e = .returned (.int .u32 (le4? xs : Int)) ∧ ∃ m, w.drewN m = w' := by
  match xs, h, hl with
  | a :: b :: c :: d :: r, h, _ => exact get_any w v a b c d r h
  | [], _, hl => simp at hl
  | [_], _, hl => simp at hl
  | [_, _], _, hl => simp at hl
  | [_, _, _], _, hl => simp at hl

set_option maxRecDepth 100000 in
theorem first_any (w : World) (v : Value) (xs : List UInt8) (h : Bs w v xs) (hb : xs.length ≤ 140737488355328) :
    Calls Try.prog 78 #[v] w (FirstPost xs w) := by
  obtain ⟨a, cap, rfl, hc1, hc2⟩ := h.form
  have H := Lib.hid h
  have HBd := Lib.hid hb
  clear h hb
  by_cases h9 : xs.length < 9
  · go_enter Try.func78, Try.ntmps78
    go_wp2
    go_ret3
    exact ⟨mk_refl _, by unfold frameOf; rw [if_pos h9]; rfl⟩
  · have hlen : 9 ≤ xs.length := by omega
    obtain ⟨b, off, rfl, _⟩ := H.out.cellAt (by omega)
    have h91 : (9 : Int) ≤ (xs.length : Int) := by omega
    have hcap1 : ¬ cap = 1 := by omega
    clear h9
    have hcap := hc2
    clear hc2
    have HS1 : Hid (Bs w (.slice (some ⟨b, off + 1, none⟩) (xs.length - 1) (cap - 1)) (xs.drop 1)) := by
      have := sub_some H.out rfl 1 xs.length (xs.length - 1) (cap - 1) (off + 1) (by omega) (by omega) rfl (by omega) (by omega) rfl
      rwa [List.take_length] at this
    obtain ⟨n, hn⟩ : ∃ n, n = le4? (xs.drop 1) := ⟨_, rfl⟩
    have Hn := Lib.hid hn
    clear hn
    have hnl : n < 4294967296 := by
      rw [Hn.out]; unfold le4?; split
      · exact le4_lt _ _ _ _
      · decide
    have hxl := HBd.out
    by_cases hbig : 4194304 < n
    · go_enter Try.func78, Try.ntmps78
      go_wp2_with fail
      refine (get_le4 w _ (xs.drop 1) HS1.out (by simp; omega)).mono ?_
      rw [← Hn.out]
      rintro e w1 ⟨rfl, m1, rfl⟩
      go_wp2
      go_ret3
      exact ⟨mk_drewN _ _, by unfold frameOf; rw [if_neg (by omega), if_pos (by rw [← Hn.out]; exact hbig)]; rfl⟩
    · by_cases hshort : xs.length < n + 9
      · go_enter Try.func78, Try.ntmps78
        go_wp2_with fail
        refine (get_le4 w _ (xs.drop 1) HS1.out (by simp; omega)).mono ?_
        rw [← Hn.out]
        rintro e w1 ⟨rfl, m1, rfl⟩
        go_wp2
        go_ret3
        exact ⟨mk_drewN _ _, by unfold frameOf; rw [if_neg (by omega), ← Hn.out, if_neg hbig, if_pos hshort]; rfl⟩
      · have hs1 : n + 9 ≤ xs.length := by omega
        have hb1 : n ≤ 4194304 := by omega
        clear hbig hshort
        have hcap5 : ¬ cap = 5 + n := by omega
        have hcap5' : ¬ cap = n + 5 := by omega
        have HSE : Hid (Bs w (.slice (some ⟨b, off + (5 + n), none⟩) (xs.length - (5 + n)) (cap - (5 + n))) (xs.drop (5 + n))) := by
          have := sub_some H.out rfl (5 + n) xs.length (xs.length - (5 + n)) (cap - (5 + n)) (off + (5 + n)) (by omega) (by omega) rfl (by omega) (by omega) rfl
          rwa [List.take_length] at this
        have HSP : Hid (Bs w (.slice (some ⟨b, off, none⟩) (5 + n) cap) (xs.take (5 + n))) := by
          have := sub_some H.out rfl 0 (5 + n) (5 + n) cap off (by omega) (by omega) (by omega) (by omega) (by omega) rfl
          rwa [List.drop_zero] at this
        have Hel : Hid ((xs.drop (5 + n)).length = xs.length - (5 + n)) := by show _ = _; simp
        have Hpl : Hid ((xs.take (5 + n)).length = 5 + n) := by show _ = _; simp; omega
        go_enter Try.func78, Try.ntmps78
        go_wp2_with fail
        refine (get_le4 w _ (xs.drop 1) HS1.out (by simp; omega)).mono ?_
        rw [← Hn.out]
        rintro e w1 ⟨rfl, m1, rfl⟩
        go_wp2_with fail
        refine wp_region_mk (by kernel_rfl) (by kernel_rfl) ?_
        intro C hC1 hC2 hne
        repeat (go_big_quiet_step ((first | exact (fun _ => rfl) | (intro hw; go_at_call 143; exact (get_le4 _ _ _ (HSE.out.mk (mk_trans (mk_drewN w m1) (hC1.out _ hw))) (by rw [Hel.out]; omega)).mono fun e w2 ⟨he, m, hm⟩ => ⟨he, hC2.out _ _ hw (by subst hm; exact mk_drewN _ _)⟩) | (intro hw; go_at_call 76; exact (crc_any _ _ _ (HSP.out.mk (mk_trans (mk_drewN w m1) (hC1.out _ hw))) (by rw [Hpl.out]; omega)).mono fun e w2 ⟨he, hm⟩ => ⟨he, hC2.out _ _ hw hm⟩))))
        refine wpQuiet_nil ?_
        intro w3 hw3
        have M3 := Lib.hid (mk_trans (mk_drewN w m1) (hC1.out _ hw3))
        clear hw3 hne hC1 hC2
        have hi0 : (0 : Int) < (xs.length : Int) := by omega
        have hcell : w3.cell? ⟨b, off, none⟩ = some (.int .u8 ((xs.head?.getD 0).toNat : Int)) := by
          obtain ⟨b', off', he, hd⟩ := bs_at (H.out.mk M3.out) 0 (by omega)
          cases he
          rw [Nat.add_zero] at hd
          rw [hd]
          match xs, hlen with
          | x :: r, _ => rfl
        by_cases heq : le4? (xs.drop (5 + n)) = Fr.crc (xs.take (5 + n))
        · have hb : ((le4? (xs.drop (5 + n)) : Int) != (Fr.crc (xs.take (5 + n)) : Int)) = false := by rw [heq]; simp
          have Heq := Lib.hid heq
          clear heq
          by_cases hn0 : n = 0
          · go_wp2
            go_quiet (fail)
            go_wp2
            go_ret3
            refine ⟨mk_trans M3.out (mk_drewN _ _), ?_⟩
            rw [frame_some (by omega) (by rw [← Hn.out]; omega) (by rw [← Hn.out]; omega) (by rw [← Hn.out]; exact Heq.out), ← Hn.out]
            refine ⟨_, ret3 (by omega), ?_⟩
            subst hn0
            rw [show (xs.take (5 + 0)).drop 5 = [] from List.drop_eq_nil_of_le (by simp; omega)]
            exact bs_empty _ _
          · have hq : ¬ (5 + n = 5) := by omega
            go_wp2
            go_quiet (fail)
            go_wp2
            go_ret3
            refine ⟨mk_trans M3.out (mk_drewN _ _), ?_⟩
            rw [frame_some (by omega) (by rw [← Hn.out]; omega) (by rw [← Hn.out]; omega) (by rw [← Hn.out]; exact Heq.out), ← Hn.out]
            refine ⟨_, ret3 (by omega), ?_⟩
            exact sub_some H.out rfl 5 (5 + n) (5 + n - 5) (5 + n - 5) (off + 5) (by omega) (by omega) rfl (by omega) (by omega) rfl
        · have hb : ((le4? (xs.drop (5 + n)) : Int) != (Fr.crc (xs.take (5 + n)) : Int)) = true := by simp; omega
          have Heq := Lib.hid heq
          clear heq
          go_wp2
          go_ret3
          exact ⟨M3.out, by unfold frameOf; rw [if_neg (by omega), ← Hn.out, if_neg (by omega), if_neg (by omega), if_neg Heq.out]; rfl⟩
end Go.Proofs.FrW

namespace Go.Proofs.DkW
open Go Go.RowKit Go.Tk Go.Dk Go.Sp
attribute [local go_sem] Oper.semAt_some

theorem info3 : (Try.prog.info? 3).map (fun i => (i.zero, i.size, i.bytes)) = some (some (.int .i64 0), 1, 8) := by kernel_rfl
/-- append of whole numbers. -/
theorem wpList_append_ints {P : Program} {w : World} {ops : Array Oper} {rest : List Oper} {o : Oper} {a : Act} {Q : Exit → Act → World → Prop} {t e : TypeId}
    (ht : P.underlying t = some (.slice e)) (hi : (P.info? e).map (fun i => (i.zero, i.size, i.bytes)) = some (some (.int .i64 0), 1, 8)) (hgd : o.guard = none) (s x : Operand)
    (ho : o.op = .call { callee := .builtin .append, args := #[s, x], argTypes := #[t, t] })
    {base : Nat} {v : Value} {n : Nat} {xs : List Value} (hs : a.eval s = v) (hown : w.ownsRow base e 1 v n xs)
    {xv : Value} {m : Nat} {news : List Value} (hxe : a.eval x = xv) (hx : Sl w 1 xv m news) (h1 : ∀ u ∈ news, u.oneCell' = true)
    (hb : n + m ≤ 17592186044416) (hbase : base ≤ w.heap.size)
    (h : ∀ v' w', w'.ownsRow base e 1 v' (n + m) (xs ++ news) → w.grownBy w' v.ownBlock → (v' = .slice none 0 0 ↔ v = .slice none 0 0 ∧ m = 0) → (v'.ownBlock = v.ownBlock ∨ ∃ g, v'.ownBlock = some g ∧ w.heap.size ≤ g) → wpList P ops Q rest (a.put o.dst v') w') :
    wpList P ops Q (o :: rest) a w := by
  obtain ⟨i0, hi1, hz0, hz1, hz2⟩ := info_parts hi
  exact wpList_append_sl hgd s x t ho base e i0 (.int .i64 0) 1 8 ht hi1 hz0 hz1 hz2 rfl (by decide) v n xs hs hown xv m news hxe hx h1 (by simp only [maxLen]; omega) (by omega) hbase h

theorem Files.fresh {F : Nat → Prop} {w : World} {base q n : Nat} {te : TypeId} (h : w.ownsRow base te 2 (.slice (some ⟨q, 0, none⟩) n n) n (madeCells (Value.agg #[.slice none 0 0, .int .i64 0]).cells (n * 2)).toList) (hF : F q) :
    Files F w q te (madeCells (Value.agg #[.slice none 0 0, .int .i64 0]).cells (n * 2)) (fun _ => .slice none 0 0) (List.replicate n ([], 0)) := by
  have hcell : ∀ j, j < n * 2 → (madeCells (Value.agg #[.slice none 0 0, .int .i64 0]).cells (n * 2))[j]? = some (if j % 2 = 0 then .slice none 0 0 else .int .i64 0) := by
    intro j hj
    simp only [madeCells, Value.cells, Array.getElem?_map]
    rw [Array.getElem?_eq_getElem (by simpa using hj)]
    have h2 : j % 2 = 0 ∨ j % 2 = 1 := by omega
    rcases h2 with h2 | h2 <;> simp [h2]
  refine ⟨?_, by simp [size_madeCells]; omega, fun i hi => ?_, fun i hi => ?_, fun i hi => ?_, fun i k _ hk => ?_, fun i j k _ _ hk => ?_, hF⟩
  · rcases h.2 with ⟨h1, _⟩ | ⟨g, cap, cur, hv, hb, hg, hn, hc, hs, ht⟩
    · cases h1
    · cases hv
      have e : cur = madeCells (Value.agg #[.slice none 0 0, .int .i64 0]).cells (n * 2) := by
        apply Array.toList_inj.1
        rw [← ht, List.take_of_length_le (by simp; omega)]
      rw [← e]; exact hg
  · rw [List.length_replicate] at hi
    rw [hcell _ (by omega), if_pos (by omega)]
  · rw [List.length_replicate] at hi
    rw [hcell _ (by omega), if_neg (by omega)]; simp
  · rw [List.getElem_replicate]; exact World.ownsRow_nil w 0 5 1
  · cases hk
  · cases hk
theorem under141 : Try.prog.underlying 141 = some (.slice 146) := by kernel_rfl
theorem info146 : (Try.prog.info? 146).map (fun i => (i.zero, i.size, i.bytes)) = some (some (.agg #[.slice none 0 0, .int .i64 0]), 2, 32) := by kernel_rfl
theorem under64 : Try.prog.underlying 64 = some (.slice 3) := by kernel_rfl
set_option maxHeartbeats 400000 in
theorem clone_ints (w : World) (v : Value) (xs : List Int) (h : Is w v xs) (hb : xs.length ≤ 17592186044416) :
    Calls Try.prog 88 #[v] w fun e w' => ∃ v', e = .returned v' ∧ w'.ownsRow w.heap.size 3 1 v' xs.length (iv xs) ∧ Mk w w' := by
  have h' := Lib.hid h
  obtain ⟨hl, a, cap, rfl, h1, h2, h3, _⟩ := h
  clear hl h2
  have hn := @Lib.run_eql_slice_nil Try.prog
  cases a with
  | none =>
    obtain rfl := h3 rfl
    have h0 : xs.length = 0 := by omega
    obtain rfl : xs = [] := List.eq_nil_of_length_eq_zero h0
    clear h0 h3 h1 hb h'
    go_enter Try.func88, Try.ntmps88
    go_wp2
    go_ret
    exact ⟨_, rfl, World.ownsRow_nil _ _ _ _, mk_refl _⟩
  | some ad =>
    clear h3 h1
    go_enter Try.func88, Try.ntmps88
    go_wp2_with (at_builtin; refine wpList_append_ints (P := Try.prog) under64 info3 rfl (.tmp 5) (.tmp 6) rfl rfl (lit_own w #[] 3 (by simp [maxLen])) rfl (h'.out.mk (mk_alloc _ _)) (iv_one _) (by simp; omega) (by simp) ?_; intro v1 w1 ho1 hg1 hn1 hf1; have Ho1 := Lib.hid ho1; have Hg1 := Lib.hid hg1; clear ho1 hg1 hn1 hf1)
    go_ret
    exact ⟨_, rfl, by simpa using Ho1.out, mk_own (mk_alloc _ _) (lit_own w #[] 3 (by simp [maxLen])) Hg1.out⟩

set_option maxHeartbeats 1000000 in
set_option maxRecDepth 100000 in
theorem fuse_any {S : Nat → Prop} {w : World} {p : Nat} {st : St} (h : PD S w p st) (ops : Int) (v : Value) (xs : List Int) (hx : Is w v xs) (hb : xs.length ≤ 17592186044416) :
    Calls Try.prog 41 #[.pointer (some ⟨p, 0, none⟩), .int .i64 ops, v] w fun e w' => e = .returned (.int .i64 (st.light ops xs).2) ∧ PD (Gw S w) w' p (st.light ops xs).1 ∧ Chg S w w' := by
  have hpd : PD (Gw S w) w p st := PD.sub h fun k hk => .inl hk
  have hcl := clone_ints w v xs hx hb
  obtain ⟨F, U, q, c, cs, vs, fu, h⟩ := h
  have c1 := PDw.c1 h
  cases ho : st.off
  · rw [ho] at c1
    by_cases hn : ops < 0
    · have H := Lib.hid h; have Hcl := Lib.hid hcl; have Hpd := Lib.hid hpd; have Hx := Lib.hid hx; clear h hcl hpd hx
      go_enter Try.func41, Try.ntmps41
      go_wp2
      go_ret
      exact ⟨by simp [St.light, ho, hn], by simpa [St.light, ho, hn] using Hpd.out, Chg.refl _ _⟩
    · have he : st.light ops xs = ({ st with fuse := some (ops, xs) }, 0) := by simp [St.light, ho, hn]
      have H := Lib.hid h; have Hcl := Lib.hid hcl; have Hpd := Lib.hid hpd; have Hx := Lib.hid hx; have He := Lib.hid he; clear h hcl hpd hx he
      go_enter Try.func41, Try.ntmps41
      go_wp2_with fail
      refine Hcl.out.mono ?_
      rintro e w1 ⟨v', rfl, ho1, hm1⟩
      obtain ⟨ka, kc, rfl, hk1, hk2⟩ := (own_sl ho1).form
      have h1 := H.out.head.mk hm1
      have c3 : ∀ o, (w1.alloc o).cell? ⟨p, 3, none⟩ = some fu := fun o => ((h1.alloc o).cell 3).trans rfl
      have f3 : ∀ o, (w1.alloc o).frozen? ⟨p, 3, none⟩ = false := fun o => (h1.alloc o).frozen 3
      have hlt := H.out.head.lt
      have hsz := hm1.size
      have hne : ¬ p = w1.heap.size := by omega
      have Ho1 := Lib.hid ho1; have Hm1 := Lib.hid hm1; have H1 := Lib.hid h1; have Hlt := Lib.hid hlt; have Hsz := Lib.hid hsz; clear ho1 hm1 h1 hlt hsz
      go_wp2
      go_ret
      have hcc : Chg (fun k => k = p) w ((w1.alloc (.cells #[.int .i64 ops, .slice ka xs.length kc] 148)).setCell ⟨p, 3, none⟩ (.pointer (some ⟨w1.heap.size, 0, none⟩))) :=
        (((Chg.refl (fun k => k = p) w).thenMk Hm1.out).thenAlloc _).thenSet _ _ (.inl rfl)
      have hs2 := Hsz.out
      have hl2 := Hlt.out
      rw [He.out]
      refine ⟨rfl, ⟨fun k => F k ∧ k < w.heap.size, fun k => w.heap.size ≤ k, q, c, cs, vs, .pointer (some ⟨w1.heap.size, 0, none⟩), ?_, ?_, ?_, .inl H.out.sp, ?_, ?_, ?_, H.out.hc⟩, hcc.sub fun k _ e => e ▸ H.out.sp⟩
      · simpa [ho] using (H1.out.alloc (.cells #[.int .i64 ops, .slice ka xs.length kc] 148)).set 3 (.pointer (some ⟨w1.heap.size, 0, none⟩))
      · exact (H.out.files.sub fun k hk hf => ⟨hf, hk⟩).keep hcc fun k hk hf e => (H.out.fs k hf.1).2 e
      · refine ⟨w1.heap.size, _, rfl, (Bk.new w1 148 _).other _ (by show w1.heap.size ≠ p; omega), hs2, ?_, ?_⟩
        · have h2 : Sl w1 1 (.slice ka xs.length kc) xs.length (iv xs) := own_sl Ho1.out
          have h3 := h2.mk (mk_alloc w1 (.cells #[.int .i64 ops, .slice ka xs.length kc] 148))
          refine sl_chg h3 (Chg.set (fun k => k = p) _ ⟨p, 3, none⟩ _ rfl) fun k hk _ e => ?_
          have := (Ho1.out.lt k hk).1
          omega
        · intro k hp hk
          have := Ho1.out.lt k hk
          exact ⟨this.1, by omega⟩
      · exact fun k hk => ⟨.inl (H.out.fs k hk.1).1, (H.out.fs k hk.1).2⟩
      · exact fun k hk => ⟨.inr hk, by omega⟩
      · exact fun k hk hu => by omega
  · rw [ho] at c1
    have H := Lib.hid h; have Hcl := Lib.hid hcl; have Hpd := Lib.hid hpd; have Hx := Lib.hid hx; clear h hcl hpd hx
    go_enter Try.func41, Try.ntmps41
    go_wp2
    go_ret
    exact ⟨by simp [St.light, ho], by simpa [St.light, ho] using Hpd.out, Chg.refl _ _⟩

theorem crash_any {S : Nat → Prop} {w : World} {p : Nat} {st : St} {M : Nat} (h : PD S w p st) (hok : st.Ok M) (hM : M ≤ 1000000) (v : Value) (xs : List Int) (hx : Is w v xs)
    (hd : ∀ k, k < w.heap.size → v.ownBlock = some k → ¬ S k) :
    Calls Try.prog 35 #[.pointer (some ⟨p, 0, none⟩), v] w fun e w' => e = .returned (.tuple #[]) ∧ PD S w' p (st.crash xs) ∧ Chg S w w' := by
  have hpd := h
  obtain ⟨F, U, q, c, cs, vs, fu, h⟩ := h
  have c1 := PDw.c1 h
  cases ho : st.off
  · rw [ho] at c1
    have hf := fall_any h hok.toOk0 hM v xs hx (fun k hp hk => ⟨fun e => hd k (is_lt hx hp hk) hk (e ▸ (h.fs _ h.files.at_).1), fun e => hd k (is_lt hx hp hk) hk (e ▸ h.sp)⟩)
    have H := Lib.hid h; have Hf := Lib.hid hf; have Hx := Lib.hid hx; have Hd := Lib.hid hd; clear h hf hx hd
    go_enter Try.func35, Try.ntmps35
    go_wp2_with fail
    refine Hf.out.mono ?_
    rintro e w1 ⟨rfl, ⟨cs4, vs4, hP4⟩, hc4⟩
    go_wp2
    go_end0
    refine ⟨rfl, ?_, hc4.sub fun x hx e => ?_⟩
    · have e : st.crash xs = st.fall xs := by simp [St.crash, ho]
      rw [e]; exact ⟨_, _, _, _, _, _, _, hP4⟩
    · rcases e with rfl | rfl
      · exact (H.out.fs _ H.out.files.at_).1
      · exact H.out.sp
  · rw [ho] at c1
    have H := Lib.hid h; have Hx := Lib.hid hx; clear h hx
    go_enter Try.func35, Try.ntmps35
    go_wp2
    go_end0
    exact ⟨rfl, by simpa [St.crash, ho] using hpd, Chg.refl _ _⟩

set_option maxRecDepth 100000 in
theorem new_bad (w : World) (n : Int) (h : n < 1 ∨ 8 < n) : Calls Try.prog 30 #[.int .i64 n] w fun e w' => e = .returned (.tuple #[.pointer none, .int .i64 1]) ∧ w = w' := by
  rcases Int.lt_or_le n 1 with h0 | h0
  · have hd : decide (n < 1) = true := by simpa using h0
    clear h
    go_enter Try.func30, Try.ntmps30
    go_wp2
    go_ret2
    exact ⟨rfl, rfl⟩
  · have hd : decide (n < 1) = false := by simpa using h0
    have hd2 : 8 < n := by omega
    clear h
    go_enter Try.func30, Try.ntmps30
    go_wp2
    go_ret2
    exact ⟨rfl, rfl⟩
set_option maxRecDepth 100000 in
theorem new_any (w : World) (n : Nat) (h0 : 1 ≤ n) (h1 : n ≤ 8) : Calls Try.prog 30 #[.int .i64 (n : Int)] w fun e w' => ∃ p, e = .returned (.tuple #[.pointer (some ⟨p, 0, none⟩), .int .i64 0]) ∧ PD (fun k => w.heap.size ≤ k) w' p (fresh n) ∧ Mk w w' := by
  have hd : decide ((n : Int) < 1) = false := by simp; omega
  have hd2 : ¬ 8 < (n : Int) := by omega
  obtain ⟨i0, hi1, hz0, hz1, hz2⟩ := info_parts info146
  go_enter Try.func30, Try.ntmps30
  go_wp2_with (refine wpList_make_full w rfl (.tmp 10) (.tmp 10) 141 rfl w.heap.size 146 i0 _ 2 under141 hi1 hz0 hz1 .i64 .i64 n n n rfl rfl rfl rfl (by rw [hz2]; omega) (by simp only [maxLen]; omega) (Nat.le_refl _) ?_; intro w1 ho1 hg1; have Ho1 := Lib.hid ho1; have Hg1 := Lib.hid hg1; clear ho1 hg1)
  go_ret2
  have hq := Ho1.out.lt _ rfl
  refine ⟨w1.heap.size, rfl, ⟨fun k => k = w.heap.size, fun _ => False, w.heap.size, n, madeCells (Value.agg #[.slice none 0 0, .int .i64 0]).cells (n * 2), fun _ => .slice none 0 0, .pointer none, ?_, ?_, rfl, ?_, ?_, ?_, ?_, ?_⟩, mk_trans (grown_mk Hg1.out) (mk_alloc _ _)⟩
  · simpa [Dk.fresh] using Bk.new w1 144 #[.slice (some ⟨w.heap.size, 0, none⟩) n n, .bool false, .int .i64 0, .pointer none]
  · exact (Files.fresh (F := fun k => k = w.heap.size) Ho1.out rfl).made (mk_alloc _ _)
  · have := hq.2; show w.heap.size ≤ w1.heap.size; omega
  · rintro k rfl; exact ⟨Nat.le_refl _, by have := hq.2; omega⟩
  · exact fun k h => h.elim
  · exact fun k _ h => h
  · simp [Dk.fresh, maxLen]; omega

/-- copy that fills a row of the call's own, out of a slice that is as long at least. -/
theorem wpList_copy_fill {P : Program} {w : World} {ops : Array Oper} {rest : List Oper} {o : Oper} {a : Act} {Q : Exit → Act → World → Prop} {t e : TypeId}
    (ht : P.underlying t = some (.slice e)) (hi : (P.info? e).map (·.size) = some 1) (hgd : o.guard = none) (d s : Operand)
    (ho : o.op = .call { callee := .builtin .copy, args := #[d, s], argTypes := #[t, t] })
    {base g n cap : Nat} {xs : List Value} (hd : a.eval d = .slice (some ⟨g, 0, none⟩) n cap) (hown : w.ownsRow base e 1 (.slice (some ⟨g, 0, none⟩) n cap) n xs)
    {xv : Value} {m : Nat} {ys : List Value} (hs : a.eval s = xv) (hx : Sl w 1 xv m ys) (h1 : ∀ u ∈ ys, u.oneCell' = true) (hmn : n ≤ m)
    (h : ∀ w', w'.ownsRow base e 1 (.slice (some ⟨g, 0, none⟩) n cap) n (ys.take n) → w.grownBy w' (some g) → wpList P ops Q rest (a.put o.dst (goInt n)) w') :
    wpList P ops Q (o :: rest) a w := by
  obtain ⟨hl, ao, cp, rfl, hmc, hcm, hnone, hc⟩ := hx
  have hlm : ys.length = m := by simpa using hl
  by_cases h0 : n = 0
  · subst h0
    refine wpList_copy_nothing hgd d s t t ho e ht hi (some ⟨g, 0, none⟩) ao 0 cap m cp hd hs (by simp) (h w ?_ ⟨rfl, rfl, rfl, Nat.le_refl _, fun _ _ _ => rfl⟩)
    have : xs = [] := List.eq_nil_of_length_eq_zero (by simpa using hown.1)
    subst this
    simpa using hown
  · obtain ⟨b, off, rfl, hc'⟩ := hc (by omega)
    obtain ⟨hxl, hh⟩ := hown
    rcases hh with ⟨h', _⟩ | ⟨g', cap', cur, h', hb, hg, hnc, hcm', hcs, htake⟩
    · cases h'
    · cases h'
      have hcur : cur.size = cap := by simpa using hcs
      have hyl : (ys.take n).length = n := by simp; omega
      refine wpList_copy_own hgd d s t t ho e ht hi g 0 n cap ⟨b, off, none⟩ m cp hd hs cur e hg (ys.take n) (by rw [hyl]; exact (Nat.min_eq_right hmn).symm) ?_ (by rw [hyl, hcur]; omega) (fun u hu => h1 u (List.mem_of_mem_take hu)) ?_
      · intro j v hv
        have hadd : (⟨b, off, none⟩ : Addr).add j = ⟨b, off + j, none⟩ := by unfold Addr.add; split <;> simp_all
        rw [hadd]
        rw [List.getElem?_take] at hv
        split at hv
        · exact hc' j v hv
        · cases hv
      · rw [hyl]
        refine h _ ⟨by simp [hlm]; omega, .inr ⟨g, cap, _, rfl, hb, setRow_heap w g cur _ e _ hg, hnc, hcm', by simp [hlm, hcur]; omega, ?_⟩⟩ ⟨rfl, rfl, rfl, by simp, fun k _ hk => setRow_other w g k _ (fun e => hk (by simp [e]))⟩
        simp only [List.take_zero, List.nil_append, Nat.zero_add, Nat.mul_one]
        rw [List.take_append_of_le_length (by omega), List.take_of_length_le (by omega)]

def ReadPost (w : World) (r : List UInt8 × Int) (e : Ending) (w' : World) : Prop := ∃ v', e = .returned (.tuple #[v', .int .i64 r.2]) ∧ w'.ownsRow w.heap.size 5 1 v' r.1.length (bv r.1) ∧ Mk w w'
theorem ReadPost.bad {w : World} {n : Int} : ReadPost w ([], n) (.returned (.tuple #[.slice none 0 0, .int .i64 n])) w := ⟨_, rfl, World.ownsRow_nil w _ 5 1, mk_refl _⟩
set_option maxHeartbeats 1000000 in
set_option maxRecDepth 100000 in
theorem read_any {S : Nat → Prop} {w : World} {p : Nat} {st : St} {M : Nat} (h : PD S w p st) (hok : st.Ok M) (f at_ n : Int) :
    Calls Try.prog 36 #[.pointer (some ⟨p, 0, none⟩), .int .i64 f, .int .i64 at_, .int .i64 n] w (ReadPost w (st.read f at_ n)) := by
  have hr := refused_any f h
  obtain ⟨F, U, q, c, cs, vs, fu, h⟩ := h
  cases ho : st.off
  · cases hi : st.is f
    · have he : st.read f at_ n = ([], 1) := by simp [St.read, ho, hi]
      rw [ho, hi] at hr
      have Hr := Lib.hid hr; have He := Lib.hid he; clear hr he
      go_enter Try.func36, Try.ntmps36
      go_wp2_with (first | (go_at_call 85; refine Hr.out.mono ?_; rintro e w' ⟨rfl, rfl⟩) | fail)
      go_ret2
      rw [He.out]; exact ReadPost.bad
    · rw [ho, hi] at hr
      obtain ⟨k, rfl, hk⟩ := is_nat hi
      have g0 := PDw.c0 h
      obtain ⟨a, m, hv, hm1, hm2, s1, s2⟩ := PDw.at_ h k hk
      have hb3 := hok.file (st.file k) (by rw [← St.file_eq hk]; exact List.getElem_mem _)
      have hown := h.files.own k hk
      rw [St.file_eq hk, hv] at hown
      by_cases hbad : at_ < 0 ∨ n < 0 ∨ ((st.file k).1.length : Int) < at_ ∨ ((st.file k).1.length : Int) - at_ < n
      · have he : st.read (k : Int) at_ n = ([], 1) := by simp only [St.read, ho, hi, Int.toNat_natCast]; simp [hbad]
        have H := Lib.hid h; have Hr := Lib.hid hr; have He := Lib.hid he; have Hv := Lib.hid hv; have Hown := Lib.hid hown; clear h hr he hv hown
        rcases Int.lt_or_le at_ 0 with k1 | k1
        · have hd : decide (at_ < 0) = true := by simpa using k1
          clear hbad k1
          go_enter Try.func36, Try.ntmps36
          go_wp2_with (first | (go_at_call 85; refine Hr.out.mono ?_; rintro e w' ⟨rfl, rfl⟩) | fail)
          go_ret2
          rw [He.out]; exact ReadPost.bad
        · have hd : decide (at_ < 0) = false := by simpa using k1
          rcases Int.lt_or_le n 0 with k2 | k2
          · have hd2 : decide (n < 0) = true := by simpa using k2
            clear hbad
            go_enter Try.func36, Try.ntmps36
            go_wp2_with (first | (go_at_call 85; refine Hr.out.mono ?_; rintro e w' ⟨rfl, rfl⟩) | fail)
            go_ret2
            rw [He.out]; exact ReadPost.bad
          · have hd2 : decide (n < 0) = false := by simpa using k2
            rcases Int.lt_or_le ((st.file k).1.length : Int) at_ with k3 | k3
            · have hd3 : decide (((st.file k).1.length : Int) < at_) = true := by simpa using k3
              clear hbad
              go_enter Try.func36, Try.ntmps36
              go_wp2_with (first | (go_at_call 85; refine Hr.out.mono ?_; rintro e w' ⟨rfl, rfl⟩) | fail)
              go_ret2
              rw [He.out]; exact ReadPost.bad
            · have hd3 : decide (((st.file k).1.length : Int) < at_) = false := by simpa using k3
              have k4 : ((st.file k).1.length : Int) - at_ < n := by omega
              clear hbad
              go_enter Try.func36, Try.ntmps36
              go_wp2_with (first | (go_at_call 85; refine Hr.out.mono ?_; rintro e w' ⟨rfl, rfl⟩) | fail)
              go_ret2
              rw [He.out]; exact ReadPost.bad
      · obtain ⟨t, rfl⟩ := Int.eq_ofNat_of_zero_le (show 0 ≤ at_ by omega)
        obtain ⟨n, rfl⟩ := Int.eq_ofNat_of_zero_le (show 0 ≤ n by omega)
        have he : st.read (k : Int) (t : Int) (n : Int) = (((st.file k).1.drop t).take n, 0) := by simp only [St.read, ho, hi, Int.toNat_natCast, if_neg hbad]; simp
        have k1 : t + n ≤ (st.file k).1.length := by omega
        have k3 : (t : Int) ≤ ((st.file k).1.length : Int) := by omega
        have k4 : (n : Int) ≤ ((st.file k).1.length : Int) - (t : Int) := by omega
        have hd : decide ((t : Int) < 0) = false := by simp
        have hd2 : decide ((n : Int) < 0) = false := by simp
        have hd3 : decide (((st.file k).1.length : Int) < (t : Int)) = false := by simp; omega
        have hd3' : decide ((st.file k).1.length < t) = false := by simp; omega
        have hd4 : decide (((st.file k).1.length : Int) - (t : Int) < (n : Int)) = false := by simp; omega
        have hsub := FrW.sub_addr (own_sl hown) t (st.file k).1.length m (by omega) (Nat.le_refl _) hm1 (Nat.le_refl _)
        have hL : ((st.file k).1.drop t).length = (st.file k).1.length - t := by simp
        have hL2 : (((st.file k).1.drop t).take n).length = n := by simp; omega
        rw [show ((bv (st.file k).1).take (st.file k).1.length).drop t = bv ((st.file k).1.drop t) by rw [← bv_length (st.file k).1, List.take_length]; simp [bv]] at hsub
        have hm3 : t ≤ m := by omega
        by_cases hmt : m = t
        · rw [if_pos hmt] at hsub
          subst hmt
          rw [Nat.sub_self, show (st.file k).1.length - m = 0 by omega] at hsub
          have Hs := Lib.hid hL2
          have H := Lib.hid h; have Hr := Lib.hid hr; have He := Lib.hid he; have Hv := Lib.hid hv; have Hown := Lib.hid hown; have Hbad := Lib.hid hbad; have HL := Lib.hid hL; have HL2 := Lib.hid hL2; have Hsub := Lib.hid hsub; clear h hr he hv hown hbad hL hL2 hsub
          (go_enter Try.func36, Try.ntmps36; go_wp2_with (first | (go_at_call 85; refine Hr.out.mono ?_; rintro e w' ⟨rfl, rfl⟩) | (refine wpList_make_zeros (P := Try.prog) Try.underlying22 FrW.info5 rfl (.tmp 47) (.tmp 47) rfl n n n rfl rfl rfl rfl (by omega) ?_; intro w1 ho1 hm1; have Ho1 := Lib.hid ho1; have Hm1 := Lib.hid hm1; clear ho1 hm1) | (refine wpList_copy_fill (P := Try.prog) Try.underlying22 (by kernel_rfl) rfl (.tmp 49) (.tmp 52) rfl rfl Ho1.out rfl (Hsub.out.mk Hm1.out) (bv_one _) (by omega) ?_; intro w2 ho2 hg2; have Ho2 := Lib.hid ho2; have Hg2 := Lib.hid hg2; clear ho2 hg2) | fail); go_ret2; rw [He.out]; refine ⟨_, rfl, ?_, mk_own' Hm1.out (fun k e => by cases e; exact Nat.le_refl _) Hg2.out⟩; rw [Hs.out, bv_take]; exact Ho2.out)
        · rw [if_neg hmt] at hsub
          have Hs := Lib.hid hL2
          have H := Lib.hid h; have Hr := Lib.hid hr; have He := Lib.hid he; have Hv := Lib.hid hv; have Hown := Lib.hid hown; have Hbad := Lib.hid hbad; have HL := Lib.hid hL; have HL2 := Lib.hid hL2; have Hsub := Lib.hid hsub; clear h hr he hv hown hbad hL hL2 hsub
          (go_enter Try.func36, Try.ntmps36; go_wp2_with (first | (go_at_call 85; refine Hr.out.mono ?_; rintro e w' ⟨rfl, rfl⟩) | (refine wpList_make_zeros (P := Try.prog) Try.underlying22 FrW.info5 rfl (.tmp 47) (.tmp 47) rfl n n n rfl rfl rfl rfl (by omega) ?_; intro w1 ho1 hm1; have Ho1 := Lib.hid ho1; have Hm1 := Lib.hid hm1; clear ho1 hm1) | (refine wpList_copy_fill (P := Try.prog) Try.underlying22 (by kernel_rfl) rfl (.tmp 49) (.tmp 52) rfl rfl Ho1.out rfl (Hsub.out.mk Hm1.out) (bv_one _) (by omega) ?_; intro w2 ho2 hg2; have Ho2 := Lib.hid ho2; have Hg2 := Lib.hid hg2; clear ho2 hg2) | fail); go_ret2; rw [He.out]; refine ⟨_, rfl, ?_, mk_own' Hm1.out (fun k e => by cases e; exact Nat.le_refl _) Hg2.out⟩; rw [Hs.out, bv_take]; exact Ho2.out)
  · have he : st.read f at_ n = ([], 40) := by simp [St.read, ho]
    rw [ho] at hr
    have Hr := Lib.hid hr; have He := Lib.hid he; clear hr he
    go_enter Try.func36, Try.ntmps36
    go_wp2_with (first | (go_at_call 85; refine Hr.out.mono ?_; rintro e w' ⟨rfl, rfl⟩) | fail)
    go_ret2
    rw [He.out]; exact ReadPost.bad
end Go.Proofs.DkW
