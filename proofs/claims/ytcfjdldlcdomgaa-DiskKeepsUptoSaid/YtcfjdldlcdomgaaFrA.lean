/- The walks of layer 5, frame: bytes cloned, four bytes as a number and back, sizes. -/
import Derived.Test.YtcfjdldlcdomgaaProg
import Derived.Test.YtcfjdldlcdomgaaTk
import Derived.Test.YtcfjdldlcdomgaaFrPure
namespace Go.Proofs.FrW
open Go Go.RowKit Go.Tk
theorem info5 : (Try.prog.info? 5).map (fun i => (i.zero, i.size, i.bytes)) = some (some (.int .u8 0), 1, 1) := by kernel_rfl

def le4 (a b c d : UInt8) : Nat := a.toNat + 256 * b.toNat + 65536 * c.toNat + 16777216 * d.toNat
theorem or4 (a b c d : UInt8) : bits BinOp.or IntKind.u32 (bits BinOp.or IntKind.u32 (bits BinOp.or IntKind.u32 (a.toNat : Int) ((b.toNat : Int) * 256)) ((c.toNat : Int) * 65536)) ((d.toNat : Int) * 16777216) = (le4 a b c d : Int) := by
  have ha := a.toNat_lt; have hb := b.toNat_lt; have hc := c.toNat_lt; have hd := d.toNat_lt
  have e1 : ((b.toNat : Int) * 256) = ((b.toNat * 256 : Nat) : Int) := by omega
  have e2 : ((c.toNat : Int) * 65536) = ((c.toNat * 65536 : Nat) : Int) := by omega
  have e3 : ((d.toNat : Int) * 16777216) = ((d.toNat * 16777216 : Nat) : Int) := by omega
  rw [e1, u32_or_nat _ _ (by omega) (by omega)]
  have j1 : a.toNat ||| b.toNat * 256 = a.toNat + 256 * b.toNat := by rw [Nat.or_comm, nat_join 8 _ _ (by omega) (by omega)]; omega
  rw [j1, e2, u32_or_nat _ _ (by omega) (by omega)]
  have j2 : (a.toNat + 256 * b.toNat) ||| c.toNat * 65536 = a.toNat + 256 * b.toNat + 65536 * c.toNat := by rw [Nat.or_comm, nat_join 16 _ _ (by omega) (by omega)]; omega
  rw [j2, e3, u32_or_nat _ _ (by omega) (by omega)]
  have j3 : (a.toNat + 256 * b.toNat + 65536 * c.toNat) ||| d.toNat * 16777216 = le4 a b c d := by rw [Nat.or_comm, nat_join 24 _ _ (by omega) (by omega)]; unfold le4; omega
  rw [j3]

set_option maxHeartbeats 400000 in
theorem clone_any (w : World) (v : Value) (xs : List UInt8) (h : Bs w v xs) (hb : xs.length ≤ 140737488355328) :
    Calls Try.prog 79 #[v] w fun e w' => ∃ v', e = .returned v' ∧ w'.ownsRow w.heap.size 5 1 v' xs.length (bv xs) ∧ Mk w w' := by
  have h' := Lib.hid h
  obtain ⟨hl, a, cap, rfl, h1, h2, h3, _⟩ := h
  clear hl h2
  have hn := @Lib.run_eql_slice_nil Try.prog
  cases a with
  | none =>
    obtain rfl := h3 rfl
    have h0 : xs.length = 0 := by omega
    obtain rfl : xs = [] := List.eq_nil_of_length_eq_zero h0
    clear h0 h3 h1 hb h'
    go_enter Try.func79, Try.ntmps79
    go_wp2
    go_ret
    exact ⟨_, rfl, World.ownsRow_nil _ _ _ _, mk_refl _⟩
  | some ad =>
    clear h3 h1
    go_enter Try.func79, Try.ntmps79
    go_wp2_with (at_builtin; refine wpList_append_bytes (P := Try.prog) Try.underlying22 info5 rfl (.tmp 5) (.tmp 6) rfl rfl (lit_own w #[] 5 (by simp [maxLen])) rfl (h'.out.mk (mk_alloc _ _)) (bv_one _) (by simp; omega) (by simp) ?_; intro v1 w1 ho1 hg1 hn1 hf1; have Ho1 := Lib.hid ho1; have Hg1 := Lib.hid hg1; clear ho1 hg1 hn1 hf1)
    go_ret
    exact ⟨_, rfl, by simpa using Ho1.out, mk_own (mk_alloc _ _) (lit_own w #[] 5 (by simp [maxLen])) Hg1.out⟩
theorem four_cells {w : World} {v : Value} {a b c d : UInt8} {r : List UInt8} (h : Bs w v (a :: b :: c :: d :: r)) :
    ∃ bl off n cap, v = .slice (some ⟨bl, off, none⟩) n cap ∧ 4 ≤ n ∧ w.cell? ⟨bl, off, none⟩ = some (.int .u8 (a.toNat : Int)) ∧ w.cell? ⟨bl, off + 1, none⟩ = some (.int .u8 (b.toNat : Int)) ∧
      w.cell? ⟨bl, off + 2, none⟩ = some (.int .u8 (c.toNat : Int)) ∧ w.cell? ⟨bl, off + 3, none⟩ = some (.int .u8 (d.toNat : Int)) := by
  obtain ⟨hl, ad, cap, rfl, h1, h2, h3, hc⟩ := h
  obtain ⟨bl, off, rfl, hd⟩ := hc (by simp)
  exact ⟨bl, off, _, cap, rfl, by simp, hd 0 _ rfl, hd 1 _ rfl, hd 2 _ rfl, hd 3 _ rfl⟩

theorem u8le (a : UInt8) : 0 ≤ (a.toNat : Int) ∧ (a.toNat : Int) ≤ 255 := by have := a.toNat_lt; omega

set_option maxHeartbeats 400000 in
theorem get_any (w : World) (v : Value) (a b c d : UInt8) (r : List UInt8) (h : Bs w v (a :: b :: c :: d :: r)) :
    Calls Try.prog 143 #[v] w fun e w' => e = .returned (.int .u32 (le4 a b c d : Int)) ∧ ∃ m, w.drewN m = w' := by
  obtain ⟨bl, off, n, cap, rfl, hn, c0, c1, c2, c3⟩ := four_cells h
  clear h
  have i0 : (0 : Int) < (n : Int) := by omega
  have i1 : (1 : Int) < (n : Int) := by omega
  have i2 : (2 : Int) < (n : Int) := by omega
  have i3 : (3 : Int) < (n : Int) := by omega
  obtain ⟨la, ha⟩ := u8le a
  obtain ⟨lb, hb⟩ := u8le b
  obtain ⟨lc, hc⟩ := u8le c
  obtain ⟨ld, hd⟩ := u8le d
  go_enter Try.func143, Try.ntmps143
  go_wp2
  go_quiet (fail)
  go_wp2
  go_ret
  exact ⟨by simpa using or4 a b c d, _, rfl⟩
set_option maxHeartbeats 400000 in
theorem word_any (w : World) (v : Value) (a b c d : UInt8) (r : List UInt8) (h : Bs w v (a :: b :: c :: d :: r)) :
    Calls Try.prog 80 #[v] w fun e w' => e = .returned (.int .u32 (le4 a b c d : Int)) ∧ ∃ m, w.drewN m = w' := by
  obtain ⟨bl, off, n, cap, rfl, hn, c0, c1, c2, c3⟩ := four_cells h
  clear h
  have i0 : (0 : Int) < (n : Int) := by omega
  have i1 : (1 : Int) < (n : Int) := by omega
  have i2 : (2 : Int) < (n : Int) := by omega
  have i3 : (3 : Int) < (n : Int) := by omega
  obtain ⟨la, ha⟩ := u8le a
  obtain ⟨lb, hb⟩ := u8le b
  obtain ⟨lc, hc⟩ := u8le c
  obtain ⟨ld, hd⟩ := u8le d
  go_enter Try.func80, Try.ntmps80
  go_wp2
  go_quiet (fail)
  go_wp2
  go_ret
  exact ⟨by simpa using or4 a b c d, _, rfl⟩

def by4 (n : Nat) : List UInt8 := [UInt8.ofNat n, UInt8.ofNat (n / 256), UInt8.ofNat (n / 65536), UInt8.ofNat (n / 16777216)]
theorem by4_length (n : Nat) : (by4 n).length = 4 := rfl
theorem by4_eq (n : Nat) : (#[Value.int IntKind.u8 ((n : Int) % 256), Value.int IntKind.u8 ((n : Int) / 256 % 256), Value.int IntKind.u8 ((n : Int) / 65536 % 256), Value.int IntKind.u8 ((n : Int) / 16777216 % 256)] : Array Value).toList = bv (by4 n) := by
  simp [bv, by4]
set_option maxHeartbeats 400000 in
set_option maxRecDepth 100000 in
theorem put_any (w : World) (base : Nat) (v : Value) (xs : List UInt8) (n : Nat) (hn : n < 4294967296) (h : w.ownsRow base 5 1 v xs.length (bv xs)) (hb : xs.length ≤ 140737488355000) (hbase : base ≤ w.heap.size) :
    Calls Try.prog 75 #[v, .int .u32 (n : Int)] w fun e w' => ∃ v', e = .returned v' ∧ w'.ownsRow base 5 1 v' (xs ++ by4 n).length (bv (xs ++ by4 n)) ∧ w.grownBy w' v.ownBlock ∧ (v'.ownBlock = v.ownBlock ∨ ∃ g, v'.ownBlock = some g ∧ w.heap.size ≤ g) := by
  have h' := Lib.hid h
  have hb' := Lib.hid hb
  have hn' := Lib.hid hn
  clear h hb hn
  go_enter Try.func75, Try.ntmps75
  go_wp2_with (at_builtin; refine wpList_append_bytes (P := Try.prog) Try.underlying22 info5 rfl (.tmp 5) (.tmp 17) rfl rfl (h'.out.alloc _) rfl (new_bytes w (by4 n) _ 5 4 rfl (by4_eq n) (by simp [maxLen])) (bv_one _) (by have := hb'.out; omega) (by simp; omega) ?_; intro v1 w1 ho1 hg1 hn1 hf1; have Ho1 := Lib.hid ho1; have Hg1 := Lib.hid hg1; have Hf1 := Lib.hid hf1; clear ho1 hg1 hn1 hf1)
  go_ret
  exact ⟨_, rfl, by rw [List.length_append, bv_append]; exact Ho1.out, alloc_grown Hg1.out, own_fresh_alloc Hf1.out⟩
end Go.Proofs.FrW
