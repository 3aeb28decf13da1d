/- The walks of layer 5, frame: the words of the statements: bytes that are lent, looked at, written over. -/
import Derived.Test.YtcfjdldlcdomgaaFrF
namespace Go.Proofs.FrW
open Go Go.RowKit Go.Tk Go.Sp

theorem info5s : (Try.prog.info? 5).map (·.size) = some 1 := by kernel_rfl
/-- Bytes that are lent: eight marks behind them. -/
def lentOf (b : List UInt8) (j : Nat) : List UInt8 := b ++ List.replicate j 201 ++ List.replicate (8 - j) 0
theorem lentOf_length (b : List UInt8) (j : Nat) (h : j ≤ 8) : (lentOf b j).length = b.length + 8 := by simp [lentOf]; omega
theorem lentOf_set (b : List UInt8) (j : Nat) (h : j < 8) : (lentOf b j).set (b.length + j) 201 = lentOf b (j + 1) := by
  unfold lentOf
  rw [List.set_append_right _ _ (by simp)]
  rw [show b.length + j - (b ++ List.replicate j (201 : UInt8)).length = 0 by simp, show 8 - j = (8 - (j + 1)) + 1 by omega, List.replicate_succ, List.set_cons_zero, List.replicate_succ']
  simp
theorem lentOf_zero (b : List UInt8) : b ++ (List.replicate (b.length + 8) (0 : UInt8)).drop b.length = lentOf b 0 := by simp [lentOf]
theorem lentOf_eight (b : List UInt8) : lentOf b 8 = b ++ List.replicate 8 201 := by simp [lentOf]

set_option maxRecDepth 100000 in
theorem lent_any (w : World) (v : Value) (b : List UInt8) (h : Bs w v b) (hb : b.length ≤ 140737488355328) :
    Calls Try.prog 16 #[v] w fun e w' => ∃ g, e = .returned (.slice (some ⟨g, 0, none⟩) (b.length + 8) (b.length + 8)) ∧ w'.ownsRow w.heap.size 5 1 (.slice (some ⟨g, 0, none⟩) (b.length + 8) (b.length + 8)) (b.length + 8) (bv (b ++ List.replicate 8 201)) ∧ Mk w w' := by
  obtain ⟨a, cap, rfl, hc1, hc2⟩ := h.form
  have H := Lib.hid h
  have hbl := hb
  clear h hc1 hc2 hb
  go_enter Try.func16, Try.ntmps16
  go_wp2_with (first | (at_make; refine wpList_make_zeros (P := Try.prog) Try.underlying22 info5 rfl _ _ rfl _ _ (b.length + 8) rfl rfl (by omega) (by omega) (by omega) ?_; intro w1 ho1 hm1; have HO1 := Lib.hid ho1; have HM1 := Lib.hid hm1; clear ho1 hm1) | (refine wpList_copy_head (P := Try.prog) Try.underlying22 info5s rfl (.tmp 9) (.tmp 10) rfl rfl HO1.out rfl (H.out.mk HM1.out) (bv_one _) (by omega) ?_; intro w2 ho2 hg2; rw [show List.drop b.length (bv (List.replicate (b.length + 8) 0)) = bv ((List.replicate (b.length + 8) 0).drop b.length) by simp [bv], ← bv_append, lentOf_zero] at ho2; have HO2 := Lib.hid ho2; have HM2 := Lib.hid (mk_own HM1.out HO1.out hg2); clear ho2 hg2))
  go_loopw [4] (fun i wr => ∃ k : Nat, b.length ≤ k ∧ k ≤ b.length + 8 ∧ i = .int .i64 k ∧ wr.ownsRow w.heap.size 5 1 (.slice (some ⟨w.heap.size, 0, none⟩) (b.length + 8) (b.length + 8)) (b.length + 8) (bv (lentOf b (k - b.length))) ∧ Mk w wr) (fun i _ => b.length + 8 - (intOf i).toNat)
  case atStart => exact ⟨b.length, by omega, by omega, rfl, by rw [Nat.sub_self]; exact HO2.out, HM2.out⟩
  case round =>
    obtain ⟨k, hk1, hk2, rfl, ho, hm⟩ := hrel
    have HO := Lib.hid ho
    have HM := Lib.hid hm
    clear ho hm
    by_cases hlt : k < b.length + 8
    · have hcell := own_cell HO.out k (by rw [lentOf_length _ _ (by omega)]; exact hlt) (lentOf_length _ _ (by omega))
      have hfro := HO.out.frozenAt k
      go_wp2
      go_roundw
      case rel =>
        refine ⟨k + 1, by omega, by omega, by go_num, ?_, mk_store HM.out HO.out⟩
        have := own_store HO.out k 201
        have e : (lentOf b (k - b.length)).set k 201 = lentOf b (k + 1 - b.length) := by
          have := lentOf_set b (k - b.length) (by omega)
          rw [show b.length + (k - b.length) = k by omega] at this
          rw [this]; congr 1; omega
        rw [e] at this
        exact this
      case measure => simp [intOf]; omega
    · go_wp2
      go_ret
      have e : k - b.length = 8 := by omega
      refine ⟨_, rfl, ?_, HM.out⟩
      have := HO.out
      rwa [e, lentOf_eight] at this

set_option maxRecDepth 100000 in
theorem still_any (w : World) (v u : Value) (l b : List UInt8) (h : Bs w v l) (hu : Bs w u b) (hb : l.length ≤ 140737488355328) (hb2 : b.length ≤ 140737488355328) (hl : l = b ++ List.replicate 8 201) :
    Calls Try.prog 18 #[v, u] w fun e w' => e = .returned (.bool true) ∧ Mk w w' := by
  obtain ⟨a, cap, rfl, hc1, hc2⟩ := h.form
  obtain ⟨a2, cap2, rfl, hc3, hc4⟩ := hu.form
  have H := Lib.hid h
  have HU := Lib.hid hu
  have HL := Lib.hid hl
  have hll : l.length = b.length + 8 := by rw [hl]; simp
  have HLL := Lib.hid hll
  have hge : b.length ≤ l.length := by omega
  clear h hu hc1 hc2 hc3 hc4 hl hll
  go_enter Try.func18, Try.ntmps18
  go_wp2_with fail
  go_loopw [5] (fun i wr => ∃ k : Nat, k ≤ l.length ∧ i = .int .i64 k ∧ Mk w wr) (fun i _ => l.length - (intOf i).toNat)
  case atStart => exact ⟨0, by omega, rfl, mk_refl _⟩
  case round =>
    obtain ⟨k, hk, rfl, hm⟩ := hrel
    have HM := Lib.hid hm
    clear hm
    by_cases hlt : k < l.length
    · obtain ⟨bb, off, rfl, hc⟩ := bs_at (H.out.mk HM.out) k hlt
      obtain ⟨c, hcc⟩ : ∃ c, c = l[k] := ⟨_, rfl⟩
      rw [← hcc] at hc
      have Hcc := Lib.hid hcc
      clear hcc
      by_cases hkb : k < b.length
      · obtain ⟨bb2, off2, rfl, hc2⟩ := bs_at (HU.out.mk HM.out) k hkb
        have e : b[k] = c := by
          have h1 := HL.out
          rw [Hcc.out]
          simp only [h1]
          rw [List.getElem_append_left hkb]
        rw [e] at hc2
        have g1 : decide ((k : Int) < (b.length : Int)) = true := by simp; omega
        have g1' : decide (k < b.length) = true := by simp; omega
        have g2 : ((c.toNat : Int) != (c.toNat : Int)) = false := by simp
        have g3 : decide ((b.length : Int) ≤ (k : Int)) = false := by simp; omega
        have g3' : decide (b.length ≤ k) = false := by simp; omega
        go_wp2
        go_quiet (fail)
        go_wp2
        go_roundw
        case rel => exact ⟨k + 1, by omega, by go_num, mk_trans HM.out (mk_drewN _ _)⟩
        case measure => simp [intOf]; omega
      · have e : c = 201 := by
          have h1 := HL.out
          rw [Hcc.out]
          simp only [h1]
          rw [List.getElem_append_right (by omega)]
          exact List.getElem_replicate _
        rw [e] at hc
        have hc' : wr.cell? ⟨bb, off + k, none⟩ = some (.int .u8 201) := hc
        have g1 : decide ((k : Int) < (b.length : Int)) = false := by simp; omega
        have g1' : decide (k < b.length) = false := by simp; omega
        have g3 : decide ((b.length : Int) ≤ (k : Int)) = true := by simp; omega
        have g3' : decide (b.length ≤ k) = true := by simp; omega
        clear hc e
        go_wp2
        go_quiet (fail)
        go_wp2
        go_roundw
        case rel => exact ⟨k + 1, by omega, by go_num, mk_trans HM.out (mk_drewN _ _)⟩
        case measure => simp [intOf]; omega
    · go_wp2
      go_ret
      exact ⟨rfl, HM.out⟩

set_option maxRecDepth 100000 in
theorem all_any (w : World) (v : Value) (l : List UInt8) (m : UInt8) (h : Bs w v l) (hb : l.length ≤ 140737488355328) (hl : ∀ c ∈ l, c = m) :
    Calls Try.prog 23 #[v, .int .u8 (m.toNat : Int)] w fun e w' => e = .returned (.bool true) ∧ w = w' := by
  obtain ⟨a, cap, rfl, hc1, hc2⟩ := h.form
  have H := Lib.hid h
  have HL := Lib.hid hl
  clear h hc1 hc2 hl
  go_enter Try.func23, Try.ntmps23
  go_wp2_with fail
  go_loop [5] (fun i => ∃ k : Nat, k ≤ l.length ∧ i = .int .i64 k) (fun i => l.length - (intOf i).toNat)
  case atStart => exact ⟨0, by omega, rfl⟩
  case round =>
    obtain ⟨k, hk, rfl⟩ := hrel
    by_cases hlt : k < l.length
    · obtain ⟨bb, off, rfl, hc⟩ := bs_at H.out k hlt
      rw [HL.out l[k] (List.getElem_mem hlt)] at hc
      have g2 : ((m.toNat : Int) != (m.toNat : Int)) = false := by simp
      go_wp2
      go_round
      case rel => exact ⟨k + 1, by omega, by go_num⟩
      case measure => simp [intOf]; omega
    · go_wp2
      go_ret
      exact ⟨rfl, rfl⟩

/-- A row is written full with a mark, and then 64 marks go behind it. -/
theorem fullTo_set (xs : List UInt8) (m : UInt8) (k : Nat) (h : k < xs.length) : (List.replicate k m ++ xs.drop k).set k m = List.replicate (k + 1) m ++ xs.drop (k + 1) := by
  rw [List.set_append_right _ _ (by simp), List.length_replicate, Nat.sub_self, List.drop_eq_getElem_cons h, List.set_cons_zero, List.replicate_succ']
  simp

set_option maxRecDepth 100000 in
theorem full_any (w : World) (base : Nat) (v : Value) (xs : List UInt8) (m : UInt8) (h : w.ownsRow base 5 1 v xs.length (bv xs)) (hb : xs.length ≤ 140737488355000) (hbase : base ≤ w.heap.size) :
    Calls Try.prog 22 #[v, .int .u8 (m.toNat : Int)] w fun e w' => ∃ v', e = .returned v' ∧ w'.ownsRow base 5 1 v' (xs.length + 64) (bv (List.replicate (xs.length + 64) m)) ∧ w.grownBy w' v.ownBlock ∧ Tk.Fr w v v' := by
  obtain ⟨a, cap, rfl, hc1, hc2⟩ := (own_sl h).form
  have H := Lib.hid h
  have hbl := hb
  clear h hc1 hc2 hb
  go_enter Try.func22, Try.ntmps22
  go_wp2_with fail
  go_loopw [5] (fun i wr => ∃ k : Nat, k ≤ xs.length ∧ i = .int .i64 k ∧ wr.ownsRow base 5 1 (.slice a xs.length cap) xs.length (bv (List.replicate k m ++ xs.drop k)) ∧ w.grownBy wr (Value.slice a xs.length cap).ownBlock) (fun i _ => xs.length - (intOf i).toNat)
  case atStart => exact ⟨0, by omega, rfl, by simpa using H.out, grown_refl _ _⟩
  case round =>
    obtain ⟨k, hk, rfl, ho, hg⟩ := hrel
    have HO := Lib.hid ho
    have HG := Lib.hid hg
    clear ho hg
    by_cases hlt : k < xs.length
    · obtain ⟨g, cap', he, _, _, _, _⟩ := own_form HO.out (by omega)
      cases he
      have hlen : (List.replicate k m ++ xs.drop k).length = xs.length := by simp; omega
      obtain ⟨c0, hcell⟩ : ∃ c0, wr.cell? ⟨g, k, none⟩ = some c0 := ⟨_, own_cell HO.out k (by omega) hlen⟩
      have hfro := HO.out.frozenAt k
      clear hlen
      go_wp2
      go_roundw
      case rel =>
        have hs := own_store HO.out k m
        rw [fullTo_set xs m k hlt] at hs
        exact ⟨k + 1, by omega, by go_num, hs, grown_trans HG.out (HO.out.stored k _).2 (fun x hx => .inl hx.symm)⟩
      case measure => simp [intOf]; omega
    · have e : k = xs.length := by omega
      have ho := HO.out
      rw [e, List.drop_length, List.append_nil] at ho
      have HO' := Lib.hid ho
      clear ho
      go_wp2
      go_loopw [0, 6] (fun l i w2 => ∃ j : Nat, j ≤ 64 ∧ i = .int .i64 j ∧ w2.ownsRow base 5 1 l (xs.length + j) (bv (List.replicate (xs.length + j) m)) ∧ w.grownBy w2 (Value.slice a xs.length cap).ownBlock ∧ Tk.Fr w (Value.slice a xs.length cap) l) (fun _ i _ => 64 - (intOf i).toNat)
      case atStart => exact ⟨0, by omega, rfl, HO'.out, HG.out, .inl rfl⟩
      case round =>
        obtain ⟨j, hj, rfl, ho2, hg2, hf2⟩ := hrel
        have HO2 := Lib.hid ho2
        have HG2 := Lib.hid hg2
        have HF2 := Lib.hid hf2
        clear ho2 hg2 hf2 e
        by_cases hlj : j < 64
        · go_wp2_with (at_builtin; refine wpList_append_bytes (P := Try.prog) Try.underlying22 info5 rfl (.tmp 21) (.tmp 23) rfl rfl (HO2.out.alloc _) rfl (new_bytes wr [m] _ 5 1 rfl rfl (by simp [maxLen])) (bv_one _) (by omega) (by have := HG2.out.size; simp; omega) ?_; intro v3 w3 ho3 hg3 _ hf3; rw [← bv_append, ← List.replicate_succ'] at ho3; have HO3 := Lib.hid ho3; have HG3 := Lib.hid (grown_fr HG2.out HF2.out (alloc_grown hg3)); have HF3 := Lib.hid (HF2.out.trans (own_fresh_alloc hf3) HG2.out.size); clear ho3 hg3 hf3)
          go_roundw
          case rel => exact ⟨j + 1, by omega, by go_num, HO3.out, HG3.out, HF3.out⟩
          case measure => simp [intOf]; omega
        · obtain rfl : j = 64 := by omega
          go_wp2
          go_ret
          exact ⟨_, rfl, HO2.out, HG2.out, HF2.out⟩
end Go.Proofs.FrW
