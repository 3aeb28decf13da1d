/- The walks of layer 5, frame: the statement FrameTorn. -/
import Derived.Test.YtcfjdldlcdomgaaFrM
import Derived.StillTailTactics
namespace Go.Proofs.FrW
open Go Go.RowKit Go.Tk Go.Sp Go.Rg Go.Lib Go.Shelf

theorem i64_of {n : Int} (h : (Lit.int .i64 n).wf = true) : -9223372036854775808 ≤ n ∧ n ≤ 9223372036854775807 := by
  simp only [Lit.wf, Bool.and_eq_true, decide_eq_true_eq] at h
  have e1 : IntKind.i64.min = -9223372036854775808 := by kernel_rfl
  have e2 : IntKind.i64.max = 9223372036854775807 := by kernel_rfl
  omega
theorem sAt_value {P : Program} {R : Value → World → Prop} {w' : World} {v : Value} : sAt P R (.ok (.value v) w') = R v w' := rfl
theorem sAt_skip {P : Program} {R : Value → World → Prop} {w' : World} : sAt P R (.ok .skip w') = R undef w' := rfl
theorem torn_iff (k : UInt8) (dat : List UInt8) (i : Nat) (t : UInt8) (h : dat.length ≤ 4194304) (hi : i < (frm k dat).length) :
    gN ((frm k dat).set i ((frm k dat)[i] ^^^ t)) = (frm k dat).length ↔ t = 0 := by
  have hl := frm_length k dat
  constructor
  · intro e
    unfold gN at e
    rcases hf : frameOf ((frm k dat).set i ((frm k dat)[i] ^^^ t)) with _ | ⟨k', d', n⟩
    · rw [hf] at e; simp only at e; omega
    · rw [hf] at e
      simp only at e
      have := torn_turned k dat i _ h hi hf (by omega)
      have h2 : (frm k dat)[i] ^^^ ((frm k dat)[i] ^^^ t) = (frm k dat)[i] ^^^ (frm k dat)[i] := by rw [this]
      rwa [← UInt8.xor_assoc, UInt8.xor_self, UInt8.zero_xor] at h2
  · rintro rfl
    have e : (frm k dat).set i ((frm k dat)[i] ^^^ 0) = frm k dat := by rw [UInt8.xor_zero]; exact List.set_getElem_self _
    have := frame_put k dat [] h
    rw [List.append_nil] at this
    unfold gN
    rw [e, this, hl]
theorem turn_cases (n : Int) : (n < 0 ∧ ∃ m : Nat, -(n + 1) = (m : Int)) ∨ (¬ n < 0 ∧ ∃ m : Nat, n = (m : Int)) := by
  by_cases h : n < 0
  · exact .inl ⟨h, (-(n + 1)).toNat, by omega⟩
  · exact .inr ⟨h, n.toNat, by omega⟩

set_option maxHeartbeats 400000 in
set_option maxRecDepth 100000 in
theorem frameTorn_any (w : World) (k : UInt8) (v : Value) (xs : List UInt8) (h : Bs w v xs) (hb : xs.length ≤ 1048576) (cut : Int) (hc : (Lit.int .i64 cut).wf = true) (at_ : Int) (ha : (Lit.int .i64 at_).wf = true) (tb : UInt8) :
    Calls Try.prog 7 #[.int .u8 (k.toNat : Int), v, .int .i64 cut, .int .i64 at_, .int .u8 (tb.toNat : Int)] w fun e w' => e = .returned (.bool true) ∧ Mk w w' := by
  obtain ⟨a, cap, rfl, hc1, hc2⟩ := h.form
  have H := Lib.hid h
  clear h hc1 hc2
  obtain ⟨hc1, hc2⟩ := i64_of hc
  obtain ⟨ha1, ha2⟩ := i64_of ha
  clear hc ha
  have hlF := Lib.hid (frm_length k xs)
  have h9 : 9 ≤ (frm k xs).length := by rw [hlF.out]; omega
  have hF2 : (frm k xs).length ≤ 2000000 := by rw [hlF.out]; omega
  rcases turn_cases cut with ⟨hcn, m, em⟩ | ⟨hcn, m, em⟩ <;> rcases turn_cases at_ with ⟨han, i, ei⟩ | ⟨han, i, ei⟩
  all_goals
    obtain ⟨j, hj⟩ : ∃ j, m % (frm k xs).length = j := ⟨_, rfl⟩
    obtain ⟨p, hp⟩ : ∃ p, i % (frm k xs).length = p := ⟨_, rfl⟩
    have ej : (m : Int).tmod ((frm k xs).length : Int) = (j : Int) := by rw [← hj, Int.ofNat_tmod]
    have ep : (i : Int).tmod ((frm k xs).length : Int) = (p : Int) := by rw [← hp, Int.ofNat_tmod]
    have hjl : j < (frm k xs).length := by rw [← hj]; exact Nat.mod_lt _ (by omega)
    have hpl : p < (frm k xs).length := by rw [← hp]; exact Nat.mod_lt _ (by omega)
    clear hj hp
    generalize hF : frm k xs = F at *
    have HF := Lib.hid hF
    clear hF
    go_enter Try.func7, Try.ntmps7
    go_wp2_with fail
    refine (shown_any _).mono ?_
    rintro e w1 ⟨rfl, hm⟩
    have HM1 := Lib.hid hm
    clear hm
    go_wp2_with fail
    refine (Put_any _ (.slice none 0 0) _ [] xs k (nil_bs _) (H.out.mk HM1.out) (by simp) (by omega)).mono ?_
    intro e w2 hp
    unfold PutPost at hp
    rw [if_neg (by omega), List.nil_append, HF.out] at hp
    obtain ⟨hm2, v1, rfl, ho1⟩ := hp
    obtain ⟨g1, c1, rfl, hc1', hc2', hg1, hg2⟩ := own_form ho1 (by omega)
    have HO1 := Lib.hid ho1
    have HM2 := Lib.hid (mk_trans HM1.out hm2)
    clear ho1 hm2 hg1 hg2 hc2'
    go_wp2_with fail
    refine (Get_any _ _ (F.take j) (Sl.taken (own_sl HO1.out) j (by omega)) (by simp; omega)).mono ?_
    intro e w3 hp
    unfold GetPost at hp
    rw [← HF.out, torn_short k xs j (by omega) (by rw [← hlF.out]; exact hjl)] at hp
    dsimp only at hp
    obtain ⟨hm3, dv, _, rfl⟩ := hp
    have HM3 := Lib.hid (mk_trans HM2.out hm3)
    have HM23 := Lib.hid hm3
    clear hm3
    go_wp2_with (at_builtin; refine wpList_append_bytes (P := Try.prog) Try.underlying22 info5 rfl (.tmp 64) (.tmp 65) rfl rfl (lit_own w3 #[] 5 (by simp [maxLen])) rfl ((own_sl HO1.out).mk (mk_trans HM23.out (mk_alloc _ _))) (bv_one _) (by simp; omega) (by simp) ?_; intro v2 w4 ho2 hg2 hn hf; have HO2 := Lib.hid (show w4.ownsRow w3.heap.size 5 1 v2 F.length (bv F) by simpa using ho2); have HM4 := Lib.hid (mk_trans HM3.out (mk_own (mk_alloc w3 _) (lit_own w3 #[] 5 (by simp [maxLen])) hg2)); clear ho2 hg2 hn hf)
    obtain ⟨g2, c2, rfl, hc2', hc2'', hg1, hg2⟩ := own_form HO2.out (by omega)
    have hx : bits BinOp.xor IntKind.u8 (F[p].toNat : Int) (tb.toNat : Int) = ((F[p] ^^^ tb).toNat : Int) := by
      rw [UInt8.toNat_xor]; exact u8_xor_nat _ _ (UInt8.toNat_lt _) (UInt8.toNat_lt _)
    have HX := Lib.hid hx
    clear hc2'' hg1 hg2 hx
    refine wp_region_sp (fun j => j == 11 || j == 15) (fun _ => True) (by kernel_rfl) (by kernel_rfl) trivial (fun _ _ _ _ => trivial) ?_
    intro D hD hne
    have q1 := @qAt_value Try.prog
    iterate 11 (first | (refine spk (by rfl) (by rfl) (by rfl) (fun K hK => ?_); go_big_quiet_op; first | (refine hK _ ?_; clear hK K) | (apply Exists.intro; refine ⟨fun _ => ?_, hK _ ?_⟩; (exact fun _ => rfl); clear hK K)) | (refine spq (by rfl) (by rfl) (fun K hK => ?_); apply Exists.intro; refine ⟨fun w' hw' => ?_, ?_⟩; (go_simp; exact rfl); (go_simp; refine hK _ ?_; clear hK K)))
    refine sps (by rfl) (by rfl) (fun v w' => v = .int .u8 (F[p].toNat : Int) ∧ Mk w w' ∧ w'.ownsRow w3.heap.size 5 1 (.slice (some ⟨g2, 0, none⟩) F.length c2) F.length (bv F)) (fun v w1 w2 h k => ⟨h.1, mk_trans h.2.1 k, own_mk h.2.2 k⟩) (fun v w' h => trivial) (fun w' hw' => ?_) (fun K dv hdv hK => ?_)
    · have HW := Lib.hid (hD.out w' hw').1
      have HOW := Lib.hid (own_mk HO2.out HW.out)
      have hcell := own_cell HOW.out p hpl rfl
      have sA := @sAt_value Try.prog
      go_simp
      exact ⟨mk_trans HM4.out HW.out, HOW.out⟩
    obtain ⟨w0, rfl, h0, h0'⟩ := hdv
    clear h0 h0' w0 hne
    go_simp
    refine hK _ ?_
    clear hK K
    iterate 3 (first | (refine spk (by rfl) (by rfl) (by rfl) (fun K hK => ?_); go_big_quiet_op; first | (refine hK _ ?_; clear hK K) | (apply Exists.intro; refine ⟨fun _ => ?_, hK _ ?_⟩; (exact fun _ => rfl); clear hK K)) | (refine spq (by rfl) (by rfl) (fun K hK => ?_); apply Exists.intro; refine ⟨fun w' hw' => ?_, ?_⟩; (go_simp; exact rfl); (go_simp; refine hK _ ?_; clear hK K)))
    refine sps (by rfl) (by rfl) (fun v w' => v = undef ∧ Mk w w' ∧ w'.ownsRow w3.heap.size 5 1 (.slice (some ⟨g2, 0, none⟩) F.length c2) F.length (bv (F.set p (F[p] ^^^ tb)))) (fun v w1 w2 h k => ⟨h.1, mk_trans h.2.1 k, own_mk h.2.2 k⟩) (fun v w' h => trivial) (fun w' hw' => ?_) (fun K dv hdv hK => ?_)
    · obtain ⟨_, hm, ho⟩ := hw'
      have HW := Lib.hid hm
      have HOW := Lib.hid ho
      have hcell := own_cell HOW.out p hpl rfl
      have hfr := HOW.out.frozenAt p
      clear hm ho
      have sA := @sAt_skip Try.prog
      rw [HX.out]
      go_simp
      have hst := HOW.out.stored p (.int .u8 ((F[p] ^^^ tb).toNat : Int))
      exact ⟨mk_own' HW.out (fun k e => by cases e; have h1 : w3.heap.size ≤ g2 := (HOW.out.lt g2 rfl).1; have h2 := HM3.out.size; show w.heap.size ≤ g2; omega) hst.2, own_store HOW.out p _⟩
    obtain ⟨w0, rfl, h0, h0'⟩ := hdv
    clear h0 h0' w0
    go_simp
    refine hK _ ?_
    clear hK K
    refine sp_nil ?_
    rintro w5 ⟨_, hm, ho⟩
    have HM5 := Lib.hid hm
    have HO5 := Lib.hid ho
    clear hm ho hD D q1
    have hN := torn_iff k xs p tb (by omega) (by rw [HF.out]; exact hpl)
    simp only [HF.out] at hN
    go_wp2_with fail
    refine (Get_any _ _ (F.set p (F[p] ^^^ tb)) (bs_of (own_sl HO5.out) (by simp)) (by simp; omega)).mono ?_
    intro e w6 hp
    obtain ⟨hm, dv2, _, rfl⟩ := get_out hp
    have HM6 := Lib.hid (mk_trans HM5.out hm)
    clear hm hp
    generalize gN (F.set p (F[p] ^^^ tb)) = N at *
    generalize gK (F.set p (F[p] ^^^ tb)) = K2 at *
    by_cases ht : tb = 0
    · have q2 : ((N : Int) == (F.length : Int)) = true := by have := hN.2 ht; simp; omega
      have q3 : ((tb.toNat : Int) == 0) = true := by rw [ht]; rfl
      clear hN ht
      go_wp2_with fail
      go_ret
      exact ⟨rfl, HM6.out⟩
    · have q2 : ((N : Int) == (F.length : Int)) = false := by have : ¬ N = F.length := fun h => ht (hN.1 h); simp; omega
      have q3 : ((tb.toNat : Int) == 0) = false := by
        have : tb.toNat ≠ 0 := fun h => ht (UInt8.toNat_inj.1 h)
        simp; omega
      clear hN ht
      go_wp2_with fail
      go_ret
      exact ⟨rfl, HM6.out⟩
#print axioms frameTorn_any
end Go.Proofs.FrW
