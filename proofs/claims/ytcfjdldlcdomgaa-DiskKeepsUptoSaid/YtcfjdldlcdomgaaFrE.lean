/- The walks of layer 5, frame: Get, and the document's Get. -/
import Derived.Test.YtcfjdldlcdomgaaFrD
import Derived.Test.YtcfjdldlcdomgaaSp
namespace Go.Proofs.FrW
open Go Go.RowKit Go.Tk Go.Sp

/-- What Get hands back: a list of its own. -/
def GetPost (xs : List UInt8) (w : World) (e : Ending) (w' : World) : Prop :=
  Mk w w' ∧ ∃ dv, w'.ownsRow w.heap.size 5 1 dv (match frameOf xs with | some (_, dat, _) => dat | none => []).length (bv (match frameOf xs with | some (_, dat, _) => dat | none => [])) ∧
    e = .returned (.tuple #[.int .u8 (((match frameOf xs with | some (k, _, _) => k | none => 0) : UInt8).toNat : Int), dv, .int .i64 ((match frameOf xs with | some (_, _, n) => n | none => 0 : Nat) : Int)])

theorem nil_bs (w : World) : Bs w (.slice none 0 0) [] := ⟨rfl, _, _, rfl, Nat.le_refl _, Nat.zero_le _, fun _ => rfl, fun hp => absurd hp (by simp)⟩

theorem frame_len {xs : List UInt8} {k : UInt8} {dat : List UInt8} {n : Nat} (h : frameOf xs = some (k, dat, n)) : n = dat.length + 9 ∧ n ≤ xs.length ∧ dat.length ≤ 4194304 := by
  unfold frameOf at h
  split at h
  · cases h
  · split at h
    · cases h
    · split at h
      · cases h
      · split at h
        · simp only [Option.some.injEq, Prod.mk.injEq] at h
          obtain ⟨_, rfl, rfl⟩ := h
          rw [List.length_drop, List.length_take]; omega
        · cases h

theorem Get_any (w : World) (v : Value) (xs : List UInt8) (h : Bs w v xs) (hb : xs.length ≤ 140737488355328) :
    Calls Try.prog 24 #[v] w (GetPost xs w) := by
  have H := Lib.hid h
  have HB := Lib.hid hb
  clear h hb
  rcases hf : frameOf xs with _ | ⟨k, dat, n⟩
  · have HF := Lib.hid hf
    clear hf
    go_enter Try.func24, Try.ntmps24
    go_wp2_with fail
    refine (first_any w v xs H.out HB.out).mono ?_
    intro e w1 hp
    unfold FirstPost at hp
    rw [HF.out] at hp
    obtain ⟨hm, rfl⟩ := hp
    have HM := Lib.hid hm
    clear hm
    go_wp2_with fail
    refine (clone_any _ _ [] (nil_bs _) (by simp)).mono ?_
    rintro e w2 ⟨dv, rfl, ho, hm2⟩
    have HO := Lib.hid ho
    have HM2 := Lib.hid hm2
    clear ho hm2
    go_wp2
    go_ret3
    unfold GetPost
    rw [HF.out]
    exact ⟨mk_trans HM.out HM2.out, dv, own_base HO.out HM.out.size, rfl⟩
  · have HF := Lib.hid hf
    clear hf
    go_enter Try.func24, Try.ntmps24
    go_wp2_with fail
    refine (first_any w v xs H.out HB.out).mono ?_
    intro e w1 hp
    unfold FirstPost at hp
    rw [HF.out] at hp
    obtain ⟨hm, dv0, rfl, hbs⟩ := hp
    have HM := Lib.hid hm
    have HS := Lib.hid hbs
    clear hm hbs
    go_wp2_with fail
    refine (clone_any _ _ dat (HS.out.mk HM.out) (by have := frame_len HF.out; omega)).mono ?_
    rintro e w2 ⟨dv, rfl, ho, hm2⟩
    have HO := Lib.hid ho
    have HM2 := Lib.hid hm2
    clear ho hm2
    go_wp2
    go_ret3
    unfold GetPost
    rw [HF.out]
    exact ⟨mk_trans HM.out HM2.out, dv, own_base HO.out HM.out.size, rfl⟩

theorem word_le4 (w : World) (v : Value) (xs : List UInt8) (h : Bs w v xs) (hl : 4 ≤ xs.length) :
    Calls Try.prog 80 #[v] w fun e w' => e = .returned (.int .u32 (le4? xs : Int)) ∧ ∃ m, w.drewN m = w' := by
  match xs, h, hl with
  | a :: b :: c :: d :: r, h, _ => exact word_any w v a b c d r h
  | [], _, hl => simp at hl
  | [_], _, hl => simp at hl
  | [_, _], _, hl => simp at hl
  | [_, _, _], _, hl => simp at hl
theorem le4_take (xs : List UInt8) (h : 4 ≤ xs.length) : le4? (xs.take 4) = le4? xs := by
  match xs, h with
  | a :: b :: c :: d :: r, _ => rfl
  | [], hl => simp at hl
  | [_], hl => simp at hl
  | [_, _], hl => simp at hl
  | [_, _, _], hl => simp at hl

set_option maxRecDepth 100000 in
theorem getR_any (w : World) (v : Value) (xs : List UInt8) (h : Bs w v xs) (hb : xs.length ≤ 140737488355328) :
    Calls Try.prog 25 #[v] w (GetPost xs w) := by
  obtain ⟨a, cap, rfl, hc1, hc2⟩ := h.form
  have H := Lib.hid h
  have HBd := Lib.hid hb
  clear h hb
  by_cases h9 : xs.length < 9
  · go_enter Try.func25, Try.ntmps25
    go_wp2
    go_ret3
    have hf : frameOf xs = none := by unfold frameOf; rw [if_pos h9]
    unfold GetPost
    rw [hf]
    exact ⟨mk_refl _, _, World.ownsRow_nil _ _ _ _, rfl⟩
  · have hlen : 9 ≤ xs.length := by omega
    obtain ⟨b, off, rfl, _⟩ := H.out.cellAt (by omega)
    have h91 : (9 : Int) ≤ (xs.length : Int) := by omega
    have hcap1 : ¬ cap = 1 := by omega
    clear h9
    have hcap := hc2
    clear hc2
    have HS1 : Hid (Bs w (.slice (some ⟨b, off + 1, none⟩) 4 (cap - 1)) ((xs.take 5).drop 1)) := sub_some H.out rfl 1 5 4 (cap - 1) (off + 1) (by omega) (by omega) rfl (by omega) (by omega) rfl
    obtain ⟨n, hn⟩ : ∃ n, n = le4? (xs.drop 1) := ⟨_, rfl⟩
    have hn4 : le4? ((xs.take 5).drop 1) = n := by
      rw [hn, ← le4_take (xs.drop 1) (by simp; omega), List.take_drop]
    have Hn := Lib.hid hn
    have Hn4 := Lib.hid hn4
    clear hn hn4
    have hnl : n < 4294967296 := by
      rw [Hn.out]; unfold le4?; split
      · exact le4_lt _ _ _ _
      · decide
    have hxl := HBd.out
    by_cases hbig : 4194304 < n
    · go_enter Try.func25, Try.ntmps25
      go_wp2_with fail
      refine (word_le4 w _ ((xs.take 5).drop 1) HS1.out (by simp; omega)).mono ?_
      rw [Hn4.out]
      rintro e w1 ⟨rfl, m1, rfl⟩
      go_wp2
      go_ret3
      have hf : frameOf xs = none := by unfold frameOf; rw [if_neg (by omega), if_pos (by rw [← Hn.out]; exact hbig)]
      unfold GetPost
      rw [hf]
      exact ⟨mk_drewN _ _, _, World.ownsRow_nil _ _ _ _, rfl⟩
    · by_cases hshort : xs.length < n + 9
      · go_enter Try.func25, Try.ntmps25
        go_wp2_with fail
        refine (word_le4 w _ ((xs.take 5).drop 1) HS1.out (by simp; omega)).mono ?_
        rw [Hn4.out]
        rintro e w1 ⟨rfl, m1, rfl⟩
        go_wp2
        go_ret3
        have hf : frameOf xs = none := by unfold frameOf; rw [if_neg (by omega), ← Hn.out, if_neg hbig, if_pos hshort]
        unfold GetPost
        rw [hf]
        exact ⟨mk_drewN _ _, _, World.ownsRow_nil _ _ _ _, rfl⟩
      · have hs1 : n + 9 ≤ xs.length := by omega
        have hb1 : n ≤ 4194304 := by omega
        clear hbig hshort
        have hcap5 : ¬ cap = 5 + n := by omega
        have hcap5' : ¬ cap = n + 5 := by omega
        have HSE : Hid (Bs w (.slice (some ⟨b, off + (5 + n), none⟩) 4 (cap - (5 + n))) ((xs.take (5 + n + 4)).drop (5 + n))) :=
          sub_some H.out rfl (5 + n) (5 + n + 4) 4 (cap - (5 + n)) (off + (5 + n)) (by omega) (by omega) (by omega) (by omega) (by omega) rfl
        have HSP : Hid (Bs w (.slice (some ⟨b, off, none⟩) (5 + n) cap) (xs.take (5 + n))) := by
          have := sub_some H.out rfl 0 (5 + n) (5 + n) cap off (by omega) (by omega) (by omega) (by omega) (by omega) rfl
          rwa [List.drop_zero] at this
        have hz : le4? ((xs.take (5 + n + 4)).drop (5 + n)) = le4? (xs.drop (5 + n)) := by
          rw [← le4_take (xs.drop (5 + n)) (by simp; omega), List.take_drop]
        have Hz := Lib.hid hz
        clear hz
        have Hel : Hid (((xs.take (5 + n + 4)).drop (5 + n)).length = 4) := by show _ = _; rw [List.length_drop, List.length_take]; omega
        have Hpl : Hid ((xs.take (5 + n)).length = 5 + n) := by show _ = _; rw [List.length_take]; omega
        have HSD : Hid (Bs w (.slice (some ⟨b, off + 5, none⟩) (5 + n - 5) (cap - 5)) ((xs.take (5 + n)).drop 5)) := sub_some H.out rfl 5 (5 + n) (5 + n - 5) (cap - 5) (off + 5) (by omega) (by omega) rfl (by omega) (by omega) rfl
        have Hdl : Hid (((xs.take (5 + n)).drop 5).length = n) := by show _ = _; rw [List.length_drop, List.length_take]; omega
        go_enter Try.func25, Try.ntmps25
        go_wp2_with fail
        refine (word_le4 w _ ((xs.take 5).drop 1) HS1.out (by simp; omega)).mono ?_
        rw [Hn4.out]
        rintro e w1 ⟨rfl, m1, rfl⟩
        go_wp2_with fail
        refine wp_region_mk (by kernel_rfl) (by kernel_rfl) ?_
        intro C hC1 hC2 hne
        repeat (go_big_quiet_step ((first | exact (fun _ => rfl) | (intro hw; go_at_call 80; exact (word_le4 _ _ _ (HSE.out.mk (mk_trans (mk_drewN w m1) (hC1.out _ hw))) (by rw [Hel.out]; omega)).mono fun e w2 ⟨he, m, hm⟩ => ⟨he, hC2.out _ _ hw (by subst hm; exact mk_drewN _ _)⟩) | (intro hw; go_at_call 81; exact (crcR_any _ _ _ (HSP.out.mk (mk_trans (mk_drewN w m1) (hC1.out _ hw))) (by rw [Hpl.out]; omega)).mono fun e w2 ⟨he, hm⟩ => ⟨he, by subst hm; exact hw⟩))))
        refine wpQuiet_nil ?_
        rw [Hz.out]
        intro w3 hw3
        have M3 := Lib.hid (mk_trans (mk_drewN w m1) (hC1.out _ hw3))
        clear hw3 hne hC1 hC2
        have hi0 : (0 : Int) < (xs.length : Int) := by omega
        have hi0n : 0 < xs.length := by omega
        by_cases heq : le4? (xs.drop (5 + n)) = Fr.crc (xs.take (5 + n))
        · have hb : ((le4? (xs.drop (5 + n)) : Int) != (Fr.crc (xs.take (5 + n)) : Int)) = false := by rw [heq]; simp
          have Heq := Lib.hid heq
          clear heq
          have hcap55 : ¬ cap = 5 := by omega
          have hcell : ∀ w', Mk w3 w' → w'.cell? ⟨b, off, none⟩ = some (.int .u8 ((xs.head?.getD 0).toNat : Int)) := fun w' hm' => by
            obtain ⟨b', off', he, hd⟩ := bs_at (H.out.mk (mk_trans M3.out hm')) 0 (by omega)
            cases he
            rw [Nat.add_zero] at hd
            rw [hd]
            match xs, hlen with
            | x :: r, _ => rfl
          go_wp2
          refine wp_region_sp (fun j => j == 7) (fun w' => Mk w3 w') (by kernel_rfl) (by kernel_rfl) (mk_refl _) (fun _ _ => mk_trans) ?_
          intro D hD hne
          have q1 := @qAt_value Try.prog
          · skip
            iterate 7 (first | (refine spk (by rfl) (by rfl) (by rfl) (fun K hK => ?_); go_big_quiet_op; first | (refine hK _ ?_; clear hK K) | (apply Exists.intro; refine ⟨fun _ => ?_, hK _ ?_⟩; (exact fun _ => rfl); clear hK K)) | (refine spq (by rfl) (by rfl) (fun K hK => ?_); apply Exists.intro; refine ⟨fun w' hw' => ?_, ?_⟩; (go_simp; exact rfl); (go_simp; refine hK _ ?_; clear hK K)))
            refine sps (by rfl) (by rfl) (fun v w' => Mk w3 w' ∧ w'.ownsRow w3.heap.size 5 1 v ((xs.take (5 + n)).drop 5).length (bv ((xs.take (5 + n)).drop 5))) (fun v w1 w2 h k => ⟨mk_trans h.1 k, own_mk h.2 k⟩) (fun v w' h => h.1) (fun w' hw' => ?_) (fun K dv hdv hK => ?_)
            · have HW := Lib.hid (hD.out w' hw').1
              refine sAt_append (t := 22) (e := 5) Try.underlying22 info5 (.tmp 41) (.tmp 44) rfl rfl (World.ownsRow_nil w' w3.heap.size 5 1) rfl (HSD.out.mk (mk_trans M3.out HW.out)) (bv_one _) (by rw [Hdl.out]; omega) HW.out.size ?_
              intro v' w2 ho hg _ _
              rw [Nat.zero_add, List.nil_append] at ho
              exact ⟨mk_trans HW.out (grown_mk hg), ho⟩
            go_simp
            refine hK _ ?_
            clear hK K
            have HDV := Lib.hid hdv
            clear hdv hne
            iterate 5 (first | (refine spk (by rfl) (by rfl) (by rfl) (fun K hK => ?_); go_big_quiet_op; first | (refine hK _ ?_; clear hK K) | (apply Exists.intro; refine ⟨fun _ => ?_, hK _ ?_⟩; (exact fun _ => rfl); clear hK K)) | (refine spq (by rfl) (by rfl) (fun K hK => ?_); apply Exists.intro; refine ⟨fun w' hw' => ?_, ?_⟩; (go_simp; exact rfl); (go_simp; refine hK _ ?_; clear hK K)))
            refine sp_nil ?_
            rintro w4 ⟨hm4, ho4⟩
            have HM4 := Lib.hid hm4
            have HO4 := Lib.hid ho4
            clear hm4 ho4
            go_wp2
            go_ret3
            unfold GetPost
            rw [frame_some (by omega) (by rw [← Hn.out]; omega) (by rw [← Hn.out]; omega) (by rw [← Hn.out]; exact Heq.out), ← Hn.out]
            exact ⟨mk_trans M3.out HM4.out, dv, own_base HO4.out M3.out.size, ret3 (by dsimp only; omega)⟩
        · have hb : ((le4? (xs.drop (5 + n)) : Int) != (Fr.crc (xs.take (5 + n)) : Int)) = true := by simp; omega
          have Heq := Lib.hid heq
          clear heq
          go_wp2
          go_ret3
          have hf : frameOf xs = none := by unfold frameOf; rw [if_neg (by omega), ← Hn.out, if_neg (by omega), if_neg (by omega), if_neg Heq.out]
          unfold GetPost
          rw [hf]
          exact ⟨M3.out, _, World.ownsRow_nil _ _ _ _, rfl⟩
end Go.Proofs.FrW
