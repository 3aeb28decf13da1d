/- The walks of layer 5, frame: Get, and the document's Get. The walks of layer 5, frame: Put, and the document's Put. The walks of layer 5, frame: the words of the statements: bytes that are lent, looked at, written over. A range over a function whose iterator hands on lists that lie in memory: what a round is told of them. Nothing of the program stands here. -/
import Derived.Test.YtcfjdldlcdomgaaMWalPlays4
import Derived.Test.YtcfjdldlcdomgaaMWalPlays2
import Derived.Test.YtcfjdldlcdomgaaMWalPlays0
import Derived.RangeFuncNested
import Derived.RangeFuncBound
import Derived.RangeFuncCalls
import Derived.RangeFuncLeaves
set_option linter.unusedVariables false
set_option linter.unusedSimpArgs false
namespace Go.Proofs.FrW
open Go Go.RowKit Go.Tk Go.Sp

/-- What Get hands back: a list of its own. -/
def GetPost (xs : List UInt8) (w : World) (e : Ending) (w' : World) : Prop :=
  Mk w w' ∧ ∃ dv, w'.ownsRow w.heap.size 5 1 dv (match frameOf xs with | some (_, dat, _) => dat | none => []).length (bv (match frameOf xs with | some (_, dat, _) => dat | none => [])) ∧
    e = .returned (.tuple #[.int .u8 (((match frameOf xs with | some (k, _, _) => k | none => 0) : UInt8).toNat : Int), dv, .int .i64 ((match frameOf xs with | some (_, _, n) => n | none => 0 : Nat) : Int)])

theorem nil_bs (w : World) : Bs w (.slice none 0 0) [] := ⟨rfl, _, _, rfl, Nat.le_refl _, Nat.zero_le _, fun _ => rfl, fun hp => absurd hp (by simp)⟩

theorem frame_len {xs : List UInt8} {k : UInt8} {dat : List UInt8} {n : Nat} (h : frameOf xs = some (k, dat, n)) : n = dat.length + 9 ∧ n ≤ xs.length ∧ dat.length ≤ 4194304 := by
  unfold frameOf at h
  split at h
  · cases h
  · split at h
    · cases h
    · split at h
      · cases h
      · split at h
        · simp only [Option.some.injEq, Prod.mk.injEq] at h
          obtain ⟨_, rfl, rfl⟩ := h
          rw [List.length_drop, List.length_take]; omega
        · cases h

theorem Get_any (w : World) (v : Value) (xs : List UInt8) (h : Bs w v xs) (hb : xs.length ≤ 140737488355328) :
    Calls Try.prog 24 #[v] w (GetPost xs w) := by
  have H := Lib.hid h
  have HB := Lib.hid hb
  clear h hb
  rcases hf : frameOf xs with _ | ⟨k, dat, n⟩
  · have HF := Lib.hid hf
    clear hf
    go_enter Try.func24, Try.ntmps24
    go_wp2_with fail
    refine (first_any w v xs H.out HB.out).mono ?_
    intro e w1 hp
    unfold FirstPost at hp
    rw [HF.out] at hp
    obtain ⟨hm, rfl⟩ := hp
    have HM := Lib.hid hm
    clear hm
    go_wp2_with fail
    refine (clone_any _ _ [] (nil_bs _) (by simp)).mono ?_
    rintro e w2 ⟨dv, rfl, ho, hm2⟩
    have HO := Lib.hid ho
    have HM2 := Lib.hid hm2
    clear ho hm2
    go_wp2
    go_ret3
    unfold GetPost
    rw [HF.out]
    exact ⟨mk_trans HM.out HM2.out, dv, own_base HO.out HM.out.size, rfl⟩
  · have HF := Lib.hid hf
    clear hf
    go_enter Try.func24, Try.ntmps24
    go_wp2_with fail
    refine (first_any w v xs H.out HB.out).mono ?_
    intro e w1 hp
    unfold FirstPost at hp
    rw [HF.out] at hp
    obtain ⟨hm, dv0, rfl, hbs⟩ := hp
    have HM := Lib.hid hm
    have HS := Lib.hid hbs
    clear hm hbs
    go_wp2_with fail
    refine (clone_any _ _ dat (HS.out.mk HM.out) (by have := frame_len HF.out; omega)).mono ?_
    rintro e w2 ⟨dv, rfl, ho, hm2⟩
    have HO := Lib.hid ho
    have HM2 := Lib.hid hm2
    clear ho hm2
    go_wp2
    go_ret3
    unfold GetPost
    rw [HF.out]
    exact ⟨mk_trans HM.out HM2.out, dv, own_base HO.out HM.out.size, rfl⟩

theorem word_le4 (w : World) (v : Value) (xs : List UInt8) (h : Bs w v xs) (hl : 4 ≤ xs.length) :
    Calls Try.prog 80 #[v] w fun e w' => e = .returned (.int .u32 (le4? xs : Int)) ∧ ∃ m, w.drewN m = w' := by
  match xs, h, hl with
  | a :: b :: c :: d :: r, h, _ => exact word_any w v a b c d r h
  | [], _, hl => simp at hl
  | [_], _, hl => simp at hl
  | [_, _], _, hl => simp at hl
  | [_, _, _], _, hl => simp at hl
theorem le4_take (xs : List UInt8) (h : 4 ≤ xs.length) : le4? (xs.take 4) = le4? xs := by
  match xs, h with
  | a :: b :: c :: d :: r, _ => rfl
  | [], hl => simp at hl
  | [_], hl => simp at hl
  | [_, _], hl => simp at hl
  | [_, _, _], hl => simp at hl

set_option maxRecDepth 100000 in
theorem getR_any (w : World) (v : Value) (xs : List UInt8) (h : Bs w v xs) (hb : xs.length ≤ 140737488355328) :
    Calls Try.prog 25 #[v] w (GetPost xs w) := by
  obtain ⟨a, cap, rfl, hc1, hc2⟩ := h.form
  have H := Lib.hid h
  have HBd := Lib.hid hb
  clear h hb
  by_cases h9 : xs.length < 9
  · go_enter Try.func25, Try.ntmps25
    go_wp2
    go_ret3
    have hf : frameOf xs = none := by unfold frameOf; rw [if_pos h9]
    unfold GetPost
    rw [hf]
    exact ⟨mk_refl _, _, World.ownsRow_nil _ _ _ _, rfl⟩
  · have hlen : 9 ≤ xs.length := by omega
    obtain ⟨b, off, rfl, _⟩ := H.out.cellAt (by omega)
    have h91 : (9 : Int) ≤ (xs.length : Int) := by omega
    have hcap1 : ¬ cap = 1 := by omega
    clear h9
    have hcap := hc2
    clear hc2
    have HS1 : Hid (Bs w (.slice (some ⟨b, off + 1, none⟩) 4 (cap - 1)) ((xs.take 5).drop 1)) := sub_some H.out rfl 1 5 4 (cap - 1) (off + 1) (by omega) (by omega) rfl (by omega) (by omega) rfl
    obtain ⟨n, hn⟩ : ∃ n, n = le4? (xs.drop 1) := ⟨_, rfl⟩
    have hn4 : le4? ((xs.take 5).drop 1) = n := by
      rw [hn, ← le4_take (xs.drop 1) (by simp; omega), List.take_drop]
    have Hn := Lib.hid hn
    have Hn4 := Lib.hid hn4
    clear hn hn4
    have hnl : n < 4294967296 := by
      rw [Hn.out]; unfold le4?; split
      · exact le4_lt _ _ _ _
      · decide
    have hxl := HBd.out
    by_cases hbig : 4194304 < n
    · go_enter Try.func25, Try.ntmps25
      go_wp2_with fail
      refine (word_le4 w _ ((xs.take 5).drop 1) HS1.out (by simp; omega)).mono ?_
      rw [Hn4.out]
      rintro e w1 ⟨rfl, m1, rfl⟩
      go_wp2
      go_ret3
      have hf : frameOf xs = none := by unfold frameOf; rw [if_neg (by omega), if_pos (by rw [← Hn.out]; exact hbig)]
      unfold GetPost
      rw [hf]
      exact ⟨mk_drewN _ _, _, World.ownsRow_nil _ _ _ _, rfl⟩
    · by_cases hshort : xs.length < n + 9
      · go_enter Try.func25, Try.ntmps25
        go_wp2_with fail
        refine (word_le4 w _ ((xs.take 5).drop 1) HS1.out (by simp; omega)).mono ?_
        rw [Hn4.out]
        rintro e w1 ⟨rfl, m1, rfl⟩
        go_wp2
        go_ret3
        have hf : frameOf xs = none := by unfold frameOf; rw [if_neg (by omega), ← Hn.out, if_neg hbig, if_pos hshort]
        unfold GetPost
        rw [hf]
        exact ⟨mk_drewN _ _, _, World.ownsRow_nil _ _ _ _, rfl⟩
      · have hs1 : n + 9 ≤ xs.length := by omega
        have hb1 : n ≤ 4194304 := by omega
        clear hbig hshort
        have hcap5 : ¬ cap = 5 + n := by omega
        have hcap5' : ¬ cap = n + 5 := by omega
        have HSE : Hid (Bs w (.slice (some ⟨b, off + (5 + n), none⟩) 4 (cap - (5 + n))) ((xs.take (5 + n + 4)).drop (5 + n))) :=
          sub_some H.out rfl (5 + n) (5 + n + 4) 4 (cap - (5 + n)) (off + (5 + n)) (by omega) (by omega) (by omega) (by omega) (by omega) rfl
        have HSP : Hid (Bs w (.slice (some ⟨b, off, none⟩) (5 + n) cap) (xs.take (5 + n))) := by
          have := sub_some H.out rfl 0 (5 + n) (5 + n) cap off (by omega) (by omega) (by omega) (by omega) (by omega) rfl
          rwa [List.drop_zero] at this
        have hz : le4? ((xs.take (5 + n + 4)).drop (5 + n)) = le4? (xs.drop (5 + n)) := by
          rw [← le4_take (xs.drop (5 + n)) (by simp; omega), List.take_drop]
        have Hz := Lib.hid hz
        clear hz
        have Hel : Hid (((xs.take (5 + n + 4)).drop (5 + n)).length = 4) := by show _ = _; rw [List.length_drop, List.length_take]; omega
        have Hpl : Hid ((xs.take (5 + n)).length = 5 + n) := by show _ = _; rw [List.length_take]; omega
        have HSD : Hid (Bs w (.slice (some ⟨b, off + 5, none⟩) (5 + n - 5) (cap - 5)) ((xs.take (5 + n)).drop 5)) := sub_some H.out rfl 5 (5 + n) (5 + n - 5) (cap - 5) (off + 5) (by omega) (by omega) rfl (by omega) (by omega) rfl
        have Hdl : Hid (((xs.take (5 + n)).drop 5).length = n) := by show _ = _; rw [List.length_drop, List.length_take]; omega
        go_enter Try.func25, Try.ntmps25
        go_wp2_with fail
        refine (word_le4 w _ ((xs.take 5).drop 1) HS1.out (by simp; omega)).mono ?_
        rw [Hn4.out]
        rintro e w1 ⟨rfl, m1, rfl⟩
        go_wp2_with fail
        refine wp_region_mk (by kernel_rfl) (by kernel_rfl) ?_
        intro C hC1 hC2 hne
        repeat (go_big_quiet_step ((first | exact (fun _ => rfl) | (intro hw; go_at_call 80; exact (word_le4 _ _ _ (HSE.out.mk (mk_trans (mk_drewN w m1) (hC1.out _ hw))) (by rw [Hel.out]; omega)).mono fun e w2 ⟨he, m, hm⟩ => ⟨he, hC2.out _ _ hw (by subst hm; exact mk_drewN _ _)⟩) | (intro hw; go_at_call 81; exact (crcR_any _ _ _ (HSP.out.mk (mk_trans (mk_drewN w m1) (hC1.out _ hw))) (by rw [Hpl.out]; omega)).mono fun e w2 ⟨he, hm⟩ => ⟨he, by subst hm; exact hw⟩))))
        refine wpQuiet_nil ?_
        rw [Hz.out]
        intro w3 hw3
        have M3 := Lib.hid (mk_trans (mk_drewN w m1) (hC1.out _ hw3))
        clear hw3 hne hC1 hC2
        have hi0 : (0 : Int) < (xs.length : Int) := by omega
        have hi0n : 0 < xs.length := by omega
        by_cases heq : le4? (xs.drop (5 + n)) = Fr.crc (xs.take (5 + n))
        · have hb : ((le4? (xs.drop (5 + n)) : Int) != (Fr.crc (xs.take (5 + n)) : Int)) = false := by rw [heq]; simp
          have Heq := Lib.hid heq
          clear heq
          have hcap55 : ¬ cap = 5 := by omega
          have hcell : ∀ w', Mk w3 w' → w'.cell? ⟨b, off, none⟩ = some (.int .u8 ((xs.head?.getD 0).toNat : Int)) := fun w' hm' => by
            obtain ⟨b', off', he, hd⟩ := bs_at (H.out.mk (mk_trans M3.out hm')) 0 (by omega)
            cases he
            rw [Nat.add_zero] at hd
            rw [hd]
            match xs, hlen with
            | x :: r, _ => rfl
          go_wp2
          refine wp_region_sp (fun j => j == 7) (fun w' => Mk w3 w') (by kernel_rfl) (by kernel_rfl) (mk_refl _) (fun _ _ => mk_trans) ?_
          intro D hD hne
          have q1 := @qAt_value Try.prog
          · skip
            iterate 7 (first | (refine spk (by rfl) (by rfl) (by rfl) (fun K hK => ?_); go_big_quiet_op; first | (refine hK _ ?_; clear hK K) | (apply Exists.intro; refine ⟨fun _ => ?_, hK _ ?_⟩; (exact fun _ => rfl); clear hK K)) | (refine spq (by rfl) (by rfl) (fun K hK => ?_); apply Exists.intro; refine ⟨fun w' hw' => ?_, ?_⟩; (go_simp; exact rfl); (go_simp; refine hK _ ?_; clear hK K)))
            refine sps (by rfl) (by rfl) (fun v w' => Mk w3 w' ∧ w'.ownsRow w3.heap.size 5 1 v ((xs.take (5 + n)).drop 5).length (bv ((xs.take (5 + n)).drop 5))) (fun v w1 w2 h k => ⟨mk_trans h.1 k, own_mk h.2 k⟩) (fun v w' h => h.1) (fun w' hw' => ?_) (fun K dv hdv hK => ?_)
            · have HW := Lib.hid (hD.out w' hw').1
              refine sAt_append (t := 22) (e := 5) Try.underlying22 info5 (.tmp 41) (.tmp 44) rfl rfl (World.ownsRow_nil w' w3.heap.size 5 1) rfl (HSD.out.mk (mk_trans M3.out HW.out)) (bv_one _) (by rw [Hdl.out]; omega) HW.out.size ?_
              intro v' w2 ho hg _ _
              rw [Nat.zero_add, List.nil_append] at ho
              exact ⟨mk_trans HW.out (grown_mk hg), ho⟩
            go_simp
            refine hK _ ?_
            clear hK K
            have HDV := Lib.hid hdv
            clear hdv hne
            iterate 5 (first | (refine spk (by rfl) (by rfl) (by rfl) (fun K hK => ?_); go_big_quiet_op; first | (refine hK _ ?_; clear hK K) | (apply Exists.intro; refine ⟨fun _ => ?_, hK _ ?_⟩; (exact fun _ => rfl); clear hK K)) | (refine spq (by rfl) (by rfl) (fun K hK => ?_); apply Exists.intro; refine ⟨fun w' hw' => ?_, ?_⟩; (go_simp; exact rfl); (go_simp; refine hK _ ?_; clear hK K)))
            refine sp_nil ?_
            rintro w4 ⟨hm4, ho4⟩
            have HM4 := Lib.hid hm4
            have HO4 := Lib.hid ho4
            clear hm4 ho4
            go_wp2
            go_ret3
            unfold GetPost
            rw [frame_some (by omega) (by rw [← Hn.out]; omega) (by rw [← Hn.out]; omega) (by rw [← Hn.out]; exact Heq.out), ← Hn.out]
            exact ⟨mk_trans M3.out HM4.out, dv, own_base HO4.out M3.out.size, ret3 (by dsimp only; omega)⟩
        · have hb : ((le4? (xs.drop (5 + n)) : Int) != (Fr.crc (xs.take (5 + n)) : Int)) = true := by simp; omega
          have Heq := Lib.hid heq
          clear heq
          go_wp2
          go_ret3
          have hf : frameOf xs = none := by unfold frameOf; rw [if_neg (by omega), ← Hn.out, if_neg (by omega), if_neg (by omega), if_neg Heq.out]
          unfold GetPost
          rw [hf]
          exact ⟨M3.out, _, World.ownsRow_nil _ _ _ _, rfl⟩
end Go.Proofs.FrW

namespace Go.Proofs.FrW
open Go Go.RowKit Go.Tk Go.Sp

/-- A frame's bytes ahead of its sum. -/
def bodyOf (k : UInt8) (dat : List UInt8) : List UInt8 := [k] ++ by4 dat.length ++ dat
/-- A frame. -/
def frm (k : UInt8) (dat : List UInt8) : List UInt8 := bodyOf k dat ++ by4 (Fr.crc (bodyOf k dat))
theorem frm_length (k : UInt8) (dat : List UInt8) : (frm k dat).length = dat.length + 9 := by simp [frm, bodyOf, by4_length]; omega
def PutPost (b : List UInt8) (k : UInt8) (dat : List UInt8) (w : World) (e : Ending) (w' : World) : Prop :=
  Mk w w' ∧ if 4194304 < dat.length then e = .returned (.tuple #[.slice none 0 0, .int .i64 50])
    else ∃ v, e = .returned (.tuple #[v, .int .i64 0]) ∧ w'.ownsRow w.heap.size 5 1 v (b ++ frm k dat).length (bv (b ++ frm k dat))

set_option maxRecDepth 100000 in
theorem Put_any (w : World) (v d : Value) (b dat : List UInt8) (k : UInt8) (h : Bs w v b) (hd : Bs w d dat) (hb : b.length ≤ 140737400000000) (hl : dat.length ≤ 140737488355328) :
    Calls Try.prog 17 #[v, .int .u8 (k.toNat : Int), d] w (PutPost b k dat w) := by
  obtain ⟨a, cap, rfl, hc1, hc2⟩ := h.form
  obtain ⟨a2, cap2, rfl, hc3, hc4⟩ := hd.form
  have H := Lib.hid h
  have HD := Lib.hid hd
  have HB := Lib.hid hb
  have HL := Lib.hid hl
  clear h hd hc1 hc2 hc3 hc4 hb hl
  by_cases hbig : 4194304 < dat.length
  · have hs : sizeF (dat.length : Int) = 0 := by unfold sizeF; rw [if_neg (by omega), if_pos (by omega)]
    have HS := Lib.hid hs
    clear hs
    go_enter Try.func17, Try.ntmps17
    go_wp2_with fail
    refine (size_any _ _).mono ?_
    rintro e w1 ⟨rfl, rfl⟩
    rw [HS.out]
    go_wp2_with fail
    go_ret2
    exact ⟨mk_refl _, by rw [if_pos hbig]; rfl⟩
  · have hs : sizeF (dat.length : Int) = (dat.length : Int) + 9 := by unfold sizeF; rw [if_neg (by omega), if_neg (by omega)]
    have HS := Lib.hid hs
    clear hs
    have hsm : dat.length ≤ 4194304 := by omega
    have hbl := HB.out
    have hn0 : ((dat.length : Int) + 9 == 0) = false := by simp; omega
    go_enter Try.func17, Try.ntmps17
    go_wp2_with fail
    refine (size_any _ _).mono ?_
    rintro e w1 ⟨rfl, rfl⟩
    rw [HS.out]
    go_wp2_with (first | (at_make; refine wpList_make_bytes (P := Try.prog) Try.underlying22 info5 rfl _ _ rfl _ (b.length + (dat.length + 9)) rfl rfl (by omega) (by omega) ?_; intro w1 ho1 hm1; have HO1 := Lib.hid ho1; have HM1 := Lib.hid hm1; clear ho1 hm1) | (at_builtin; refine wpList_append_bytes (P := Try.prog) Try.underlying22 info5 rfl (.tmp 20) (.tmp 21) rfl rfl HO1.out rfl (H.out.mk HM1.out) (bv_one _) (by omega) HM1.out.size ?_; intro v2 w2 ho2 hg2 _ _; rw [Nat.zero_add, List.nil_append] at ho2; have HO2 := Lib.hid ho2; have HM2 := Lib.hid (mk_own HM1.out HO1.out hg2); clear ho2 hg2) | (at_builtin; refine wpList_append_bytes (P := Try.prog) Try.underlying22 info5 rfl (.tmp 22) (.tmp 24) rfl rfl (HO2.out.alloc _) rfl (new_bytes w2 [k] _ 5 1 rfl rfl (by simp [maxLen])) (bv_one _) (by omega) (by have := HM2.out.size; simp; omega) ?_; intro v3 w3 ho3 hg3 _ _; rw [← bv_append] at ho3; have HO3 := Lib.hid ho3; have HM3 := Lib.hid (mk_own HM2.out HO2.out (alloc_grown hg3)); clear ho3 hg3))
    refine (put_any w3 w.heap.size v3 (b ++ [k]) dat.length (by omega) (by simpa using HO3.out) (by simp; omega) HM3.out.size).mono ?_
    rintro e w4 ⟨v4, rfl, ho4, hg4, _⟩
    have HO4 := Lib.hid ho4
    have HM4 := Lib.hid (mk_own HM3.out HO3.out hg4)
    clear ho4 hg4
    have HL5 : Hid ((b ++ [k] ++ by4 dat.length ++ dat).length = b.length + (dat.length + 5)) := by show _ = _; simp [by4_length]; omega
    have HL4 : Hid ((b ++ [k] ++ by4 dat.length).length = b.length + 5) := by show _ = _; simp [by4_length]
    obtain ⟨x5, hx5⟩ : ∃ x5, x5 = b ++ [k] ++ by4 dat.length ++ dat := ⟨_, rfl⟩
    have HX5 := Lib.hid hx5
    have hl5 : x5.length = b.length + (dat.length + 5) := by rw [hx5]; exact HL5.out
    have hge5 : b.length + 5 ≤ x5.length := by omega
    have hle5 : x5.length ≤ 140737410000000 := by omega
    have HLx := Lib.hid hl5
    clear hl5 hx5
    go_wp2_with (at_builtin; refine wpList_append_bytes (P := Try.prog) Try.underlying22 info5 rfl (.tmp 31) (.tmp 32) rfl rfl HO4.out rfl (HD.out.mk HM4.out) (bv_one _) (by rw [HL4.out]; omega) HM4.out.size ?_; intro v5 w5 ho5 hg5 _ _; rw [← bv_append, ← List.length_append, ← HX5.out] at ho5; have HO5 := Lib.hid ho5; have HM5 := Lib.hid (mk_own HM4.out HO4.out hg5); clear ho5 hg5; obtain ⟨g5, c5, rfl, hc5, hm5, _, _⟩ := own_form HO5.out (by omega); have hcn : ¬ c5 = b.length := by omega)
    have HSB : Hid (Bs w5 (.slice (some ⟨g5, b.length, none⟩) (x5.length - b.length) (c5 - b.length)) (bodyOf k dat)) := by
      have := sub_some (own_sl HO5.out) rfl b.length x5.length (x5.length - b.length) (c5 - b.length) b.length (by omega) (by omega) rfl (by omega) (by omega) (by omega)
      rw [List.take_length, HX5.out] at this
      have e : (b ++ [k] ++ by4 dat.length ++ dat).drop b.length = bodyOf k dat := by simp [bodyOf]
      rw [e] at this
      rwa [HX5.out]
    refine (crc_any _ _ (bodyOf k dat) HSB.out (by simp [bodyOf, by4_length]; omega)).mono ?_
    rintro e w6 ⟨rfl, hm6⟩
    have HM6 := Lib.hid hm6
    clear hm6
    go_wp2_with fail
    refine (put_any w6 w.heap.size _ x5 (Fr.crc (bodyOf k dat)) (Fr.crc_lt _) (own_mk HO5.out HM6.out) (by omega) (mk_trans HM5.out HM6.out).size).mono ?_
    rintro e w7 ⟨v7, rfl, ho7, hg7, _⟩
    have HO7 := Lib.hid ho7
    have HM7 := Lib.hid (mk_own (mk_trans HM5.out HM6.out) (own_mk HO5.out HM6.out) hg7)
    clear ho7 hg7
    go_wp2_with fail
    go_ret2
    refine ⟨HM7.out, ?_⟩
    rw [if_neg hbig]
    have e : x5 ++ by4 (Fr.crc (bodyOf k dat)) = b ++ frm k dat := by rw [HX5.out]; simp [frm, bodyOf]
    have := HO7.out
    rw [e] at this
    exact ⟨_, rfl, this⟩

theorem lit1_own (w : World) (k : UInt8) : (w.alloc (.cells #[.int .u8 (k.toNat : Int)] 5)).ownsRow w.heap.size 5 1 (.slice (some ⟨w.heap.size, 0, none⟩) 1 1) ([k] : List UInt8).length (bv [k]) := lit_own w _ 5 (by simp [maxLen])

set_option maxRecDepth 100000 in
theorem Made_any (w : World) (d : Value) (dat : List UInt8) (k : UInt8) (hd : Bs w d dat) (hl : dat.length ≤ 4194304) :
    Calls Try.prog 77 #[.int .u8 (k.toNat : Int), d] w fun e w' => ∃ v, e = .returned v ∧ w'.ownsRow w.heap.size 5 1 v (frm k dat).length (bv (frm k dat)) ∧ Mk w w' := by
  obtain ⟨a2, cap2, rfl, hc3, hc4⟩ := hd.form
  have HD := Lib.hid hd
  clear hd hc3 hc4
  go_enter Try.func77, Try.ntmps77
  go_wp2_with fail
  refine (four_any _ w.heap.size _ [k] dat.length (by omega) (lit1_own w k) (by simp) (by simp)).mono ?_
  rintro e w1 ⟨v1, rfl, ho1, hg1, _⟩
  have HM1 := Lib.hid (mk_own (mk_alloc w _) (lit1_own w k) hg1)
  have HO1 := Lib.hid ho1
  clear ho1 hg1
  go_wp2_with (at_builtin; refine wpList_append_bytes (P := Try.prog) Try.underlying22 info5 rfl (.tmp 12) (.tmp 13) rfl rfl HO1.out rfl (HD.out.mk HM1.out) (bv_one _) (by simp [by4_length]; omega) HM1.out.size ?_; intro v2 w2 ho2 hg2 _ _; rw [← bv_append, ← List.length_append] at ho2; have HO2 := Lib.hid ho2; have HM2 := Lib.hid (mk_own HM1.out HO1.out hg2); clear ho2 hg2)
  refine (crcR_any _ _ (bodyOf k dat) (own_sl HO2.out) (by simp [bodyOf, by4_length]; omega)).mono ?_
  rintro e w3 ⟨rfl, rfl⟩
  go_wp2_with fail
  refine (four_any _ w.heap.size _ (bodyOf k dat) (Fr.crc (bodyOf k dat)) (Fr.crc_lt _) HO2.out (by simp [bodyOf, by4_length]; omega) HM2.out.size).mono ?_
  rintro e w4 ⟨v4, rfl, ho4, hg4, _⟩
  have HM4 := Lib.hid (mk_own HM2.out HO2.out hg4)
  have HO4 := Lib.hid ho4
  clear ho4 hg4
  go_wp2_with fail
  go_ret
  exact ⟨_, rfl, HO4.out, HM4.out⟩

set_option maxRecDepth 100000 in
theorem putR_any (w : World) (v d : Value) (b dat : List UInt8) (k : UInt8) (h : Bs w v b) (hd : Bs w d dat) (hb : b.length ≤ 140737400000000) (hl : dat.length ≤ 140737488355328) :
    Calls Try.prog 19 #[v, .int .u8 (k.toNat : Int), d] w (PutPost b k dat w) := by
  obtain ⟨a, cap, rfl, hc1, hc2⟩ := h.form
  obtain ⟨a2, cap2, rfl, hc3, hc4⟩ := hd.form
  have H := Lib.hid h
  have HD := Lib.hid hd
  have HB := Lib.hid hb
  have HL := Lib.hid hl
  clear h hd hc1 hc2 hc3 hc4 hb hl
  by_cases hbig : 4194304 < dat.length
  · go_enter Try.func19, Try.ntmps19
    go_wp2
    go_ret2
    exact ⟨mk_refl _, by rw [if_pos hbig]; rfl⟩
  · have hsm : dat.length ≤ 4194304 := by omega
    go_enter Try.func19, Try.ntmps19
    go_wp2_with (at_builtin; refine wpList_append_bytes (P := Try.prog) Try.underlying22 info5 rfl (.tmp 12) (.tmp 13) rfl rfl (World.ownsRow_nil w w.heap.size 5 1) rfl H.out (bv_one _) (by have := HB.out; omega) (Nat.le_refl _) ?_; intro v1 w1 ho1 hg1 _ _; rw [Nat.zero_add, List.nil_append] at ho1; have HO1 := Lib.hid ho1; have HM1 := Lib.hid (grown_mk hg1); clear ho1 hg1)
    refine (Made_any _ _ dat k (HD.out.mk HM1.out) hsm).mono ?_
    rintro e w2 ⟨v2, rfl, ho2, hm2⟩
    have HO2 := Lib.hid ho2
    have HM2 := Lib.hid hm2
    clear ho2 hm2
    go_wp2_with (at_builtin; refine wpList_append_bytes (P := Try.prog) Try.underlying22 info5 rfl (.tmp 15) (.tmp 18) rfl rfl (own_mk HO1.out HM2.out) rfl (own_sl HO2.out) (bv_one _) (by have := HB.out; rw [frm_length]; omega) (mk_trans HM1.out HM2.out).size ?_; intro v3 w3 ho3 hg3 _ _; rw [← bv_append, ← List.length_append] at ho3; have HO3 := Lib.hid ho3; have HM3 := Lib.hid (mk_own (mk_trans HM1.out HM2.out) (own_mk HO1.out HM2.out) hg3); clear ho3 hg3)
    go_ret2
    exact ⟨HM3.out, by rw [if_neg hbig]; exact ⟨_, rfl, HO3.out⟩⟩
end Go.Proofs.FrW

namespace Go.Proofs.FrW
open Go Go.RowKit Go.Tk Go.Sp

theorem info5s : (Try.prog.info? 5).map (·.size) = some 1 := by kernel_rfl
/-- Bytes that are lent: eight marks behind them. -/
def lentOf (b : List UInt8) (j : Nat) : List UInt8 := b ++ List.replicate j 201 ++ List.replicate (8 - j) 0
theorem lentOf_length (b : List UInt8) (j : Nat) (h : j ≤ 8) : (lentOf b j).length = b.length + 8 := by simp [lentOf]; omega
theorem lentOf_set (b : List UInt8) (j : Nat) (h : j < 8) : (lentOf b j).set (b.length + j) 201 = lentOf b (j + 1) := by
  unfold lentOf
  rw [List.set_append_right _ _ (by simp)]
  rw [show b.length + j - (b ++ List.replicate j (201 : UInt8)).length = 0 by simp, show 8 - j = (8 - (j + 1)) + 1 by omega, List.replicate_succ, List.set_cons_zero, List.replicate_succ']
  simp
theorem lentOf_zero (b : List UInt8) : b ++ (List.replicate (b.length + 8) (0 : UInt8)).drop b.length = lentOf b 0 := by simp [lentOf]
theorem lentOf_eight (b : List UInt8) : lentOf b 8 = b ++ List.replicate 8 201 := by simp [lentOf]

set_option maxRecDepth 100000 in
theorem lent_any (w : World) (v : Value) (b : List UInt8) (h : Bs w v b) (hb : b.length ≤ 140737488355328) :
    Calls Try.prog 16 #[v] w fun e w' => ∃ g, e = .returned (.slice (some ⟨g, 0, none⟩) (b.length + 8) (b.length + 8)) ∧ w'.ownsRow w.heap.size 5 1 (.slice (some ⟨g, 0, none⟩) (b.length + 8) (b.length + 8)) (b.length + 8) (bv (b ++ List.replicate 8 201)) ∧ Mk w w' := by
  obtain ⟨a, cap, rfl, hc1, hc2⟩ := h.form
  have H := Lib.hid h
  have hbl := hb
  clear h hc1 hc2 hb
  go_enter Try.func16, Try.ntmps16
  go_wp2_with (first | (at_make; refine wpList_make_zeros (P := Try.prog) Try.underlying22 info5 rfl _ _ rfl _ _ (b.length + 8) rfl rfl (by omega) (by omega) (by omega) ?_; intro w1 ho1 hm1; have HO1 := Lib.hid ho1; have HM1 := Lib.hid hm1; clear ho1 hm1) | (refine wpList_copy_head (P := Try.prog) Try.underlying22 info5s rfl (.tmp 9) (.tmp 10) rfl rfl HO1.out rfl (H.out.mk HM1.out) (bv_one _) (by omega) ?_; intro w2 ho2 hg2; rw [show List.drop b.length (bv (List.replicate (b.length + 8) 0)) = bv ((List.replicate (b.length + 8) 0).drop b.length) by simp [bv], ← bv_append, lentOf_zero] at ho2; have HO2 := Lib.hid ho2; have HM2 := Lib.hid (mk_own HM1.out HO1.out hg2); clear ho2 hg2))
  go_loopw [4] (fun i wr => ∃ k : Nat, b.length ≤ k ∧ k ≤ b.length + 8 ∧ i = .int .i64 k ∧ wr.ownsRow w.heap.size 5 1 (.slice (some ⟨w.heap.size, 0, none⟩) (b.length + 8) (b.length + 8)) (b.length + 8) (bv (lentOf b (k - b.length))) ∧ Mk w wr) (fun i _ => b.length + 8 - (intOf i).toNat)
  case atStart => exact ⟨b.length, by omega, by omega, rfl, by rw [Nat.sub_self]; exact HO2.out, HM2.out⟩
  case round =>
    obtain ⟨k, hk1, hk2, rfl, ho, hm⟩ := hrel
    have HO := Lib.hid ho
    have HM := Lib.hid hm
    clear ho hm
    by_cases hlt : k < b.length + 8
    · have hcell := own_cell HO.out k (by rw [lentOf_length _ _ (by omega)]; exact hlt) (lentOf_length _ _ (by omega))
      have hfro := HO.out.frozenAt k
      go_wp2
      go_roundw
      case rel =>
        refine ⟨k + 1, by omega, by omega, by go_num, ?_, mk_store HM.out HO.out⟩
        have := own_store HO.out k 201
        have e : (lentOf b (k - b.length)).set k 201 = lentOf b (k + 1 - b.length) := by
          have := lentOf_set b (k - b.length) (by omega)
          rw [show b.length + (k - b.length) = k by omega] at this
          rw [this]; congr 1; omega
        rw [e] at this
        exact this
      case measure => simp [intOf]; omega
    · go_wp2
      go_ret
      have e : k - b.length = 8 := by omega
      refine ⟨_, rfl, ?_, HM.out⟩
      have := HO.out
      rwa [e, lentOf_eight] at this

set_option maxRecDepth 100000 in
theorem still_any (w : World) (v u : Value) (l b : List UInt8) (h : Bs w v l) (hu : Bs w u b) (hb : l.length ≤ 140737488355328) (hb2 : b.length ≤ 140737488355328) (hl : l = b ++ List.replicate 8 201) :
    Calls Try.prog 18 #[v, u] w fun e w' => e = .returned (.bool true) ∧ Mk w w' := by
  obtain ⟨a, cap, rfl, hc1, hc2⟩ := h.form
  obtain ⟨a2, cap2, rfl, hc3, hc4⟩ := hu.form
  have H := Lib.hid h
  have HU := Lib.hid hu
  have HL := Lib.hid hl
  have hll : l.length = b.length + 8 := by rw [hl]; simp
  have HLL := Lib.hid hll
  have hge : b.length ≤ l.length := by omega
  clear h hu hc1 hc2 hc3 hc4 hl hll
  go_enter Try.func18, Try.ntmps18
  go_wp2_with fail
  go_loopw [5] (fun i wr => ∃ k : Nat, k ≤ l.length ∧ i = .int .i64 k ∧ Mk w wr) (fun i _ => l.length - (intOf i).toNat)
  case atStart => exact ⟨0, by omega, rfl, mk_refl _⟩
  case round =>
    obtain ⟨k, hk, rfl, hm⟩ := hrel
    have HM := Lib.hid hm
    clear hm
    by_cases hlt : k < l.length
    · obtain ⟨bb, off, rfl, hc⟩ := bs_at (H.out.mk HM.out) k hlt
      obtain ⟨c, hcc⟩ : ∃ c, c = l[k] := ⟨_, rfl⟩
      rw [← hcc] at hc
      have Hcc := Lib.hid hcc
      clear hcc
      by_cases hkb : k < b.length
      · obtain ⟨bb2, off2, rfl, hc2⟩ := bs_at (HU.out.mk HM.out) k hkb
        have e : b[k] = c := by
          have h1 := HL.out
          rw [Hcc.out]
          simp only [h1]
          rw [List.getElem_append_left hkb]
        rw [e] at hc2
        have g1 : decide ((k : Int) < (b.length : Int)) = true := by simp; omega
        have g1' : decide (k < b.length) = true := by simp; omega
        have g2 : ((c.toNat : Int) != (c.toNat : Int)) = false := by simp
        have g3 : decide ((b.length : Int) ≤ (k : Int)) = false := by simp; omega
        have g3' : decide (b.length ≤ k) = false := by simp; omega
        go_wp2
        go_quiet (fail)
        go_wp2
        go_roundw
        case rel => exact ⟨k + 1, by omega, by go_num, mk_trans HM.out (mk_drewN _ _)⟩
        case measure => simp [intOf]; omega
      · have e : c = 201 := by
          have h1 := HL.out
          rw [Hcc.out]
          simp only [h1]
          rw [List.getElem_append_right (by omega)]
          exact List.getElem_replicate _
        rw [e] at hc
        have hc' : wr.cell? ⟨bb, off + k, none⟩ = some (.int .u8 201) := hc
        have g1 : decide ((k : Int) < (b.length : Int)) = false := by simp; omega
        have g1' : decide (k < b.length) = false := by simp; omega
        have g3 : decide ((b.length : Int) ≤ (k : Int)) = true := by simp; omega
        have g3' : decide (b.length ≤ k) = true := by simp; omega
        clear hc e
        go_wp2
        go_quiet (fail)
        go_wp2
        go_roundw
        case rel => exact ⟨k + 1, by omega, by go_num, mk_trans HM.out (mk_drewN _ _)⟩
        case measure => simp [intOf]; omega
    · go_wp2
      go_ret
      exact ⟨rfl, HM.out⟩

set_option maxRecDepth 100000 in
theorem all_any (w : World) (v : Value) (l : List UInt8) (m : UInt8) (h : Bs w v l) (hb : l.length ≤ 140737488355328) (hl : ∀ c ∈ l, c = m) :
    Calls Try.prog 23 #[v, .int .u8 (m.toNat : Int)] w fun e w' => e = .returned (.bool true) ∧ w = w' := by
  obtain ⟨a, cap, rfl, hc1, hc2⟩ := h.form
  have H := Lib.hid h
  have HL := Lib.hid hl
  clear h hc1 hc2 hl
  go_enter Try.func23, Try.ntmps23
  go_wp2_with fail
  go_loop [5] (fun i => ∃ k : Nat, k ≤ l.length ∧ i = .int .i64 k) (fun i => l.length - (intOf i).toNat)
  case atStart => exact ⟨0, by omega, rfl⟩
  case round =>
    obtain ⟨k, hk, rfl⟩ := hrel
    by_cases hlt : k < l.length
    · obtain ⟨bb, off, rfl, hc⟩ := bs_at H.out k hlt
      rw [HL.out l[k] (List.getElem_mem hlt)] at hc
      have g2 : ((m.toNat : Int) != (m.toNat : Int)) = false := by simp
      go_wp2
      go_round
      case rel => exact ⟨k + 1, by omega, by go_num⟩
      case measure => simp [intOf]; omega
    · go_wp2
      go_ret
      exact ⟨rfl, rfl⟩

/-- A row is written full with a mark, and then 64 marks go behind it. -/
theorem fullTo_set (xs : List UInt8) (m : UInt8) (k : Nat) (h : k < xs.length) : (List.replicate k m ++ xs.drop k).set k m = List.replicate (k + 1) m ++ xs.drop (k + 1) := by
  rw [List.set_append_right _ _ (by simp), List.length_replicate, Nat.sub_self, List.drop_eq_getElem_cons h, List.set_cons_zero, List.replicate_succ']
  simp

set_option maxRecDepth 100000 in
theorem full_any (w : World) (base : Nat) (v : Value) (xs : List UInt8) (m : UInt8) (h : w.ownsRow base 5 1 v xs.length (bv xs)) (hb : xs.length ≤ 140737488355000) (hbase : base ≤ w.heap.size) :
    Calls Try.prog 22 #[v, .int .u8 (m.toNat : Int)] w fun e w' => ∃ v', e = .returned v' ∧ w'.ownsRow base 5 1 v' (xs.length + 64) (bv (List.replicate (xs.length + 64) m)) ∧ w.grownBy w' v.ownBlock ∧ Tk.Fr w v v' := by
  obtain ⟨a, cap, rfl, hc1, hc2⟩ := (own_sl h).form
  have H := Lib.hid h
  have hbl := hb
  clear h hc1 hc2 hb
  go_enter Try.func22, Try.ntmps22
  go_wp2_with fail
  go_loopw [5] (fun i wr => ∃ k : Nat, k ≤ xs.length ∧ i = .int .i64 k ∧ wr.ownsRow base 5 1 (.slice a xs.length cap) xs.length (bv (List.replicate k m ++ xs.drop k)) ∧ w.grownBy wr (Value.slice a xs.length cap).ownBlock) (fun i _ => xs.length - (intOf i).toNat)
  case atStart => exact ⟨0, by omega, rfl, by simpa using H.out, grown_refl _ _⟩
  case round =>
    obtain ⟨k, hk, rfl, ho, hg⟩ := hrel
    have HO := Lib.hid ho
    have HG := Lib.hid hg
    clear ho hg
    by_cases hlt : k < xs.length
    · obtain ⟨g, cap', he, _, _, _, _⟩ := own_form HO.out (by omega)
      cases he
      have hlen : (List.replicate k m ++ xs.drop k).length = xs.length := by simp; omega
      obtain ⟨c0, hcell⟩ : ∃ c0, wr.cell? ⟨g, k, none⟩ = some c0 := ⟨_, own_cell HO.out k (by omega) hlen⟩
      have hfro := HO.out.frozenAt k
      clear hlen
      go_wp2
      go_roundw
      case rel =>
        have hs := own_store HO.out k m
        rw [fullTo_set xs m k hlt] at hs
        exact ⟨k + 1, by omega, by go_num, hs, grown_trans HG.out (HO.out.stored k _).2 (fun x hx => .inl hx.symm)⟩
      case measure => simp [intOf]; omega
    · have e : k = xs.length := by omega
      have ho := HO.out
      rw [e, List.drop_length, List.append_nil] at ho
      have HO' := Lib.hid ho
      clear ho
      go_wp2
      go_loopw [0, 6] (fun l i w2 => ∃ j : Nat, j ≤ 64 ∧ i = .int .i64 j ∧ w2.ownsRow base 5 1 l (xs.length + j) (bv (List.replicate (xs.length + j) m)) ∧ w.grownBy w2 (Value.slice a xs.length cap).ownBlock ∧ Tk.Fr w (Value.slice a xs.length cap) l) (fun _ i _ => 64 - (intOf i).toNat)
      case atStart => exact ⟨0, by omega, rfl, HO'.out, HG.out, .inl rfl⟩
      case round =>
        obtain ⟨j, hj, rfl, ho2, hg2, hf2⟩ := hrel
        have HO2 := Lib.hid ho2
        have HG2 := Lib.hid hg2
        have HF2 := Lib.hid hf2
        clear ho2 hg2 hf2 e
        by_cases hlj : j < 64
        · go_wp2_with (at_builtin; refine wpList_append_bytes (P := Try.prog) Try.underlying22 info5 rfl (.tmp 21) (.tmp 23) rfl rfl (HO2.out.alloc _) rfl (new_bytes wr [m] _ 5 1 rfl rfl (by simp [maxLen])) (bv_one _) (by omega) (by have := HG2.out.size; simp; omega) ?_; intro v3 w3 ho3 hg3 _ hf3; rw [← bv_append, ← List.replicate_succ'] at ho3; have HO3 := Lib.hid ho3; have HG3 := Lib.hid (grown_fr HG2.out HF2.out (alloc_grown hg3)); have HF3 := Lib.hid (HF2.out.trans (own_fresh_alloc hf3) HG2.out.size); clear ho3 hg3 hf3)
          go_roundw
          case rel => exact ⟨j + 1, by omega, by go_num, HO3.out, HG3.out, HF3.out⟩
          case measure => simp [intOf]; omega
        · obtain rfl : j = 64 := by omega
          go_wp2
          go_ret
          exact ⟨_, rfl, HO2.out, HG2.out, HF2.out⟩
end Go.Proofs.FrW

namespace Go.Rg
open Go Go.RowKit Go.Tk

/-- The iterator's word: G tells what is known of a thing in the world in which it is handed on; Nx: which thing comes next; Kp: what a round that goes on must keep. -/
def SeqG {α : Type} (P : Program) (gf : Nat) (lb : Array Value) (encs : α → Array Value) (G : Nat → α → World → Prop) (Nx : List α → α → Prop) (Kp : World → World → Prop) (S Sp : List α → Prop) (w : World) : Prop :=
  ∀ (n l : Nat) (J Jx : List α → World → Prop) (W : World), Mk w W → (∀ s A B, J s A → Mk A B → J s B) → (∀ s A B, Jx s A → Mk A B → Jx s B) →
    (∀ pre x W1, J pre W1 → Nx pre x → G W.heap.size x W1 → YieldAt Fence.wide n P l (encs x) W1 fun e W' =>
      (e = .returned (.bool true) ∧ J (pre ++ [x]) W' ∧ Kp W1 W') ∨ (e = .returned (.bool false) ∧ Jx (pre ++ [x]) W')) →
    J [] W → CallsIn Fence.wide (n + 1) P gf (#[.func (.yield l) #[] #[]] ++ lb) W fun e W' => (∃ v, e = .returned v) ∧ ((∃ xs, S xs ∧ J xs W') ∨ (∃ pre, Sp pre ∧ Jx pre W'))

/-- How a round may be left. -/
def postG {α : Type} (Kp : World → World → Prop) (I : List α → World → Prop) (Ix : Code → List α → World → Prop) (xs : List α) (W : World) : Exit → Act → World → Prop
  | .normal, _, W' => KeepsOthers W W' ∧ Kp W W' ∧ I xs W'
  | .ret, _, W' => KeepsOthers W W' ∧ Ix .ret xs W'
  | .exit id, _, W' => KeepsOthers W W' ∧ Ix (.exit id) xs W'
  | _, _, _ => False

variable {P : Program}

theorem wp_range {α : Type} {g : Operand} {ps : Array Tmp} {assign body : Code} {Q : Exit → Act → World → Prop} {a : Act} {w : World}
    {gf : Nat} {lb : Array Value} (hg : a.eval g = .func (.func gf) #[] lb) (eg : ∀ args w, (callFunc gf args).run P w = .ok (.enter gf args) w)
    {encs : α → Array Value} {G : Nat → α → World → Prop} {Nx : List α → α → Prop} {Kp : World → World → Prop} {S Sp : List α → Prop} (hseq : SeqG P gf lb encs G Nx Kp S Sp w)
    (hKt : ∀ {A B C : World}, Kp A B → Kp B C → Kp A C) (hKb : ∀ (W : World) (l : Nat) (o : Obj), w.heap.size ≤ l → Kp W (W.putObj l o)) (hps : ∀ x, (encs x).size = ps.size)
    (hG : ∀ b, OwnFrom w.heap.size (G b)) (I : List α → World → Prop) (Ix : Code → List α → World → Prop) (hI : OwnFrom w.heap.size I) (hIx : ∀ c, OwnFrom w.heap.size (Ix c)) (h0 : I [] w) (a₁ : α → Act)
    (hassign : ∀ (l : Nat) (x : α) (W : World) (K : Act → World → Prop), K (a₁ x) W →
      assign.wpIn (Fence.wide.inRound l) 0 P (Exit.then K (fun _ _ _ => False)) { tmps := (ps.zip (encs x)).foldl (fun t (p, v) => t.setIfInBounds p v) a.tmps, defers := [] } W)
    (hbody : ∀ (l : Nat) (pre : List α) (x : α) (W : World), I pre W → Nx pre x → G (w.heap.size + 2) x W → body.wpIn (Fence.wide.inRound l) 0 P (postG Kp I Ix (pre ++ [x]) W) (a₁ x) W)
    (hdone : ∀ (D : Nat) (xs : List α) (W : World), w.heap.size ≤ D → S xs → I xs W → W.heap[D]? = some (.deferred (some [])) → Q .normal { a with defers := { target := .collected D, args := #[] } :: a.defers } W)
    (hstop : ∀ (D : Nat) (c : Code) (pre : List α) (W : World), w.heap.size ≤ D → Sp pre → Ix c pre W → W.heap[D]? = some (.deferred (some [])) → c.wp P Q { a with defers := { target := .collected D, args := #[] } :: a.defers } W) :
    (Code.rangeFunc g ps assign body).wp P Q a w := by
  refine (wpIn_wide (n := 2)).1 (wpIn_rangeFunc ?_)
  intro fn hfn
  rw [show Fence.wide.round = none from rfl]
  obtain ⟨rec, hrec⟩ : ∃ rec : LoopState → Option Code → Loop, rec = fun st pe => { state := st, pending := pe, fn, tmps := a.tmps, params := ps, assign, body, defers := w.heap.size } := ⟨_, rfl⟩
  obtain ⟨W1, hW1⟩ : ∃ W1, (w.alloc (.deferred (some []))).alloc (.loop (rec .ready none)) = W1 := ⟨_, rfl⟩
  have hS1 : W1.heap.size = w.heap.size + 2 := by rw [← hW1]; simp
  have hL1 : W1.heap[w.heap.size + 1]? = some (.loop (rec .ready none)) := by
    rw [← hW1]; have := World.alloc_heap_new (w.alloc (.deferred (some []))) (.loop (rec .ready none)); rwa [World.size_alloc] at this
  have hK1 : W1.heap[w.heap.size]? = some (.deferred (some [])) := by
    rw [← hW1]; exact (Below.heap_alloc _ _ _ (by simp)).trans (World.alloc_heap_new w _)
  have hI1 : I [] W1 := by rw [← hW1]; exact hI.alloc _ (hI.alloc _ h0)
  have hb1 : Mk w W1 := by rw [← hW1]; exact (mk_alloc w _).alloc (by simp) _
  have keep : ∀ {A B : World} {k : Nat} {o : Obj}, Mk A B → A.heap[k]? = some o → B.heap[k]? = some o := fun hm h => (hm.block _ (Array.getElem?_eq_some_iff.1 h).1).trans h
  refine ⟨w.heap.size + 1, [{ target := .collected w.heap.size, args := #[] }], W1, { target := .fn (.func gf) lb, args := #[.func (.yield (w.heap.size + 1)) #[] #[]] }, W1, gf,
    #[.func (.yield (w.heap.size + 1)) #[] #[]] ++ lb, W1, ?_, ?_, fun _ _ => trivial, ?_, (fun h => by cases h), ?_⟩
  · rw [← hW1, hrec]; exact run_enterLoop_outer _ _ _ _ _
  · simp only [resolve, hg]
    simp [go_sem]
  · simp [invoke, go_sem, eg]
  · refine (hseq 0 (w.heap.size + 1)
      (fun pre W => I pre W ∧ W.heap[w.heap.size + 1]? = some (.loop (rec .ready none)) ∧ W.heap[w.heap.size]? = some (.deferred (some [])))
      (fun pre W => ∃ c, Ix c pre W ∧ W.heap[w.heap.size + 1]? = some (.loop (rec .done (some c))) ∧ W.heap[w.heap.size]? = some (.deferred (some [])))
      W1 hb1
      (fun s A B hs hm => ⟨hI s A B none hs.1 (mk_grown hm) (fun r e => by cases e), keep hm hs.2.1, keep hm hs.2.2⟩)
      (fun s A B hs hm => by
        obtain ⟨c, hc, hl, hk⟩ := hs
        exact ⟨c, hIx c s A B none hc (mk_grown hm) (fun r e => by cases e), keep hm hl, keep hm hk⟩)
      ?_ ⟨hI1, hL1, hK1⟩).mono ?_
    · rintro pre x W ⟨hi, hl, hk⟩ hnx hgx
      rw [hS1] at hgx
      have hlt : w.heap.size + 1 < W.heap.size := (Array.getElem?_eq_some_iff.1 hl).1
      have hy := run_yield (P := P) (args := encs x) hl (by rw [hrec]; exact hps x)
      rw [hrec] at hy
      refine ⟨fn, _, assign, body, hy, roundIn_of_wpIn hfn (hassign _ x W _ ⟨_, run_beginRound hl (by rw [hrec]), ?_⟩)⟩
      obtain ⟨busy, hbz⟩ : ∃ busy : Loop, busy = { rec .ready none with state := .busy } := ⟨_, rfl⟩
      rw [← hbz]
      have hl2 : (W.putObj (w.heap.size + 1) (.loop busy)).heap[w.heap.size + 1]? = some (.loop busy) := World.putObj_heap_same hlt
      have hk2 : (W.putObj (w.heap.size + 1) (.loop busy)).heap[w.heap.size]? = some (.deferred (some [])) := (World.putObj_heap_other (by omega)).trans hk
      have hw2 : Kp W (W.putObj (w.heap.size + 1) (.loop busy)) := hKb _ _ _ (by omega)
      refine wpIn_mono (hbody _ pre x _ (hI.putObj _ hi (by omega) hl rfl) hnx ((hG _).putObj _ hgx (by omega) hl rfl)) ?_
      have fin : ∀ (jump : Option Code) (W3 : World), KeepsOthers (W.putObj (w.heap.size + 1) (.loop busy)) W3 →
          (Instr.endRound (w.heap.size + 1) jump).run P W3 = .ok (.bool jump.isNone) (W3.putObj (w.heap.size + 1) (.loop (rec (if jump.isNone then .ready else .done) jump))) ∧
          W3.heap[w.heap.size + 1]? = some (.loop busy) ∧
          (W3.putObj (w.heap.size + 1) (.loop (rec (if jump.isNone then .ready else .done) jump))).heap[w.heap.size + 1]? = some (.loop (rec (if jump.isNone then .ready else .done) jump)) ∧
          (W3.putObj (w.heap.size + 1) (.loop (rec (if jump.isNone then .ready else .done) jump))).heap[w.heap.size]? = some (.deferred (some [])) := fun jump W3 hk3 => by
        have hl3 := hk3.same _ _ hl2 rfl
        have h5 := run_endRound (P := P) jump hl3
        rw [hbz, hrec] at h5
        rw [hrec]
        exact ⟨h5, hl3, World.putObj_heap_same (Array.getElem?_eq_some_iff.1 hl3).1, (World.putObj_heap_other (by omega)).trans (hk3.same _ _ hk2 rfl)⟩
      rintro e a3 W3 hp
      cases e with
      | normal =>
        obtain ⟨hk3, hkp3, hi3⟩ := hp
        obtain ⟨hr, hl3, hl4, hk4⟩ := fin none W3 hk3
        exact ⟨_, _, hr, .inl ⟨rfl, ⟨hI.putObj _ hi3 (by omega) hl3 rfl, hl4, hk4⟩, hKt (hKt hw2 hkp3) (hKb _ _ _ (by omega))⟩⟩
      | ret =>
        obtain ⟨hk3, hi3⟩ := hp
        obtain ⟨hr, hl3, hl4, hk4⟩ := fin (some .ret) W3 hk3
        exact ⟨_, _, hr, .inr ⟨rfl, .ret, (hIx _).putObj _ hi3 (by omega) hl3 rfl, hl4, hk4⟩⟩
      | exit id =>
        obtain ⟨hk3, hi3⟩ := hp
        obtain ⟨hr, hl3, hl4, hk4⟩ := fin (some (.exit id)) W3 hk3
        exact ⟨_, _, hr, .inr ⟨rfl, .exit id, (hIx _).putObj _ hi3 (by omega) hl3 rfl, hl4, hk4⟩⟩
      | goto t => exact hp.elim
      | panic ch => exact hp.elim
      | outgrown => exact hp.elim
    · rintro e W2 ⟨⟨v, rfl⟩, (⟨xs, hS, hi, hl, hk⟩ | ⟨pre, hSp, c, hi, hl, hk⟩)⟩
      · exact ⟨none, _, by have := run_endLoop (P := P) hl (by rw [hrec]; simp); rw [hrec] at this; exact this, hdone _ xs _ (Nat.le_refl _) hS (hI.putObj _ hi (by omega) hl rfl) ((World.putObj_heap_other (by omega)).trans hk)⟩
      · exact ⟨some c, _, by have := run_endLoop (P := P) hl (by rw [hrec]; simp); rw [hrec] at this; exact this, wpIn_wide.2 (hstop _ c pre _ (Nat.le_refl _) hSp ((hIx c).putObj _ hi (by omega) hl rfl) ((World.putObj_heap_other (by omega)).trans hk))⟩

/-- A function in which such a range stands: its contract, out of its body. -/
theorem calls_of_marks {f : FuncId} {fn : Func} {c : Code} {args : Array Value} {w : World} {R : Ending → World → Prop} (hf : P.funcs[f]? = some fn) (hb : fn.body = some c)
    (h : c.wp P (bodyPostM Fence.wide 0 P fn R) { tmps := args ++ Array.replicate (fn.ntmps - args.size) undef, defers := [] } w) : Calls P f args w R :=
  (callsIn_wide (n := 0)).1 (callsIn_of_wp_marks hf hb trivial (wpIn_wide.2 h))
end Go.Rg
