/- Layer 6, wal: the walk of WalAny. Layer 6, wal: the walk of WalAny. What the readings of arguments give: bytes as a list, the bound of the second form. -/
import Derived.Test.YtcfjdldlcdomgaaMWalAny23
import Derived.Test.YtcfjdldlcdomgaaMWalAny0
import Derived.Test.YtcfjdldlcdomgaaRows
import Derived.WalkKit
import Derived.ProofKit
import Derived.OpenShut
import Derived.ShutString
import Derived.ChangeOld
import Derived.Below
import Derived.JoinedCond
set_option linter.unusedVariables false
set_option linter.unusedSimpArgs false
namespace Go.Proofs.WlW
open Go Go.RowKit Go.Tk Go.Dk Go.Sp Go.Proofs.DkW

theorem fall_len (s : St) (kl : List Int) (g : Nat) : ((s.fall kl).file g).1.length ≤ (s.file g).1.length := by
  unfold St.fall St.file
  simp only [List.getD_eq_getElem?_getD, List.getElem?_mapIdx]
  cases s.files[g]? with
  | none => simp
  | some x => simp [fallFile, List.length_take]; omega
theorem trunc_len (s : St) (f n : Int) (g : Nat) : ((s.truncate f n).1.file g).1.length ≤ (s.file g).1.length := by
  unfold St.truncate
  split
  · exact Nat.le_refl _
  · split
    · exact Nat.le_refl _
    · split
      · exact Nat.le_refl _
      · split
        · exact fall_len s.lit _ g
        · unfold St.put St.lit St.file
          simp only [List.getD_eq_getElem?_getD, List.getElem?_set]
          by_cases hg : f.toNat = g
          · subst hg
            rw [if_pos rfl]
            by_cases hl : f.toNat < s.files.length
            · rw [if_pos hl, List.getElem?_eq_getElem hl]; simp [List.length_take]; omega
            · rw [if_neg hl, List.getElem?_eq_none (by omega)]; simp
          · rw [if_neg hg]; exact Nat.le_refl _
theorem cutP_len (s : St) (live wh : Nat) (g : Nat) : ((cutP s live wh).1.file g).1.length ≤ (s.file g).1.length := by
  unfold cutP
  simp only
  by_cases hA : wh < (s.file live).1.length
  · rw [if_pos hA]
    have h1 := trunc_len s live wh g
    split
    · exact h1
    · split
      · exact Nat.le_trans (trunc_len _ _ _ _) h1
      · exact h1
  · rw [if_neg hA, if_neg (by simp)]
    split
    · exact trunc_len _ _ _ _
    · exact Nat.le_refl _
theorem cutP_ok {s : St} {M : Nat} (h : s.Ok M) (live wh : Nat) : (cutP s live wh).1.Ok (M + 2) := by
  unfold cutP
  simp only
  by_cases hA : wh < (s.file live).1.length
  · rw [if_pos hA]
    have h1 := truncate_ok h (live : Int) (wh : Int)
    split
    · exact Ok_mono h1 (by omega)
    · split
      · exact truncate_ok h1 _ _
      · exact Ok_mono h1 (by omega)
  · rw [if_neg hA, if_neg (by simp)]
    split
    · exact Ok_mono (truncate_ok h _ _) (by omega)
    · exact Ok_mono h (by omega)
theorem openP_same (s : St) : (openP s).1 = s ∨ ∃ live wh, (openP s).1 = (cutP s live wh).1 := by
  unfold openP
  split
  · exact .inl rfl
  · split
    · exact .inl rfl
    · simp only []
      split
      · exact .inl rfl
      · split <;> exact .inr ⟨_, _, rfl⟩
theorem openP_ok {s : St} {M : Nat} (h : s.Ok M) : (openP s).1.Ok (M + 2) := by
  rcases openP_same s with e | ⟨l, wh, e⟩ <;> rw [e]
  · exact Ok_mono h (by omega)
  · exact cutP_ok h _ _
theorem openP_len (s : St) (g : Nat) : ((openP s).1.file g).1.length ≤ (s.file g).1.length := by
  rcases openP_same s with e | ⟨l, wh, e⟩ <;> rw [e]
  · exact Nat.le_refl _
  · exact cutP_len _ _ _ _
theorem append_len (s : St) (f : Int) (b : List UInt8) (g : Nat) : ((s.append f b).1.file g).1.length ≤ (s.file g).1.length + b.length := by
  have put : ((s.lit.put f.toNat ((s.file f.toNat).1 ++ b, (s.file f.toNat).2)).file g).1.length ≤ (s.file g).1.length + b.length := by
    unfold St.put St.lit St.file
    simp only [List.getD_eq_getElem?_getD, List.getElem?_set]
    by_cases hg : f.toNat = g
    · subst hg
      rw [if_pos rfl]
      by_cases hl : f.toNat < s.files.length
      · rw [if_pos hl, List.getElem?_eq_getElem hl]; simp
      · rw [if_neg hl, List.getElem?_eq_none (by omega)]; simp
    · rw [if_neg hg]; exact Nat.le_add_right _ _
  unfold St.append
  split
  · exact Nat.le_add_right _ _
  · split
    · exact Nat.le_add_right _ _
    · split
      · exact Nat.le_add_right _ _
      · split
        · exact Nat.le_trans (fall_len _ _ g) put
        · exact put
end Go.Proofs.WlW

namespace Go.Proofs.WlW
open Go Go.RowKit Go.Tk Go.Dk Go.Sp Go.Proofs.DkW

theorem WDk.of {S T : Nat → Prop} {w : World} {gw p q : Nat} {lv mv : Value} {st : St} (h : WDk S T w gw p q lv mv st) : PD S w p st ∧ RD T w q st ∧ Bk w gw 91 (gwC p q lv mv) ∧ (∀ k, S k ∨ T k → k < w.heap.size) ∧ (∀ k, S k → ¬ T k) ∧ ¬ S gw ∧ ¬ T gw := ⟨h.pd, h.rd, h.blk, h.lt, h.dis, h.ne⟩
theorem gw_0 {w : World} {gw p q : Nat} {lv mv : Value} (h : Bk w gw 91 (gwC p q lv mv)) : w.cell? ⟨gw, 0, none⟩ = some (.pointer (some ⟨p, 0, none⟩)) := (h.cell 0).trans rfl
theorem gw_2 {w : World} {gw p q : Nat} {lv mv : Value} (h : Bk w gw 91 (gwC p q lv mv)) : w.cell? ⟨gw, 2, none⟩ = some (.pointer (some ⟨q, 0, none⟩)) := (h.cell 2).trans rfl
set_option maxHeartbeats 4000000 in
set_option maxRecDepth 100000 in
theorem walAny_any (w : World) (v1 v2 : Value) (xs ys : List UInt8) (h1 : Bs w v1 xs) (h2 : Bs w v2 ys) (hx : xs.length ≤ 140737488355328) (hy : ys.length ≤ 140737488355328) :
    Calls Try.prog 10 #[v1, v2] w fun e w' => e = .returned (.bool true) ∧ Mk w w' := by
  obtain ⟨a1, c1, rfl, hc1, hc1'⟩ := h1.form
  obtain ⟨a2, c2, rfl, hc2, hc2'⟩ := h2.form
  have H1 := Lib.hid h1; have H2 := Lib.hid h2; have Hc1' := Lib.hid hc1'; have Hc2' := Lib.hid hc2'; clear h1 h2 hc1' hc2'
  go_enter Try.func10, Try.ntmps10
  go_wp2_with fail
  refine (wshown_any w).mono ?_
  rintro e w1 ⟨rfl, hm1⟩
  have Hm1 := Lib.hid hm1; clear hm1
  go_wp2_with fail
  refine (born_any w1 2 (by decide) (by decide)).mono ?_
  rintro e w2 ⟨gw, p, q, S, T, rfl, hd, hm2, hbase⟩
  have hmw := mk_trans Hm1.out hm2
  have hz1 := Hm1.out.size
  have hb0 : ∀ k, S k ∨ T k ∨ k = gw → w.heap.size ≤ k := fun k hk => by have := hbase k hk; omega
  have Hd := Lib.hid hd; have Hmw := Lib.hid hmw; have Hb0 := Lib.hid hb0; clear hd hmw hb0
  clear hm2 hbase Hm1
  go_upto_if 18 with fail
  go_cut [0] (fun s0 wx => wx = w2 ∧ ∃ (a : Option Addr) (c : Nat) (xs' : List UInt8), s0 = .slice a xs'.length c ∧ xs'.length ≤ 5000 ∧ Bs w s0 xs')
  case first =>
    by_cases hl : 5000 < xs.length
    · have hl2 : decide ((5000 : Int) < (xs.length : Int)) = true := by simp; omega
      go_wp2_with fail
      go_meet
      have := FrW.Sl.taken H1.out 5000 (by omega)
      have e : (xs.take 5000).length = 5000 := by simp; omega
      exact ⟨rfl, _, _, xs.take 5000, by rw [e], by omega, this⟩
    · have hl2 : decide ((5000 : Int) < (xs.length : Int)) = false := by simp; omega
      go_wp2_with fail
      go_meet
      exact ⟨rfl, _, _, xs, rfl, by omega, H1.out⟩
  case rest =>
    obtain ⟨rfl, a, c, zs, rfl, hzl, hz⟩ := hcut
    have Hz := Lib.hid hz; clear hz
    go_upto_if 23 with fail
    go_cut [1] (fun s1 wx => wx = wc ∧ ∃ (a : Option Addr) (c : Nat) (xs' : List UInt8), s1 = .slice a xs'.length c ∧ xs'.length ≤ 5000 ∧ Bs w s1 xs')
    case first =>
      by_cases hl : 5000 < ys.length
      · have hl2 : decide ((5000 : Int) < (ys.length : Int)) = true := by simp; omega
        go_wp2_with fail
        go_meet
        have := FrW.Sl.taken H2.out 5000 (by omega)
        have e : (ys.take 5000).length = 5000 := by simp; omega
        exact ⟨rfl, _, _, ys.take 5000, by rw [e], by omega, this⟩
      · have hl2 : decide ((5000 : Int) < (ys.length : Int)) = false := by simp; omega
        go_wp2_with fail
        go_meet
        exact ⟨rfl, _, _, ys, rfl, by omega, H2.out⟩
    case rest =>
      obtain ⟨rfl, a', c', zs', rfl, hzl', hz'⟩ := hcut
      obtain ⟨hp0, hr0, hb0', hlt, hdis, hneS, hneT⟩ := Hd.out.of
      have hbz := hb0'.lt
      have hmw' := Hmw.out
      have hzw := hmw'.size
      have hoz : ∀ (v : Value) (ys : List UInt8), Bs w v ys → ∀ k, 0 < ys.length → v.ownBlock = some k → k < w.heap.size := fun v ys h k hl hk => by
        obtain ⟨_, a, cap, rfl, _, _, _, h4⟩ := h
        obtain ⟨b, off, rfl, hd⟩ := h4 hl
        cases hk
        exact World.block_lt_of_cell? w _ (hd 0 _ (bv_get ys 0 hl))
      have hkeep : ∀ {w' : World} {U : Nat → Prop} {v : Value} {ys : List UInt8}, Bs w v ys → Chg U w w' → (∀ k, U k → w.heap.size ≤ k) → Bs w' v ys := fun h hc hU => bs_keep h hc fun k hk h0 hl e => by have := hU k e; omega
      have hA0 : (fresh 2).Ok 0 := fresh_ok 2 (by decide) (by decide)
      obtain ⟨s1, e1, hs1⟩ : ∃ a b, (fresh 2).append 0 zs = (a, b) := ⟨_, _, rfl⟩
      obtain ⟨s2, e2, hs2⟩ : ∃ a b, s1.append 1 zs' = (a, b) := ⟨_, _, rfl⟩
      have hA1 := append_ok hA0 0 zs
      rw [hs1] at hA1
      have hA2 := append_ok hA1 1 zs'
      rw [hs2] at hA2
      have hlen2 : ∀ f, (s2.file f).1.length ≤ 1048576 := fun f => by
        have a1 := append_len (fresh 2) 0 zs f
        have a2 := append_len s1 1 zs' f
        rw [hs1] at a1
        rw [hs2] at a2
        dsimp only at a1 a2
        have a3 : ((fresh 2).file f).1.length = 0 := by
          simp only [Dk.fresh, St.file, List.getD_eq_getElem?_getD, List.getElem?_replicate]
          split <;> rfl
        omega
      have c0 := gw_0 hb0'
      have hB : ∀ k, S k → w.heap.size ≤ k := fun k hk => Hb0.out k (.inl hk)
      have hBT : ∀ k, T k → w.heap.size ≤ k := fun k hk => Hb0.out k (.inr (.inl hk))
      have hgw : w.heap.size ≤ gw := Hb0.out gw (.inr (.inr rfl))
      have hap1 := append_any0 hp0 hA0 (by decide) 0 (.slice a zs.length c) zs (Hz.out.mk hmw') (by omega) (fun k hk h0 e hs => by have := hoz _ _ Hz.out k h0 e; have := hB k hs; omega)
      rw [hs1] at hap1
      clear hkeep
      have Hp0 := Lib.hid hp0; have Hr0 := Lib.hid hr0; have Hb0' := Lib.hid hb0'; have Hlt := Lib.hid hlt; have Hdis := Lib.hid hdis; have HneS := Lib.hid hneS; have HneT := Lib.hid hneT; have Hmw' := Lib.hid hmw'; have Hoz := Lib.hid hoz; have Hs1 := Lib.hid hs1; have Hs2 := Lib.hid hs2; have HA1 := Lib.hid hA1; have HA2 := Lib.hid hA2; have Hlen2 := Lib.hid hlen2; have HB := Lib.hid hB; have HBT := Lib.hid hBT; have Hap1 := Lib.hid hap1; clear hp0 hr0 hb0' hlt hdis hneS hneT hmw' hoz hs1 hs2 hA1 hA2 hlen2 hB hBT hap1
      go_wp2_with fail
      refine Hap1.out.mono ?_
      rintro e w3 ⟨rfl, hp1, hc1⟩
      have hz3 := hc1.size
      have hb1 := Hb0'.out.keep hc1 HneS.out
      have hpt1 := PD.trim hp1
      have hM1 : Chg (fun k => w.heap.size ≤ k) w w3 := Chg.trans (Chg.of_mk Hmw'.out) hc1 (fun k _ e => HB.out k e)
      have c0' := gw_0 hb1
      have hap2 := append_any0 hpt1 HA1.out (by decide) 1 (.slice a' zs'.length c') zs' (bs_keep hz' hM1 fun k hk h0 hl e => by omega) (by omega) (fun k hk h0 e hs => by
        have := Hoz.out _ _ hz' k h0 e
        rcases hs.1 with hs | hs
        · have := HB.out k hs; omega
        · omega)
      rw [Hs2.out] at hap2
      have hr1 := Hr0.out.keep hc1 (fun k _ ht hs => Hdis.out k hs ht)
      have Hp1 := Lib.hid hp1; have Hc1 := Lib.hid hc1; have Hb1 := Lib.hid hb1; have Hpt1 := Lib.hid hpt1; have HM1 := Lib.hid hM1; have Hap2 := Lib.hid hap2; have Hr1 := Lib.hid hr1; clear hp1 hc1 hb1 hpt1 hM1 hap2 hr1
      go_wp2_with fail
      refine Hap2.out.mono ?_
      rintro e w4 ⟨rfl, hp2, hc2⟩
      have hz4 := hc2.size
      have hS1 : ∀ k, k < wc.heap.size → (Gw S wc k ∧ k < w3.heap.size) → S k := fun k hk e => e.1.elim id (fun e => by omega)
      have hb2 := Hb1.out.keep hc2 (fun e => HneS.out (hS1 gw hbz e))
      have hpt2 := PD.trim hp2
      have hM2 : Chg (fun k => w.heap.size ≤ k) w w4 := Chg.trans HM1.out hc2 (fun k _ e => e.1.elim (HB.out k) (fun e => by omega))
      have hr2 := Hr1.out.keep hc2 (fun k _ ht hs => Hdis.out k (hS1 k (Hlt.out k (.inr ht)) hs) ht)
      have c2 := gw_2 hb2
      have hap3 := rappend_any0 hr2 (fresh_ok 2 (by decide) (by decide)) (by decide) 0 (.slice a zs.length c) zs (bs_keep Hz.out hM2 fun k hk h0 hl e => by omega) (by omega) (fun k hk h0 e hs => by have := Hoz.out _ _ Hz.out k h0 e; have := HBT.out k hs; omega)
      rw [Hs1.out] at hap3
      have Hp2 := Lib.hid hp2; have Hc2 := Lib.hid hc2; have Hb2 := Lib.hid hb2; have Hpt2 := Lib.hid hpt2; have HM2 := Lib.hid hM2; have Hr2 := Lib.hid hr2; have Hap3 := Lib.hid hap3; clear hp2 hc2 hb2 hpt2 hM2 hr2 hap3
      go_wp2_with fail
      refine Hap3.out.mono ?_
      rintro e w5 ⟨rfl, hq1, hc3⟩
      have hz5 := hc3.size
      have hb3 := Hb2.out.keep hc3 HneT.out
      have hqt1 := RD.trim hq1
      have hM3 : Chg (fun k => w.heap.size ≤ k) w w5 := Chg.trans HM2.out hc3 (fun k _ e => HBT.out k e)
      have hS2 : ∀ k, (Gw (fun k => Gw S wc k ∧ k < w3.heap.size) w3 k ∧ k < w4.heap.size) → S k ∨ wc.heap.size ≤ k := fun k e => e.1.elim (fun e => e.1) (fun e => .inr (by omega))
      have hpt3 := Hpt2.out.keep hc3 (fun k _ hs ht => by have := Hlt.out k (.inr ht); exact (hS2 k hs).elim (fun e => Hdis.out k e ht) (fun e => by omega))
      have c2' := gw_2 hb3
      have hap4 := rappend_any0 hqt1 HA1.out (by decide) 1 (.slice a' zs'.length c') zs' (bs_keep hz' hM3 fun k hk h0 hl e => by omega) (by omega) (fun k hk h0 e hs => by
        have := Hoz.out _ _ hz' k h0 e
        rcases hs.1 with hs | hs
        · have := HBT.out k hs; omega
        · omega)
      rw [Hs2.out] at hap4
      have Hq1 := Lib.hid hq1; have Hc3 := Lib.hid hc3; have Hb3 := Lib.hid hb3; have Hqt1 := Lib.hid hqt1; have HM3 := Lib.hid hM3; have Hpt3 := Lib.hid hpt3; have Hap4 := Lib.hid hap4; have HS2 := Lib.hid hS2; clear hq1 hc3 hb3 hqt1 hM3 hpt3 hap4 hS2
      go_wp2_with fail
      refine Hap4.out.mono ?_
      rintro e w6 ⟨rfl, hq2, hc4⟩
      have hz6 := hc4.size
      have hT1 : ∀ k, (Gw T w4 k ∧ k < w5.heap.size) → T k ∨ w4.heap.size ≤ k := fun k e => e.1
      have hb4 := Hb3.out.keep hc4 (fun e => (hT1 gw e).elim HneT.out (fun e => by omega))
      have hpt4 := Hpt3.out.keep hc4 (fun k _ hs ht => (hT1 k ht).elim (fun ht => by have := Hlt.out k (.inr ht); exact (HS2.out k hs).elim (fun e => Hdis.out k e ht) (fun e => by omega)) (fun e => by have := hs.2; omega))
      have hqt2 := RD.trim hq2
      have hT2 : ∀ k, (Gw (fun k => Gw T w4 k ∧ k < w5.heap.size) w5 k ∧ k < w6.heap.size) → T k ∨ w4.heap.size ≤ k := fun k e => e.1.elim (hT1 k) (fun e => .inr (by omega))
      have hM4 : Chg (fun k => w.heap.size ≤ k) w w6 := Chg.trans HM3.out hc4 (fun k _ e => (hT1 k e).elim (HBT.out k) (fun e => by omega))
      have hW : WDk (fun k => Gw (fun k => Gw S wc k ∧ k < w3.heap.size) w3 k ∧ k < w4.heap.size) (fun k => Gw (fun k => Gw T w4 k ∧ k < w5.heap.size) w5 k ∧ k < w6.heap.size) w6 gw p q (.pointer none) (.pointer none) s2 := by
        refine ⟨hpt4, hqt2, hb4, fun k hk => hk.elim (fun e => by have := e.2; omega) (fun e => e.2), fun k hs ht => ?_, ?_, ?_⟩
        · rcases HS2.out k hs with h1 | h1
          · rcases hT2 k ht with h2 | h2
            · exact Hdis.out k h1 h2
            · have := Hlt.out k (.inl h1); omega
          · rcases hT2 k ht with h2 | h2
            · have := Hlt.out k (.inr h2); omega
            · have := hs.2; omega
        · intro e; rcases HS2.out gw e with e | e
          · exact HneS.out e
          · omega
        · intro e; rcases hT2 gw e with e | e
          · exact HneT.out e
          · omega
      have hW0 : ∀ k, (Gw (fun k => Gw S wc k ∧ k < w3.heap.size) w3 k ∧ k < w4.heap.size) ∨ (Gw (fun k => Gw T w4 k ∧ k < w5.heap.size) w5 k ∧ k < w6.heap.size) ∨ k = gw → w.heap.size ≤ k := fun k hk => by
        rcases hk with hk | hk | hk
        · exact (HS2.out k hk).elim (HB.out k) (fun e => by omega)
        · exact (hT2 k hk).elim (HBT.out k) (fun e => by omega)
        · omega
      have Hq2 := Lib.hid hq2; have Hc4 := Lib.hid hc4; have Hb4 := Lib.hid hb4; have HM4 := Lib.hid hM4; have HW := Lib.hid hW; have HW0 := Lib.hid hW0; clear hq2 hc4 hb4 hM4 hW hW0
      clear hpt4 hqt2 hT1 hT2
      go_wp2_with fail
      go_loopw [8] (fun i wr => ∃ (k : Nat) (S T : Nat → Prop) (lv mv : Value) (st : St), i = .int .i64 (k : Int) ∧ k ≤ 2 ∧ WDk S T wr gw p q lv mv st ∧ st.Ok (2 + 2 * k) ∧ (∀ f, (st.file f).1.length ≤ 1048576) ∧ (∀ x, S x ∨ T x ∨ x = gw → w.heap.size ≤ x) ∧ Chg (fun x => w.heap.size ≤ x) w wr) (fun i _ => 2 - (intOf i).toNat)
      case atStart => exact ⟨0, _, _, _, _, s2, rfl, by omega, HW.out, HA2.out, Hlen2.out, HW0.out, HM4.out⟩
      case round =>
        obtain ⟨k, S', T', lv, mv, st, rfl, hk, hwd, hok, hlen, hx0, hcg⟩ := hrel
        by_cases hlt2 : k < 2
        · have hops := opens_any hwd hok (by omega) hlen
          have hok' := openP_ok hok
          have hlen' : ∀ f, ((openP st).1.file f).1.length ≤ 1048576 := fun f => Nat.le_trans (openP_len st f) (hlen f)
          have Hwd := Lib.hid hwd; have Hok := Lib.hid hok; have Hlen := Lib.hid hlen; have Hx0 := Lib.hid hx0; have Hcg := Lib.hid hcg; have Hops := Lib.hid hops; have Hok' := Lib.hid hok'; have Hlen' := Lib.hid hlen'; clear hwd hok hlen hx0 hcg hops hok' hlen'
          go_wp2_with fail
          refine Hops.out.mono ?_
          rintro e w7 ⟨rfl, lv', mv', hwd', _, hc7⟩
          have hfl := files_any hwd' Hok'.out
          have Hwd' := Lib.hid hwd'; have Hc7 := Lib.hid hc7; have Hfl := Lib.hid hfl; clear hwd' hc7 hfl
          go_wp2_with fail
          refine Hfl.out.mono ?_
          rintro e w8 ⟨rfl, hm8⟩
          have Hm8 := Lib.hid hm8; clear hm8
          go_wp2_with fail
          go_roundw
          case rel => exact ⟨k + 1, S', T', lv', mv', _, by go_num, by omega, Hwd'.out.made Hm8.out, Ok_mono Hok'.out (by omega), Hlen'.out, Hx0.out, (Chg.trans Hcg.out Hc7.out (fun x _ e => Hx0.out x e)).thenMk Hm8.out⟩
          case measure => simp [intOf]; omega
        · have hk2 : (k : Int) = 2 := by omega
          have Hwd := Lib.hid hwd; have Hok := Lib.hid hok; have Hlen := Lib.hid hlen; have Hx0 := Lib.hid hx0; have Hcg := Lib.hid hcg; have Hk2 := Lib.hid hk2; clear hwd hok hlen hx0 hcg hk2
          go_wp2_with fail
          go_ret
          exact ⟨rfl, Hcg.out.to_mk fun x hx e => by omega⟩
theorem walAny_walk (w : World) (v1 : Value) (xs : List UInt8) (h1 : Bs w v1 xs) (hx : xs.length ≤ 1048576) (v2 : Value) (ys : List UInt8) (h2 : Bs w v2 ys) (hy : ys.length ≤ 1048576) :
    Calls Try.prog 10 #[v1, v2] w fun e w' => e = .returned (.bool true) ∧ Mk w w' := walAny_any w v1 v2 xs ys h1 h2 (by omega) (by omega)
end Go.Proofs.WlW

namespace Go.Proofs.Ytcfjdldlcdomgaa.Up
open Go Go.ChangeShapes Go.WideShapes Go.ChangeAt Go.RowKit Go.Tk

theorem own : ownKnob Try.prog.godebug = none := by kernel_rfl
theorem laidOut : laidOutB Try.prog = true := by kernel_rfl

theorem one_le {H : Type} (d : DataW H) : 1 ≤ Rows.uptoBulk d := by
  cases d with
  | lit l => cases l <;> simp [Rows.uptoBulk]
  | nil => simp [Rows.uptoBulk]
  | ptr d => simp [Rows.uptoBulk]
  | slice elems spare => simp [Rows.uptoBulk]
  | agg parts => simp [Rows.uptoBulk]
  | iface t d => simp [Rows.uptoBulk]
  | map entries => simp [Rows.uptoBulk]
  | held h => simp [Rows.uptoBulk]
theorem length_le {H : Type} (l : List (DataW H)) : l.length ≤ Rows.uptoBulkAll l := by
  induction l with
  | nil => simp [Rows.uptoBulkAll]
  | cons x r ih => have := one_le x; simp only [Rows.uptoBulkAll, List.length_cons]; omega
theorem bound {H : Type} {l : List (DataW H)} (hk : Rows.uptoSmall H l = true) : Rows.uptoBulkAll l ≤ 1048576 := by
  simpa [Rows.uptoSmall] using hk

/-- Integers that fit a byte are bytes. -/
theorem byte_of {n : Int} (h : (Lit.int .u8 n).wf = true) : ∃ c : UInt8, n = (c.toNat : Int) := by
  have h2 : 0 ≤ n ∧ n < 256 := by
    simp only [Lit.wf, Bool.and_eq_true, decide_eq_true_eq] at h
    have e1 : IntKind.u8.min = 0 := by kernel_rfl
    have e2 : IntKind.u8.max = 255 := by kernel_rfl
    omega
  refine ⟨UInt8.ofNat n.toNat, ?_⟩
  rw [UInt8.toNat_ofNat_of_lt' (by show n.toNat < 256; omega)]
  omega
theorem bytes_of : ∀ zs : List Int, (∀ n ∈ zs, (Lit.int .u8 n).wf = true) → ∃ xs : List UInt8, zs.map (Value.int .u8) = bv xs ∧ xs.length = zs.length := by
  intro zs
  induction zs with
  | nil => exact fun _ => ⟨[], rfl, rfl⟩
  | cons z r ih =>
    intro h
    obtain ⟨c, rfl⟩ := byte_of (h z (by simp))
    obtain ⟨xs, hx, hl⟩ := ih fun n hn => h n (by simp [hn])
    exact ⟨c :: xs, by simp [bv] at hx ⊢; exact hx, by simp [hl]⟩

section
variable {H : Type} {enc : TypeId × Value → H} {W : World} {base : Nat} {v : Value} {d : DataW H} {p : List MemPlace} {sp hd : Nat → Bool}

theorem bulk_lits (k : IntKind) (zs : List Int) : (lits (H := H) k zs).length = zs.length := by simp [lits]

set_option maxRecDepth 100000 in
theorem bytes_open (hv : Value.okWide Try.prog W .any base 22 v) (h : DataW.Trod enc Try.prog W 0 (fun _ => true) true 22 v d p) :
    ∃ xs, Bs W v xs ∧ xs.length + 1 ≤ Rows.uptoBulk d := by
  obtain ⟨a, len, cap, rfl⟩ := okWide_slice Try.underlying22 hv
  obtain ⟨fuel, hf⟩ := h
  rcases open_ints Try.underlying22 Try.underlying5 (by kernel_rfl) hf with ⟨hcs, hx⟩ | ⟨x, l, c, zs, hcs, _, hl, hm, hz, hx, hcell, hwz⟩
  · simp [Value.cells] at hcs
    obtain ⟨rfl, rfl, rfl⟩ := hcs
    exact ⟨[], ⟨rfl, none, 0, rfl, Nat.le_refl _, Nat.zero_le _, fun _ => rfl, fun h => absurd h (by simp)⟩, one_le d⟩
  · simp [Value.cells] at hcs
    obtain ⟨rfl, rfl, rfl⟩ := hcs
    simp only [if_true] at hz
    obtain ⟨xs, hb, hlx⟩ := bytes_of zs hwz
    have hd : d = .slice (lits .u8 (zs.take len)) (lits .u8 (zs.drop len)) := (Prod.mk.inj hx).1
    refine ⟨xs.take len, ?_, ?_⟩
    · have hl2 : (xs.take len).length = len := by simp; omega
      refine ⟨by rw [bv_length]; omega, some x, cap, by rw [hl2], by omega, hm, (fun h => by cases h), fun hp => ?_⟩
      obtain ⟨b, off, spot⟩ := x
      have h0 := hcell 0 (by omega)
      have hs : spot = none := by
        cases spot with
        | none => rfl
        | some s =>
          simp only [Addr.add, if_true, World.cell?] at h0
          split at h0 <;> simp at h0
      subst hs
      refine ⟨b, off, rfl, fun j u hu => ?_⟩
      have hj : j < (bv (xs.take len)).length := (List.getElem?_eq_some_iff.1 hu).1
      rw [bv_length] at hj
      have e1 : (bv (xs.take len))[j]? = some (.int .u8 (zs.getD j 0)) := by
        have : bv (xs.take len) = (bv xs).take len := by simp [bv, List.map_take]
        rw [this, List.getElem?_take, if_pos (by omega), ← hb, List.getElem?_map, List.getD_eq_getElem?_getD, List.getElem?_eq_getElem (by omega)]
        rfl
      rw [e1] at hu
      have hc := hcell j (by omega)
      rw [← hu, ← hc]
      by_cases hj0 : j = 0 <;> simp [hj0, Addr.add]
    · subst hd
      have h1 := length_le (lits (H := H) .u8 (zs.take len))
      rw [bulk_lits] at h1
      simp only [Rows.uptoBulk]
      have h2 : (xs.take len).length = (zs.take len).length := by simp; omega
      omega
end
end Go.Proofs.Ytcfjdldlcdomgaa.Up
