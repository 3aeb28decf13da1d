/- Layer 6, wal: the program's Format. Layer 6, wal: plain laws on heads and records; the document's example, state by state. Layer 6, wal: the program's log by classes of blocks; the document's example. -/
import Derived.Test.YtcfjdldlcdomgaaMWalPlays20
set_option linter.unusedVariables false
set_option linter.unusedSimpArgs false
namespace Go.Proofs.WlW
open Go Go.RowKit Go.Tk Go.Dk Go.Sp Go.Proofs.DkW

def fmtT (st : St) (fr : List UInt8) : St × Int :=
  if (st.truncate 0 0).2 ≠ 0 then ((st.truncate 0 0).1, 40) else
  if ((st.truncate 0 0).1.truncate 1 0).2 ≠ 0 then (((st.truncate 0 0).1.truncate 1 0).1, 40) else
  St.write ((st.truncate 0 0).1.truncate 1 0).1 0 fr
def fmtP (st : St) (cap slots : Int) (state : List UInt8) : St × Int :=
  if st.size 1 < 0 ∨ rightB cap slots = false then (st, 1) else if weight state.length = 0 ∨ cap < weight state.length then (st, 60) else
  fmtT st (headFrame 1 cap.toNat slots.toNat state)
set_option maxHeartbeats 4000000 in
set_option maxRecDepth 100000 in
theorem format_any {S : Nat → Prop} {w : World} {p M : Nat} {st : St} (h : PD S w p st) (hok : st.Ok M) (hM : M < 900000) (hS : ∀ k, S k → k < w.heap.size) (cap slots : Int) (v : Value) (xs : List UInt8) (hv : Bs w v xs) (hlen : xs.length ≤ 140737488355328) (hX : ∀ k, v.ownBlock = some k → ¬ S k) :
    Calls Try.prog 52 #[.pointer (some ⟨p, 0, none⟩), .int .i64 cap, .int .i64 slots, v] w fun e w' => e = .returned (.int .i64 (fmtP st cap slots xs).2) ∧ PD (Gw S w) w' p (fmtP st cap slots xs).1 ∧ Chg S w w' := by
  have hsize := fun (w' : World) (h' : PD S w' p st) => size_any 1 h'
  obtain ⟨va, vc, rfl, hvc, hvm⟩ := hv.form
  generalize hsz : st.size 1 = sz at *
  have hself : ∀ {w'}, Mk w w' → PD (Gw S w) w' p st ∧ Chg S w w' := fun hm => ⟨(h.made hm).sub fun _ e => .inl e, Chg.of_mk hm⟩
  by_cases h1 : sz < 0
  · have hl : fmtP st cap slots xs = (st, 1) := by unfold fmtP; rw [hsz, if_pos (.inl h1)]
    have d1 : decide (sz < 0) = true := by simpa using h1
    have Hsize := Lib.hid hsize; have Hl := Lib.hid hl; have H := Lib.hid h; have HX := Lib.hid hX; have Hv := Lib.hid hv; have Hvc := Lib.hid hvc; have Hvm := Lib.hid hvm; have Hsz := Lib.hid hsz; clear hsize hl h hX hv hvc hvm hsz
    go_enter Try.func52, Try.ntmps52
    go_wp2_with fail
    refine (Hsize.out _ H.out).mono ?_
    rintro e w1 ⟨rfl, rfl⟩
    go_wp2
    go_ret
    rw [Hl.out]
    exact ⟨rfl, hself (mk_refl _)⟩
  · have d1 : decide (sz < 0) = false := by simpa using h1
    have hright := fun w' => right_any w' cap slots
    cases hr : rightB cap slots
    · have hl : fmtP st cap slots xs = (st, 1) := by unfold fmtP; rw [hsz, if_pos (.inr hr)]
      simp only [hr] at hright
      have Hsize := Lib.hid hsize; have Hl := Lib.hid hl; have H := Lib.hid h; have HX := Lib.hid hX; have Hv := Lib.hid hv; have Hvc := Lib.hid hvc; have Hvm := Lib.hid hvm; have Hsz := Lib.hid hsz; have Hright := Lib.hid hright; have Hr := Lib.hid hr; clear hsize hl h hX hv hvc hvm hsz hright hr
      go_enter Try.func52, Try.ntmps52
      go_wp2_with fail
      refine (Hsize.out _ H.out).mono ?_
      rintro e w1 ⟨rfl, rfl⟩
      go_wp2_with fail
      refine (Hright.out _).mono ?_
      rintro e w1 ⟨rfl, rfl⟩
      go_wp2
      go_ret
      rw [Hl.out]
      exact ⟨rfl, hself (mk_refl _)⟩
    · simp only [hr] at hright
      have hr' : 1024 ≤ cap ∧ cap ≤ 4194304 ∧ 1 ≤ slots ∧ slots ≤ 65536 := by simp [rightB] at hr; omega
      have hwt := fun w' => weight_any w' (xs.length : Int)
      by_cases hw : weight xs.length = 0 ∨ cap < weight xs.length
      · have hl : fmtP st cap slots xs = (st, 60) := by unfold fmtP; rw [hsz, if_neg (by rw [hr]; simp; omega), if_pos hw]
        by_cases hw0 : weight xs.length = 0
        · rw [hw0] at hwt
          have Hsize := Lib.hid hsize; have Hl := Lib.hid hl; have H := Lib.hid h; have HX := Lib.hid hX; have Hv := Lib.hid hv; have Hvc := Lib.hid hvc; have Hvm := Lib.hid hvm; have Hsz := Lib.hid hsz; have Hright := Lib.hid hright; have Hr := Lib.hid hr; have Hwt := Lib.hid hwt; have Hw := Lib.hid hw; clear hsize hl h hX hv hvc hvm hsz hright hr hwt hw
          go_enter Try.func52, Try.ntmps52
          go_wp2_with fail
          refine (Hsize.out _ H.out).mono ?_
          rintro e w1 ⟨rfl, rfl⟩
          go_wp2_with fail
          refine (Hright.out _).mono ?_
          rintro e w1 ⟨rfl, rfl⟩
          go_wp2_with fail
          refine (Hwt.out _).mono ?_
          rintro e w1 ⟨rfl, rfl⟩
          go_wp2
          go_ret
          rw [Hl.out]
          exact ⟨rfl, hself (mk_refl _)⟩
        · have hw1 := hw.resolve_left hw0
          have hw2 : (weight xs.length == 0) = false := by simpa using hw0
          generalize weight xs.length = z at *
          have hw3 : decide (cap < z) = true := by simpa using hw1
          have Hsize := Lib.hid hsize; have Hl := Lib.hid hl; have H := Lib.hid h; have HX := Lib.hid hX; have Hv := Lib.hid hv; have Hvc := Lib.hid hvc; have Hvm := Lib.hid hvm; have Hsz := Lib.hid hsz; have Hright := Lib.hid hright; have Hr := Lib.hid hr; have Hwt := Lib.hid hwt; have Hw := Lib.hid hw; clear hsize hl h hX hv hvc hvm hsz hright hr hwt hw
          go_enter Try.func52, Try.ntmps52
          go_wp2_with fail
          refine (Hsize.out _ H.out).mono ?_
          rintro e w1 ⟨rfl, rfl⟩
          go_wp2_with fail
          refine (Hright.out _).mono ?_
          rintro e w1 ⟨rfl, rfl⟩
          go_wp2_with fail
          refine (Hwt.out _).mono ?_
          rintro e w1 ⟨rfl, rfl⟩
          go_wp2
          go_ret
          rw [Hl.out]
          exact ⟨rfl, hself (mk_refl _)⟩
      · have hw0 : ¬ weight xs.length = 0 := fun e => hw (.inl e)
        have hwx : weight xs.length = (xs.length : Int) + 33 ∧ xs.length ≤ 4194280 := by
          unfold weight at hw0 ⊢
          by_cases e : (xs.length : Int) < 0 ∨ 4194280 < (xs.length : Int)
          · rw [if_pos e] at hw0; exact absurd rfl hw0
          · rw [if_neg e]; exact ⟨rfl, by omega⟩
        have hw2 : (weight xs.length == 0) = false := by simpa using hw0
        have hw3 : decide (cap < weight xs.length) = false := by simp; omega
        have hxl := hwx.2
        obtain ⟨c, rfl⟩ := Int.eq_ofNat_of_zero_le (show 0 ≤ cap by omega)
        obtain ⟨sl, rfl⟩ := Int.eq_ofNat_of_zero_le (show 0 ≤ slots by omega)
        obtain ⟨fr, hfr⟩ : ∃ f, headFrame 1 c sl xs = f := ⟨_, rfl⟩
        have hfl : fr.length = xs.length + 33 := by rw [← hfr, headFrame_length]
        have hl : fmtP st (c : Int) (sl : Int) xs = fmtT st fr := by unfold fmtP; rw [hsz, if_neg (by rw [hr]; simp; omega), if_neg hw, Int.toNat_natCast, Int.toNat_natCast, hfr]
        generalize hzz : weight xs.length = z at *
        obtain ⟨t1, e1, ht1⟩ : ∃ a b, st.truncate 0 0 = (a, b) := ⟨_, _, rfl⟩
        have hok1 := truncate_ok hok 0 0
        rw [ht1] at hok1
        obtain ⟨t2, e2, ht2⟩ : ∃ a b, t1.truncate 1 0 = (a, b) := ⟨_, _, rfl⟩
        have hok2 := truncate_ok hok1 1 0
        rw [ht2] at hok2
        obtain ⟨t3, e3, ht3⟩ : ∃ a b, St.write t2 0 fr = (a, b) := ⟨_, _, rfl⟩
        have hF : fmtT st fr = if e1 ≠ 0 then (t1, 40) else if e2 ≠ 0 then (t2, 40) else (t3, e3) := by unfold fmtT; rw [ht1, ht2, ht3]
        have k1 : ∀ (w' : World), PD S w' p st → Calls Try.prog 34 #[.pointer (some ⟨p, 0, none⟩), .int .i64 0, .int .i64 0] w' (fun e w'' => e = .returned (.int .i64 e1) ∧ PD S w'' p t1 ∧ Chg S w' w'') := fun w' h1 => by
          have := truncate_any h1 hok (by omega) 0 0
          rw [ht1] at this
          exact this
        have k2 : ∀ (w' : World), PD S w' p t1 → Calls Try.prog 34 #[.pointer (some ⟨p, 0, none⟩), .int .i64 1, .int .i64 0] w' (fun e w'' => e = .returned (.int .i64 e2) ∧ PD S w'' p t2 ∧ Chg S w' w'') := fun w' h1 => by
          have := truncate_any h1 hok1 (by omega) 1 0
          rw [ht2] at this
          exact this
        have k3 : ∀ (w' : World) (v : Value) (h1 : PD S w' p t2) (hb : Bs w' v fr) (hd : ∀ k, k < w'.heap.size → v.ownBlock = some k → ¬ S k), Calls Try.prog 117 #[.pointer (some ⟨p, 0, none⟩), .int .i64 0, v] w' (fun e w'' => e = .returned (.int .i64 e3) ∧ PD (Gw S w') w'' p t3 ∧ Chg S w' w'') := fun w' v h1 hb hd => by
          have := write_any h1 hok2 (by omega) 0 v fr hb (by omega) hd
          rw [ht3] at this
          exact this
        have Hsize := Lib.hid hsize; have Hl := Lib.hid hl; have H := Lib.hid h; have HX := Lib.hid hX; have Hv := Lib.hid hv; have Hvc := Lib.hid hvc; have Hvm := Lib.hid hvm; have Hsz := Lib.hid hsz; have Hright := Lib.hid hright; have Hr := Lib.hid hr; have Hwt := Lib.hid hwt; have Hw := Lib.hid hw; have Hwx := Lib.hid hwx; have Hzz := Lib.hid hzz; have Hfr := Lib.hid hfr; have Hfl := Lib.hid hfl; have Ht1 := Lib.hid ht1; have Hok1 := Lib.hid hok1; have Ht2 := Lib.hid ht2; have Hok2 := Lib.hid hok2; have Ht3 := Lib.hid ht3; have HF := Lib.hid hF; have K1 := Lib.hid k1; have K2 := Lib.hid k2; have K3 := Lib.hid k3; clear hsize hl h hX hv hvc hvm hsz hright hr hwt hw hwx hzz hfr hfl ht1 hok1 ht2 hok2 ht3 hF k1 k2 k3
        go_enter Try.func52, Try.ntmps52
        go_wp2_with fail
        refine (Hsize.out _ H.out).mono ?_
        rintro e w1 ⟨rfl, rfl⟩
        go_wp2_with fail
        refine (Hright.out _).mono ?_
        rintro e w1 ⟨rfl, rfl⟩
        go_wp2_with fail
        refine (Hwt.out _).mono ?_
        rintro e w1 ⟨rfl, rfl⟩
        go_wp2_with fail
        go_loopw [30] (fun i wr => (i = .int .i64 0 ∧ wr = w) ∨ (i = .int .i64 1 ∧ PD S wr p t1 ∧ Chg S w wr ∧ e1 = 0) ∨ (i = .int .i64 2 ∧ PD S wr p t2 ∧ Chg S w wr ∧ e1 = 0 ∧ e2 = 0)) (fun i _ => 2 - (intOf i).toNat)
        case atStart => exact .inl ⟨rfl, rfl⟩
        case round =>
          rcases hrel with ⟨rfl, rfl⟩ | ⟨rfl, hp, hc, rfl⟩ | ⟨rfl, hp, hc, rfl, rfl⟩
          · go_wp2_with fail
            refine (K1.out _ H.out).mono ?_
            rintro e w1 ⟨rfl, hp1, hc1⟩
            by_cases he : e1 = 0
            · subst he
              have Hp1 := Lib.hid hp1; have Hc1 := Lib.hid hc1; clear hp1 hc1
              go_wp2
              go_roundw
              case rel => exact .inr (.inl ⟨rfl, Hp1.out, Hc1.out, trivial⟩)
              case measure => simp [intOf]
            · have h1 : (e1 != 0) = true := by simpa using he
              have Hp1 := Lib.hid hp1; have Hc1 := Lib.hid hc1; clear hp1 hc1
              go_wp2
              go_ret
              rw [Hl.out, HF.out, if_pos he]
              exact ⟨rfl, Hp1.out.sub fun _ e => .inl e, Hc1.out⟩
          · have Hp := Lib.hid hp; have Hc := Lib.hid hc; clear hp hc
            go_wp2_with fail
            refine (K2.out _ Hp.out).mono ?_
            rintro e w1 ⟨rfl, hp1, hc1⟩
            have hc2 := Chg.trans Hc.out hc1 (fun _ _ e => e)
            by_cases he : e2 = 0
            · subst he
              have Hp1 := Lib.hid hp1; have Hc1 := Lib.hid hc1; have Hc2 := Lib.hid hc2; clear hp1 hc1 hc2
              go_wp2
              go_roundw
              case rel => exact .inr (.inr ⟨rfl, Hp1.out, Hc2.out, trivial, trivial⟩)
              case measure => simp [intOf]
            · have h1 : (e2 != 0) = true := by simpa using he
              have Hp1 := Lib.hid hp1; have Hc1 := Lib.hid hc1; have Hc2 := Lib.hid hc2; clear hp1 hc1 hc2
              go_wp2
              go_ret
              rw [Hl.out, HF.out, if_neg (by decide), if_pos he]
              exact ⟨rfl, Hp1.out.sub fun _ e => .inl e, Hc2.out⟩
          · have hby := bytes_any wr 1 c sl _ xs (sl_chg Hv.out hc (fun k hk _ e => HX.out k hk e)) hxl (by decide) (by omega) (by omega)
            have Hp := Lib.hid hp; have Hc := Lib.hid hc; have Hby := Lib.hid hby; clear hp hc hby
            go_wp2_with fail
            refine Hby.out.mono ?_
            rintro e w2 ⟨bv', rfl, hob, hm3⟩
            rw [← Hfl.out, Hfr.out] at hob
            obtain ⟨ba, bc, rfl, _, _⟩ := (own_sl hob).form
            have hz : w.heap.size ≤ wr.heap.size := Hc.out.size
            have Hob := Lib.hid hob; have Hm3 := Lib.hid hm3; clear hob hm3
            go_wp2_with fail
            refine (K3.out _ _ (Hp.out.made Hm3.out) (own_sl Hob.out) (fun k _ e hs => by have := (Hob.out.lt k e).1; have := hS k hs; omega)).mono ?_
            rintro e w3 ⟨rfl, hp3, hc3⟩
            have Hp3 := Lib.hid hp3; have Hc3 := Lib.hid hc3; clear hp3 hc3
            go_wp2
            go_ret
            rw [Hl.out, HF.out, if_neg (by decide), if_neg (by decide)]
            exact ⟨rfl, Hp3.out.sub (Gw_mono (by have := Hm3.out.size; omega)), Chg.trans (Hc.out.thenMk Hm3.out) Hc3.out (fun _ _ e => e)⟩
end Go.Proofs.WlW

namespace Go.Proofs.WlW
open Go Go.RowKit Go.Tk Go.Dk Go.Sp Go.Proofs.DkW

theorem numB_leB4 (n : Nat) (h : n < 4294967296) : numB (leB n 4) = n := numB_leB 4 n (by simpa using h)
theorem numB_leB8 (n : Nat) (h : n < 18446744073709551616) : numB (leB n 8) = n := numB_leB 8 n (by simpa using h)
theorem head_parts (g c s : Nat) (state : List UInt8) : (headBytes g c s state).take 8 = magic ∧ ((headBytes g c s state).take 16).drop 8 = leB g 8 ∧ ((headBytes g c s state).take 20).drop 16 = leB c 4 ∧ ((headBytes g c s state).take 24).drop 20 = leB s 4 ∧ (headBytes g c s state).drop 24 = state := by
  have h8 : magic.length = 8 := rfl
  have hg := leB_length 8 g
  have hc := leB_length 4 c
  have hs := leB_length 4 s
  unfold headBytes
  generalize leB g 8 = G at *
  generalize leB c 4 = C at *
  generalize leB s 4 = S at *
  generalize magic = m at *
  refine ⟨?_, ?_, ?_, ?_, ?_⟩
  · simp [List.append_assoc, List.take_append, h8]
  · simp [List.append_assoc, List.take_append, List.drop_append, h8, hg]
  · simp [List.append_assoc, List.take_append, List.drop_append, h8, hg, hc]
  · simp [List.append_assoc, List.take_append, List.drop_append, h8, hg, hc, hs]
    rw [List.drop_eq_nil_of_le (by simp; omega), List.drop_eq_nil_of_le (by simp; omega)]; rfl
  · simp [List.append_assoc, List.drop_append, h8, hg, hc, hs]
    rw [List.drop_eq_nil_of_le (by omega), List.drop_eq_nil_of_le (by omega), List.drop_eq_nil_of_le (by omega)]; rfl
theorem lookP_head {g c s : Nat} {state : List UInt8} (r : List UInt8) (hg0 : 0 < g) (hg : g < 18446744073709551616) (hr : rightB c s = true) (hl : state.length ≤ 4194280) : lookP (headFrame g c s state ++ r) = some (g, c, s, state, state.length + 33) := by
  obtain ⟨h1, h2, h3, h4, h5⟩ := head_parts g c s state
  have hr' : 1024 ≤ c ∧ c ≤ 4194304 ∧ 1 ≤ s ∧ s ≤ 65536 := by simp [rightB] at hr; omega
  unfold lookP headFrame
  rw [FrW.frame_put 1 _ r (by rw [headBytes_length]; omega)]
  simp only [h1, h2, h3, h4, h5, numB_leB8 g hg, numB_leB4 c (by omega), numB_leB4 s (by omega), headBytes_length]
  rw [if_pos ⟨trivial, by omega, trivial, hg0, hr⟩]
  simp; omega
theorem lookP_nil : lookP [] = none := by
  unfold lookP
  have : FrW.frameOf [] = none := by unfold FrW.frameOf; rw [if_pos (by decide)]
  rw [this]
theorem frames_put (k : UInt8) (d r : List UInt8) (h : d.length ≤ 4194304) : FrW.framesOf (FrW.frm k d ++ r) = (k, d) :: FrW.framesOf r := by
  rw [FrW.framesOf_some (FrW.frame_put k d r h), ← FrW.frm_length k d, List.drop_left]
theorem frames_nil : FrW.framesOf [] = [] := FrW.framesOf_none (by unfold FrW.frameOf; rw [if_pos (by decide)])
/-- Records as frames. -/
def recF : List (List UInt8) → List UInt8
  | [] => []
  | d :: l => FrW.frm 2 d ++ recF l
theorem recF_append (l m : List (List UInt8)) : recF (l ++ m) = recF l ++ recF m := by
  induction l with
  | nil => rfl
  | cons d l ih => simp [recF, ih]
theorem frames_recs : ∀ (l : List (List UInt8)) (r : List UInt8), (∀ d ∈ l, d.length ≤ 4194304) → FrW.framesOf (recF l ++ r) = l.map (fun d => (2, d)) ++ FrW.framesOf r
  | [], r, _ => rfl
  | d :: l, r, h => by
    rw [recF, List.append_assoc, frames_put 2 d _ (h d List.mem_cons_self), frames_recs l r (fun e he => h e (List.mem_cons_of_mem _ he))]
    rfl
theorem whole_recs (l : List (List UInt8)) : FrW.wholeOf (l.map (fun d => ((2 : UInt8), d))) = (recF l).length := by
  induction l with
  | nil => rfl
  | cons d l ih => simp only [List.map_cons, FrW.wholeOf, recF, List.length_append, FrW.frm_length, ih]
theorem openP_at {st : St} {live g c s n wh : Nat} {state hb : List UInt8} {recs : List (List UInt8)} {a b : Option Hp} (hoff : st.off = false) (ha : lookP (st.file 0).1 = a) (hb' : lookP (st.file 1).1 = b)
    (hch : chooseP (st.is 1) a b = .inr (live, g, c, s, state, n))
    (hfr : FrW.framesOf (st.file live).1 = (1, hb) :: recs.map (fun d => (2, d))) (hw : hb.length + 9 + (recF recs).length = wh) (hg : g < 9223372036854775808) (hc : wh ≤ c) :
    openP st = if (cutP st live wh).2 ≠ 0 then ((cutP st live wh).1, .inl (cutP st live wh).2) else ((cutP st live wh).1, .inr ⟨live, g, c, s, state, recs, wh⟩) := by
  have hwh : FrW.wholeOf (FrW.framesOf (st.file live).1) = wh := by rw [hfr, FrW.wholeOf, whole_recs]; exact hw
  have hbr : brokenP g c (FrW.framesOf (st.file live).1) = false := by
    refine broken_no hwh (by omega) (by omega) (fun j f h1 h2 hf => ?_)
    rw [hfr] at hf
    obtain ⟨i, rfl⟩ : ∃ i, j = i + 1 := ⟨j - 1, by omega⟩
    simp at hf
    obtain ⟨d, _, rfl⟩ := hf
    rfl
  unfold openP
  rw [if_neg (by rw [hoff]; decide), ha, hb', hch]
  simp only []
  rw [hbr, hwh, if_neg (by decide)]
  have hm : (FrW.framesOf (st.file live).1).tail.map (·.2) = recs := by rw [hfr]; simp [Function.comp_def]
  rw [hm]

/-! ### The document's example -/
def wF1 : List UInt8 := headFrame 1 1024 4 [97, 98]
def wF2 : List UInt8 := headFrame 2 1024 4 [113]
def ws0 : St := Dk.fresh 2
def ws1 : St := ⟨[(wF1, 35), ([], 0)], false, 0, none⟩
def ws2 : St := ⟨[(wF1 ++ FrW.frm 2 [120, 121, 122], 47), ([], 0)], false, 0, none⟩
def ws3 : St := ⟨[([], 0), (wF2, 34)], false, 0, none⟩
def wl1 : Lg := ⟨1, 1024, 4, 0, 35, 0⟩
def wl2 : Lg := ⟨1, 1024, 4, 0, 47, 0⟩
def wl3 : Lg := ⟨2, 1024, 4, 1, 34, 0⟩
theorem wF1_len : wF1.length = 35 := by unfold wF1; rw [headFrame_length]; rfl
theorem wF2_len : wF2.length = 34 := by unfold wF2; rw [headFrame_length]; rfl
theorem ws_open0 : openP ws0 = (ws0, .inl 61) := by
  unfold openP
  rw [if_neg (by decide)]
  have e0 : (ws0.file 0).1 = [] := rfl
  have e1 : (ws0.file 1).1 = [] := rfl
  rw [e0, e1, lookP_nil]
  rfl
theorem ws_format : fmtP ws0 1024 4 [97, 98] = (ws1, 0) := by
  have h1 : ws0.truncate 0 0 = (ws0, 0) := rfl
  have h2 : ws0.truncate 1 0 = (ws0, 0) := rfl
  have hl := wF1_len
  unfold fmtP fmtT
  rw [if_neg (by decide), if_neg (by decide), h1, if_neg (by decide)]
  simp only []
  rw [h2, if_neg (by decide)]
  show St.write ws0 0 wF1 = (ws1, 0)
  unfold St.write
  have ha : ws0.append 0 wF1 = (⟨[(wF1, 0), ([], 0)], false, 0, none⟩, 0) := by
    unfold St.append
    rw [if_neg (by decide), if_neg (by decide), if_neg (by rw [hl]; decide), if_neg (by decide)]
    rfl
  have hs : St.sync ⟨[(wF1, 0), ([], 0)], false, 0, none⟩ 0 = (ws1, 0) := by
    unfold St.sync
    rw [if_neg (by decide), if_neg (by simp [St.is]), if_neg (by simp [St.burnt])]
    simp [ws1, St.put, St.lit, St.file, hl]
  rw [ha, if_pos rfl]
  simp only []
  rw [hs, if_pos rfl]
theorem ws_open1 : openP ws1 = (ws1, .inr ⟨0, 1, 1024, 4, [97, 98], [], 35⟩) := by
  have e0 : (ws1.file 0).1 = wF1 := rfl
  have e1 : (ws1.file 1).1 = [] := rfl
  have hl := wF1_len
  have hlk : lookP (ws1.file 0).1 = some (1, 1024, 4, [97, 98], 35) := by
    rw [e0, ← List.append_nil wF1]
    exact lookP_head [] (by decide) (by decide) (by decide) (by decide)
  have hcut : cutP ws1 0 35 = (ws1, 0) := cutP_b (by rw [e0, hl]; rfl) (by decide)
  rw [openP_at (st := ws1) (b := none) (live := 0) (g := 1) (c := 1024) (s := 4) (n := 35) (wh := 35) (state := [97, 98]) (hb := headBytes 1 1024 4 [97, 98]) (recs := []) rfl hlk (by rw [e1]; exact lookP_nil) rfl ?_ rfl (by decide) (by decide), hcut]
  · rfl
  · rw [e0, ← List.append_nil wF1]
    exact (frames_put 1 _ _ (by decide)).trans (by rw [frames_nil]; rfl)
theorem ws_app : lapp ws1 wl1 [120, 121, 122] = (ws2, wl2, 0) := by
  have hl := wF1_len
  unfold lapp
  rw [if_neg (by decide), if_neg (by decide)]
  have hw : St.write ws1 (wl1.live : Int) (FrW.frm 2 [120, 121, 122]) = (ws2, 0) := by
    have hfl : (FrW.frm 2 [120, 121, 122]).length = 12 := rfl
    have ha : ws1.append 0 (FrW.frm 2 [120, 121, 122]) = (⟨[(wF1 ++ FrW.frm 2 [120, 121, 122], 35), ([], 0)], false, 0, none⟩, 0) := by
      unfold St.append
      rw [if_neg (by decide), if_neg (by decide), if_neg (by show ¬ (16777216 < wF1.length + _); rw [hl, hfl]; decide), if_neg (by decide)]
      rfl
    have hs : St.sync ⟨[(wF1 ++ FrW.frm 2 [120, 121, 122], 35), ([], 0)], false, 0, none⟩ 0 = (ws2, 0) := by
      unfold St.sync
      rw [if_neg (by decide), if_neg (by simp [St.is]), if_neg (by simp [St.burnt])]
      simp [ws2, St.put, St.lit, St.file, hl, hfl]
    show St.write ws1 0 _ = _
    unfold St.write
    rw [ha, if_pos rfl]
    simp only []
    rw [hs, if_pos rfl]
  rw [hw]
  rfl
theorem ws_chk : lck ws2 wl2 [113] = (ws3, wl3, 0) := by
  have hl := wF2_len
  unfold lck
  rw [if_neg (by decide), if_neg (by decide)]
  have h1 : ws2.truncate (1 - (wl2.live : Int)) 0 = (ws2, 0) := rfl
  have h2 : St.write ws2 (1 - (wl2.live : Int)) wF2 = (⟨[(wF1 ++ FrW.frm 2 [120, 121, 122], 47), (wF2, 34)], false, 0, none⟩, 0) := by
    show St.write ws2 1 wF2 = _
    have ha : ws2.append 1 wF2 = (⟨[(wF1 ++ FrW.frm 2 [120, 121, 122], 47), (wF2, 0)], false, 0, none⟩, 0) := by
      unfold St.append
      rw [if_neg (by decide), if_neg (by decide), if_neg (by show ¬ (16777216 < 0 + wF2.length); rw [hl]; decide), if_neg (by decide)]
      rfl
    have hs : St.sync ⟨[(wF1 ++ FrW.frm 2 [120, 121, 122], 47), (wF2, 0)], false, 0, none⟩ 1 = (⟨[(wF1 ++ FrW.frm 2 [120, 121, 122], 47), (wF2, 34)], false, 0, none⟩, 0) := by
      unfold St.sync
      rw [if_neg (by decide), if_neg (by simp [St.is]), if_neg (by simp [St.burnt])]
      simp [St.put, St.lit, St.file, hl]
    unfold St.write
    rw [ha, if_pos rfl]
    simp only []
    rw [hs, if_pos rfl]
  have h3 : St.truncate ⟨[(wF1 ++ FrW.frm 2 [120, 121, 122], 47), (wF2, 34)], false, 0, none⟩ (wl2.live : Int) 0 = (ws3, 0) := by
    unfold St.truncate
    rw [if_neg (by decide), if_neg (by simp [St.is]; decide), if_neg (by simp), if_neg (by simp [St.burnt])]
    rfl
  have := lckB_d (fr := wF2) h1 h2 h3
  show lckB ws2 wl2 wF2 = _
  rw [this, hl]
  rfl
theorem ws_chk2 : lck ws3 wl3 (List.replicate 992 0) = (ws3, wl3, 60) := by
  unfold lck
  rw [if_neg (by decide), if_pos (by rw [List.length_replicate]; decide)]
end Go.Proofs.WlW

namespace Go.Proofs.WlW
open Go Go.RowKit Go.Tk Go.Dk Go.Sp Go.Proofs.DkW

/-- A log and its disk, whose blocks lie in the class A. -/
def LX (A : Nat → Prop) (w : World) (g p : Nat) (st : St) (L : Lg) : Prop := ∃ S, PD S w p st ∧ (∀ k, S k → A k ∧ k < w.heap.size) ∧ Bk w g 175 (lgC p L) ∧ ¬ S g ∧ A g
section
variable {A : Nat → Prop} {w w' : World} {g p M : Nat} {st : St} {L : Lg}
theorem LX.dx (h : LX A w g p st L) : DX A w p st := by obtain ⟨S, h1, h2, _⟩ := h; exact ⟨S, h1, h2⟩
theorem LX.made (h : LX A w g p st L) (hm : Mk w w') : LX A w' g p st L := by
  obtain ⟨S, h1, h2, h3, h4, h5⟩ := h
  exact ⟨S, h1.made hm, fun k hk => ⟨(h2 k hk).1, by have := (h2 k hk).2; have := hm.size; omega⟩, h3.mk hm, h4, h5⟩
theorem LX.keep (h : LX A w g p st L) {T : Nat → Prop} (hc : Chg T w w') (hn : ∀ k, k < w.heap.size → A k → ¬ T k) : LX A w' g p st L := by
  obtain ⟨S, h1, h2, h3, h4, h5⟩ := h
  exact ⟨S, h1.keep hc (fun k hk hs => hn k hk (h2 k hs).1), fun k hk => ⟨(h2 k hk).1, by have := (h2 k hk).2; have := hc.size; omega⟩, h3.keep hc (hn g h3.lt h5), h4, h5⟩
theorem LX.of {S : Nat → Prop} {st' : St} {L' : Lg} (h2 : ∀ k, S k → A k ∧ k < w.heap.size) (h4 : ¬ S g) (h5 : A g) (hg : g < w.heap.size) (hA : ∀ k, w.heap.size ≤ k → A k) (h : LPost S w g p st' L' w') : LX A w' g p st' L' ∧ Chg A w w' :=
  ⟨⟨fun k => Gw S w k ∧ k < w'.heap.size, PD.trim h.disk, fun k hk => ⟨hk.1.elim (fun e => (h2 k e).1) (hA k), hk.2⟩, h.log, fun e => e.1.elim h4 (fun e => by omega), h5⟩,
   h.chg.sub fun k _ hk => hk.elim (fun e => (h2 k e).1) (fun e => by rw [e]; exact h5)⟩
theorem lappend_lx (h : LX A w g p st L) (hA : ∀ k, w.heap.size ≤ k → A k) (hok : st.Ok M) (hM : M < 1000000) (hs : L.size ≤ 1000000000) (v : Value) (xs : List UInt8) (hv : Bs w v xs) (hlen : xs.length ≤ 140737488355328) (r : St × Lg × Int) (hr : lapp st L xs = r) :
    Calls Try.prog 56 #[.pointer (some ⟨g, 0, none⟩), v] w fun e w' => e = .returned (.int .i64 r.2.2) ∧ LX A w' g p r.1 r.2.1 ∧ Chg A w w' := by
  obtain ⟨S, h1, h2, h3, h4, h5⟩ := h
  subst hr
  exact (lappend_any h3 h1 hok hM (fun k hk => (h2 k hk).2) h4 hs v xs hv hlen).mono fun e w' ⟨he, hp⟩ => ⟨he, LX.of h2 h4 h5 h3.lt hA hp⟩
theorem lcheck_lx (h : LX A w g p st L) (hA : ∀ k, w.heap.size ≤ k → A k) (hok : st.Ok M) (hM : M < 900000) (hL : LgOk L) (v : Value) (xs : List UInt8) (hv : Bs w v xs) (hlen : xs.length ≤ 140737488355328) (r : St × Lg × Int) (hr : lck st L xs = r) :
    Calls Try.prog 58 #[.pointer (some ⟨g, 0, none⟩), v] w fun e w' => e = .returned (.int .i64 r.2.2) ∧ LX A w' g p r.1 r.2.1 ∧ Chg A w w' := by
  obtain ⟨S, h1, h2, h3, h4, h5⟩ := h
  subst hr
  exact (lcheck_any h3 h1 hok hM (fun k hk => (h2 k hk).2) h4 hL v xs hv hlen).mono fun e w' ⟨he, hp⟩ => ⟨he, LX.of h2 h4 h5 h3.lt hA hp⟩
theorem format_dx {w0 : World} (h : DX A w0 p st) (hm : Mk w0 w) (hA : ∀ k, w.heap.size ≤ k → A k) (hok : st.Ok M) (hM : M < 900000) (cap slots : Int) (v : Value) (xs : List UInt8) (hv : Bs w v xs) (hlen : xs.length ≤ 140737488355328) (hX : ∀ k, v.ownBlock = some k → k < w0.heap.size → ¬ A k) (r : St × Int) (hr : fmtP st cap slots xs = r) :
    Calls Try.prog 52 #[.pointer (some ⟨p, 0, none⟩), .int .i64 cap, .int .i64 slots, v] w fun e w' => e = .returned (.int .i64 r.2) ∧ DX A w' p r.1 ∧ Chg A w w' := by
  obtain ⟨S, h1, h2⟩ := h
  subst hr
  refine (format_any (h1.made hm) hok hM (fun k hk => by have := (h2 k hk).2; have := hm.size; omega) cap slots v xs hv hlen (fun k hk hs => hX k hk (h2 k hs).2 (h2 k hs).1)).mono fun e w' ⟨he, hp, hc⟩ => ⟨he, ⟨_, PD.trim hp, fun k hk => ⟨hk.1.elim (fun e => (h2 k e).1) (hA k), hk.2⟩⟩, hc.sub fun k _ e => (h2 k e).1⟩
def lgOf (o : Opened) (falls : Nat) : Lg := ⟨o.gen, o.cap, o.slots, o.live, o.whole, falls⟩
/-- A class without what a call has made, but a log's block. -/
def Av (A : Nat → Prop) (w : World) (gl : Nat) (w' : World) : Nat → Prop := fun k => A k ∧ (k < w.heap.size ∨ k = gl ∨ w'.heap.size ≤ k)
/-- What Open tells, by classes. -/
def OpenX (A : Nat → Prop) (w : World) (p : Nat) (r : St × (Int ⊕ Opened)) (e : Ending) (w' : World) : Prop :=
  DX A w' p r.1 ∧ Chg A w w' ∧ match r.2 with
  | .inl n => e = .returned (.tuple #[.pointer none, .slice none 0 0, .slice none 0 0, .int .i64 n])
  | .inr o => ∃ gl sv rv rvs, e = .returned (.tuple #[.pointer (some ⟨gl, 0, none⟩), sv, rv, .int .i64 0]) ∧ w.heap.size ≤ gl ∧ LX (Av A w gl w') w' gl p r.1 (lgOf o r.1.falls) ∧
      Wr w.heap.size sv o.state w' ∧ w'.ownsRow w.heap.size 22 1 rv o.recs.length rvs ∧ EncR w' w.heap.size o.recs rvs ∧ (∀ dv ∈ rvs, ∀ k, dv.ownBlock = some k → sv.ownBlock ≠ some k)
theorem open_dx (h : DX A w p st) (hA : ∀ k, w.heap.size ≤ k → A k) (hok : st.Ok M) (hM : M < 999000) (r : St × (Int ⊕ Opened)) (hr : openP st = r) :
    Calls Try.prog 53 #[.pointer (some ⟨p, 0, none⟩)] w (OpenX A w p r) := by
  obtain ⟨S, h1, h2⟩ := h
  subst hr
  refine (open_any h1 hok hM (fun k hk => (h2 k hk).2)).mono fun e w' hp => ?_
  obtain ⟨hd, hc, hp⟩ := hp
  have hc' : Chg A w w' := hc.sub fun k _ e => (h2 k e).1
  have hd2 : ∀ k, S k → A k ∧ k < w'.heap.size := fun k hk => ⟨(h2 k hk).1, by have := (h2 k hk).2; have := hc.size; omega⟩
  unfold OpenX
  revert hp
  generalize openP st = r at *
  obtain ⟨s', o⟩ := r
  cases o with
  | inl n => intro hp; exact ⟨⟨S, hd, hd2⟩, hc', hp⟩
  | inr o =>
    rintro ⟨gl, sv, rv, rvs, he, hgl, hb, hrest⟩
    exact ⟨⟨S, hd, hd2⟩, hc', gl, sv, rv, rvs, he, hgl, ⟨S, hd, fun k hk => ⟨⟨(hd2 k hk).1, .inl (h2 k hk).2⟩, (hd2 k hk).2⟩, hb, fun e => by have := (h2 _ e).2; omega, hA _ hgl, .inr (.inl rfl)⟩, hrest⟩
theorem LX.log (h : LX A w g p st L) : Bk w g 175 (lgC p L) := by obtain ⟨S, _, _, h3, _⟩ := h; exact h3
theorem wr_sl {base : Nat} {v : Value} {xs : List UInt8} (h : Wr base v xs w) : Bs w v xs := by
  obtain ⟨n, rfl, ⟨rfl, h0⟩ | ⟨g, off, c, cur, rfl, h1, h2, h3, h4, h5, h6⟩⟩ := h
  · have := List.length_eq_zero_iff.1 h0
    subst this
    exact FrW.nil_bs w
  · refine ⟨by rw [bv_length]; omega, _, _, rfl, h1, h2, (fun e => by cases e), fun _ => ⟨g, off, rfl, fun j u hu => ?_⟩⟩
    rw [cell_of_row _ _ _ _ _ _ h4, ← hu, ← h6]
    have hj : j < xs.length := by have := (List.getElem?_eq_some_iff.1 hu).1; rw [bv_length] at this; exact this
    rw [List.getElem?_take, if_pos hj, List.getElem?_drop]
    simp
/-- A piece of a row of bytes is no block of another type. -/
theorem wr_ne {base g' : Nat} {t : TypeId} {cs : Array Value} {v : Value} {xs : List UInt8} (h : Wr base v xs w) (hb : Bk w g' t cs) (ht : t ≠ 5) : v.ownBlock ≠ some g' := by
  obtain ⟨n, rfl, ⟨rfl, h0⟩ | ⟨g, off, c, cur, rfl, h1, h2, h3, h4, h5, h6⟩⟩ := h
  · intro e; cases e
  · intro e
    cases e
    unfold Bk at hb
    rw [h4] at hb
    cases hb
    exact ht rfl
theorem lfits_lx (h : LX A w g p st L) (hs : L.size ≤ 1000000000) (n : Int) (b : Bool) (hb : fitsB st L n = b) : Calls Try.prog 106 #[.pointer (some ⟨g, 0, none⟩), .int .i64 n] w fun e w' => e = .returned (.bool b) ∧ Mk w w' := by
  obtain ⟨S, h1, h2, h3, h4, h5⟩ := h
  subst hb
  exact (lfits_any h3 h1 hs n).mono fun e w' ⟨he, m, hm⟩ => ⟨he, hm ▸ mk_drewN _ _⟩
theorem lbytes_lx (h : LX A w g p st L) (n : Nat) (hn : sizeL st L = n) : Calls Try.prog 55 #[.pointer (some ⟨g, 0, none⟩)] w fun e w' => e = .returned (.int .i64 (n : Int)) ∧ Mk w w' := by
  obtain ⟨S, h1, h2, h3, h4, h5⟩ := h
  subst hn
  exact (lbytes_any h3 h1).mono fun e w' ⟨he, m, hm⟩ => ⟨he, hm ▸ mk_drewN _ _⟩
end
theorem wsOk (s : St) (h1 : s.files.length = 2) (h2 : ∀ x ∈ s.files, x.2 ≤ x.1.length ∧ x.1.length ≤ 16777216) (h3 : s.falls = 0) (h4 : s.fuse = none) : s.Ok 0 :=
  ⟨⟨by omega, by omega, h2, by omega⟩, fun n k hk => by rw [h4] at hk; cases hk⟩
theorem ws0_ok : ws0.Ok 0 := fresh_ok 2 (by decide) (by decide)
theorem ws1_ok : ws1.Ok 0 := wsOk _ rfl (by intro x hx; simp [ws1] at hx; rcases hx with rfl | rfl <;> simp [wF1_len]) rfl rfl
theorem ws2_ok : ws2.Ok 0 := wsOk _ rfl (by intro x hx; simp [ws2] at hx; rcases hx with rfl | rfl <;> simp [wF1_len, FrW.frm_length]) rfl rfl
theorem ws3_ok : ws3.Ok 0 := wsOk _ rfl (by intro x hx; simp [ws3] at hx; rcases hx with rfl | rfl <;> simp [wF2_len]) rfl rfl
set_option maxHeartbeats 2000000 in
set_option maxRecDepth 100000 in
theorem wshown_any (w : World) : Calls Try.prog 46 #[] w fun e w' => e = .returned (.bool true) ∧ Mk w w' := by
  have kc := fun (w : World) (C : Array Value) (n c : Nat) => Lib.run_convert_bytes_const (P := Try.prog) w 22 5 C n c Try.underlying22 Try.underlying5
  go_enter Try.func46, Try.ntmps46
  go_wp2_with fail
  refine (new_dx (A := fun k => w.heap.size ≤ k) 2 (by decide) (by decide) (fun k h => h)).mono ?_
  rintro e w1 ⟨p, rfl, hd1, hm1⟩
  have hC1 : Chg (fun k => w.heap.size ≤ k) w w1 := Chg.of_mk hm1
  have Hd1 := Lib.hid hd1; have HC1 := Lib.hid hC1; clear hd1 hC1
  clear hm1
  go_wp2_with fail
  refine (open_dx Hd1.out (fun k hk => by have := HC1.out.size; omega) ws0_ok (by decide) _ ws_open0).mono ?_
  rintro e w2 ⟨hd2, hc2, rfl⟩
  have hC2 := HC1.out.trans hc2 fun _ _ e => e
  have Hd2 := Lib.hid hd2; have HC2 := Lib.hid hC2; clear hd2 hC2
  clear hc2 Hd1
  go_wp2_with fail
  have hS2 := HC2.out.size
  refine (format_dx Hd2.out (mk_alloc _ _) (fun k hk => by simp at hk; omega) ws0_ok (by decide) 1024 4 _ [97, 98] (FrW.new_bytes_m w2 [97, 98] #[.int .u8 97, .int .u8 98] 5 2 (2, 3) rfl rfl (by simp [maxLen]) (by omega)) (by decide) (new_own _) _ ws_format).mono ?_
  rintro e w3 ⟨rfl, hd3, hc3⟩
  have hC3 := (HC2.out.thenAlloc (.cells #[.int .u8 97, .int .u8 98] 5 (2, 3))).trans hc3 fun _ _ e => e
  have Hd3 := Lib.hid hd3; have HC3 := Lib.hid hC3; clear hd3 hC3
  clear hc3 Hd2
  dsimp only
  go_wp2_with fail
  refine (open_dx Hd3.out (fun k hk => by have := HC3.out.size; omega) ws1_ok (by decide) _ ws_open1).mono ?_
  rintro e w4 ⟨_, hc4, gl, sv, rv, rvs, rfl, hgl, hl4, hsv, hrv, _, _⟩
  have hC4 := HC3.out.trans hc4 fun _ _ e => e
  obtain ⟨ra, rn, rc, rfl⟩ := own_slice hrv
  have hrn : rn = 0 := by obtain ⟨_, a, c, h, _⟩ := own_sl hrv; cases h; rfl
  subst hrn
  have hne := wr_ne hsv hl4.log (by decide)
  have hbl : ∀ k, sv.ownBlock = some k → ¬ Av (fun k => w.heap.size ≤ k) w3 gl w4 k := fun k hk e => by
    have h1 := wr_lt hsv hk
    rcases e.2 with e | e | e
    · omega
    · subst e; exact hne hk
    · omega
  have hwk : ∀ w', Chg (Av (fun k => w.heap.size ≤ k) w3 gl w4) w4 w' → Wr w3.heap.size sv [97, 98] w' := fun w' hc => wr_keep hsv hc hbl
  have hA : ∀ w' : World, w4.heap.size ≤ w'.heap.size → ∀ k, w'.heap.size ≤ k → Av (fun k => w.heap.size ≤ k) w3 gl w4 k := fun w' h k hk => ⟨by have := hC4.size; omega, .inr (.inr (by omega))⟩
  have hZ : Chg (Av (fun k => w.heap.size ≤ k) w3 gl w4) w4 w4 := Chg.refl _ _
  have hBA : ∀ k, k < w.heap.size → Av (fun k => w.heap.size ≤ k) w3 gl w4 k → w.heap.size ≤ k := fun k _ h => h.1
  generalize Av (fun k => w.heap.size ≤ k) w3 gl w4 = B at *
  obtain ⟨sa, sc, rfl, _, _⟩ := (wr_sl hsv).form
  have HC4 := Lib.hid hC4; have Hl4 := Lib.hid hl4; have Hsv := Lib.hid hsv; have Hne := Lib.hid hne; have Hbl := Lib.hid hbl; have Hwk := Lib.hid hwk; have HA := Lib.hid hA; have HBA := Lib.hid hBA; clear hC4 hl4 hsv hne hbl hwk hA hBA
  clear hc4 Hd3 hrv
  go_wp2_with fail
  refine (lbytes_lx Hl4.out 35 rfl).mono ?_
  rintro e w5 ⟨rfl, hm5⟩
  have hl5 := Hl4.out.made hm5
  have hZ5 := hZ.thenMk hm5
  have Hl5 := Lib.hid hl5; have HZ5 := Lib.hid hZ5; clear hl5 hZ5
  clear hm5 hZ
  go_wp2_with fail
  refine (lappend_lx (Hl5.out.made (mk_alloc _ _)) (HA.out _ (by have := HZ5.out.size; simp; omega)) ws1_ok (by decide) (by decide) _ [120, 121, 122] (FrW.new_bytes_m w5 [120, 121, 122] #[.int .u8 120, .int .u8 121, .int .u8 122] 5 3 (3, 4) rfl rfl (by simp [maxLen]) (by omega)) (by decide) _ ws_app).mono ?_
  rintro e w6 ⟨rfl, hl6, hc6⟩
  have hZ6 := (HZ5.out.thenAlloc (.cells #[.int .u8 120, .int .u8 121, .int .u8 122] 5 (3, 4))).trans hc6 fun _ _ e => e
  have Hl6 := Lib.hid hl6; have HZ6 := Lib.hid hZ6; clear hl6 hZ6
  clear hc6 Hl5 HZ5
  dsimp only
  go_wp2_with fail
  refine (lbytes_lx Hl6.out 47 rfl).mono ?_
  rintro e w7 ⟨rfl, hm7⟩
  have hl7 := Hl6.out.made hm7
  have hZ7 := HZ6.out.thenMk hm7
  have Hl7 := Lib.hid hl7; have HZ7 := Lib.hid hZ7; clear hl7 hZ7
  clear hm7 Hl6 HZ6
  go_wp2_with fail
  refine (lfits_lx Hl7.out (by decide) 968 true (by decide)).mono ?_
  rintro e w8 ⟨rfl, hm8⟩
  have hl8 := Hl7.out.made hm8
  have hZ8 := HZ7.out.thenMk hm8
  have Hl8 := Lib.hid hl8; have HZ8 := Lib.hid hZ8; clear hl8 hZ8
  clear hm8 Hl7 HZ7
  go_wp2_with fail
  refine (lfits_lx Hl8.out (by decide) 969 false (by decide)).mono ?_
  rintro e w9 ⟨rfl, hm9⟩
  have hl9 := Hl8.out.made hm9
  have hZ9 := HZ8.out.thenMk hm9
  have Hl9 := Lib.hid hl9; have HZ9 := Lib.hid hZ9; clear hl9 hZ9
  clear hm9 Hl8 HZ8
  go_wp2_with fail
  refine (lcheck_lx (Hl9.out.made (mk_alloc _ _)) (HA.out _ (by have := HZ9.out.size; simp; omega)) ws2_ok (by decide) ⟨by decide, by decide, by decide, by decide, by decide⟩ _ [113] (FrW.new_bytes_m w9 [113] #[.int .u8 113] 5 1 (1, 2) rfl rfl (by simp [maxLen]) (by omega)) (by decide) _ ws_chk).mono ?_
  rintro e w10 ⟨rfl, hl10, hc10⟩
  have hZ10 := (HZ9.out.thenAlloc (.cells #[.int .u8 113] 5 (1, 2))).trans hc10 fun _ _ e => e
  have Hl10 := Lib.hid hl10; have HZ10 := Lib.hid hZ10; clear hl10 hZ10
  clear hc10 Hl9 HZ9
  dsimp only
  go_wp2_with (first | (refine wpList_make_zeros (P := Try.prog) Try.underlying22 FrW.info5 rfl (.const (.int .i64 992)) (.const (.int .i64 992)) rfl _ _ 992 rfl rfl rfl rfl (by decide) ?_; intro w11 ho11 hm11; have Ho11 := Lib.hid ho11; have Hm11 := Lib.hid hm11; clear ho11 hm11) | fail)
  refine (lcheck_lx (Hl10.out.made Hm11.out) (HA.out _ (by have := HZ10.out.size; have := Hm11.out.size; omega)) ws3_ok (by decide) ⟨by decide, by decide, by decide, by decide, by decide⟩ _ (List.replicate 992 0) (by have := own_sl Ho11.out; rw [Bs, List.length_replicate]; exact this) (by rw [List.length_replicate]; decide) _ ws_chk2).mono ?_
  rintro e w12 ⟨rfl, hl12, hc12⟩
  have hZ12 := (HZ10.out.thenMk Hm11.out).trans hc12 fun _ _ e => e
  have k1 : (convert 22 9 (.slice sa 2 sc)).run Try.prog w12 = .ok (.string ⟨#[97, 98]⟩) w12 := FrW.str_of (wr_sl (Hwk.out _ hZ12))
  have hdx := hl12.dx
  have hb12 := hl12.log
  have Hl12 := Lib.hid hl12; have HZ12 := Lib.hid hZ12; have Hdx := Lib.hid hdx; have Hb12 := Lib.hid hb12; clear hl12 hZ12 hdx hb12
  clear hc12 Hl10 HZ10
  dsimp only
  go_wp2_with (first | (go_at_call 55; refine (lbytes_lx Hl12.out 34 rfl).mono ?_; rintro e w13 ⟨rfl, hm13⟩; have Hl13 := Lib.hid (Hl12.out.made hm13); have Hm13 := Lib.hid hm13; clear hm13) | (go_at_call 107; refine Calls.mono (show Calls Try.prog 107 _ _ (fun e w' => e = .returned (.int .u64 2) ∧ _ = w') from lgen_any Hl13.out.log) ?_; rintro e w' ⟨rfl, rfl⟩) | (go_at_call 108; refine Calls.mono (show Calls Try.prog 108 _ _ (fun e w' => e = .returned (.int .i64 4) ∧ _ = w') from lslots_any Hl13.out.log) ?_; rintro e w' ⟨rfl, rfl⟩) | (go_at_call 109; refine Calls.mono (show Calls Try.prog 109 _ _ (fun e w' => e = .returned (.int .i64 1024) ∧ _ = w') from lcap_any Hl13.out.log) ?_; rintro e w' ⟨rfl, rfl⟩) | (go_at_call 83; refine (size_dx Hl13.out.dx (mk_refl _) 0 0 rfl).mono ?_; rintro e w' ⟨rfl, rfl⟩) | (go_at_call 110; refine Calls.mono (show Calls Try.prog 110 _ _ (fun e w' => e = .returned (.int .i64 35) ∧ _ = w') from weight_any _ 2) ?_; rintro e w' ⟨rfl, rfl⟩) | fail)
  go_ret
  refine ⟨rfl, ?_⟩
  have hc := HC4.out.trans HZ12.out HBA.out
  exact (hc.thenMk Hm13.out).to_mk fun k hk h => by omega
end Go.Proofs.WlW
