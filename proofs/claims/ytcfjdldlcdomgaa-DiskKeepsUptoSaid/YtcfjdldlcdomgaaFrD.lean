/- The walks of layer 5, frame: the frame with which bytes begin. -/
import Derived.Test.YtcfjdldlcdomgaaFrC
namespace Go.Proofs.FrW
open Go Go.RowKit Go.Tk

theorem sub_addr {w : World} {a : Option Addr} {n cap : Nat} {vs : List Value} (h : Sl w 1 (.slice a n cap) n vs) (lo hi c : Nat) (h1 : lo ≤ hi) (h2 : hi ≤ n) (h3 : hi ≤ c) (h4 : c ≤ cap) :
    Sl w 1 (.slice (if c = lo then a else a.map (·.add lo)) (hi - lo) (c - lo)) (hi - lo) ((vs.take hi).drop lo) := by
  have hh := h
  obtain ⟨hl, a', cap', he, hc1, hc2, hc3, hc4⟩ := h
  cases he
  refine ⟨by simp; omega, _, _, rfl, by omega, by omega, ?_, ?_⟩
  · intro hn
    split at hn
    · have := hc3 hn; omega
    · have : a = none := by cases a <;> simp_all
      have := hc3 this; omega
  · intro hp
    obtain ⟨b, off, rfl, hd⟩ := hc4 (by omega)
    refine ⟨b, off + lo, ?_, ?_⟩
    · rw [if_neg (by omega)]
      unfold Addr.add
      by_cases h0 : lo = 0 <;> simp [h0]
    · intro j u hu
      rw [List.getElem?_drop, List.getElem?_take] at hu
      split at hu
      · have := hd (lo + j) u hu
        rwa [← Nat.add_assoc] at this
      · cases hu

theorem sub_some {w : World} {b off n cap : Nat} {xs : List UInt8} (h : Bs w (.slice (some ⟨b, off, none⟩) n cap) xs) (hn : n = xs.length) (lo hi m c off' : Nat) (h1 : lo ≤ hi) (h2 : hi ≤ n) (hm : m = hi - lo) (hc : m ≤ c) (hc2 : c ≤ maxLen) (ho : off' = off + lo) :
    Bs w (.slice (some ⟨b, off', none⟩) m c) ((xs.take hi).drop lo) := by
  subst hn hm ho
  have hl : ((xs.take hi).drop lo).length = hi - lo := by simp; omega
  refine ⟨by simp [bv_length], _, _, by rw [hl], by omega, hc2, (fun h => by cases h), fun hp => ⟨b, off + lo, rfl, fun j u hu => ?_⟩⟩
  obtain ⟨b', off'', he, hd⟩ := h.cellAt (by omega)
  cases he
  have e : (bv ((xs.take hi).drop lo))[j]? = (bv xs)[lo + j]? := by
    have : j < hi - lo := by
      have := (List.getElem?_eq_some_iff.1 hu).1
      rw [bv_length, hl] at this; exact this
    simp only [bv, List.getElem?_map, List.getElem?_drop, List.getElem?_take]
    rw [if_pos (by omega)]
  rw [e] at hu
  have := hd (lo + j) u hu
  rwa [← Nat.add_assoc] at this

def le4? : List UInt8 → Nat
  | a :: b :: c :: d :: _ => le4 a b c d
  | _ => 0
theorem le4_lt (a b c d : UInt8) : le4 a b c d < 4294967296 := by
  have ha := a.toNat_lt; have hb := b.toNat_lt; have hc := c.toNat_lt; have hd := d.toNat_lt
  unfold le4; omega
/-- The frame with which bytes begin: kind, data, how many bytes it has. -/
def frameOf (xs : List UInt8) : Option (UInt8 × List UInt8 × Nat) :=
  if xs.length < 9 then none
  else if 4194304 < le4? (xs.drop 1) then none
  else if xs.length < le4? (xs.drop 1) + 9 then none
  else if le4? (xs.drop (5 + le4? (xs.drop 1))) = Fr.crc (xs.take (5 + le4? (xs.drop 1))) then some (xs.head?.getD 0, (xs.take (5 + le4? (xs.drop 1))).drop 5, 9 + le4? (xs.drop 1))
  else none
def FirstPost (xs : List UInt8) (w : World) (e : Ending) (w' : World) : Prop :=
  Mk w w' ∧ match frameOf xs with
  | none => e = .returned (.tuple #[.int .u8 0, .slice none 0 0, .int .i64 0])
  | some (k, dat, n) => ∃ dv, e = .returned (.tuple #[.int .u8 (k.toNat : Int), dv, .int .i64 (n : Int)]) ∧ Bs w dv dat

theorem frame_some {xs : List UInt8} (h1 : ¬ xs.length < 9) (h2 : ¬ 4194304 < le4? (xs.drop 1)) (h3 : ¬ xs.length < le4? (xs.drop 1) + 9)
    (h4 : le4? (xs.drop (5 + le4? (xs.drop 1))) = Fr.crc (xs.take (5 + le4? (xs.drop 1)))) :
    frameOf xs = some (xs.head?.getD 0, (xs.take (5 + le4? (xs.drop 1))).drop 5, 9 + le4? (xs.drop 1)) := by
  unfold frameOf; rw [if_neg h1, if_neg h2, if_neg h3, if_pos h4]
theorem ret3 {k d : Value} {a b : Int} (h : a = b) : Ending.returned (.tuple #[k, d, .int .i64 a]) = .returned (.tuple #[k, d, .int .i64 b]) := by rw [h]
theorem bs_empty (w : World) (a : Addr) : Bs w (.slice (some a) 0 0) [] :=
  ⟨rfl, _, _, rfl, Nat.le_refl _, Nat.zero_le _, (fun h => by cases h), fun hp => absurd hp (by simp)⟩
theorem get_le4 (w : World) (v : Value) (xs : List UInt8) (h : Bs w v xs) (hl : 4 ≤ xs.length) :
    Calls Try.prog 143 #[v] w fun e w' => e = .returned (.int .u32 (le4? xs : Int)) ∧ ∃ m, w.drewN m = w' := by
  match xs, h, hl with
  | a :: b :: c :: d :: r, h, _ => exact get_any w v a b c d r h
  | [], _, hl => simp at hl
  | [_], _, hl => simp at hl
  | [_, _], _, hl => simp at hl
  | [_, _, _], _, hl => simp at hl

set_option maxRecDepth 100000 in
theorem first_any (w : World) (v : Value) (xs : List UInt8) (h : Bs w v xs) (hb : xs.length ≤ 140737488355328) :
    Calls Try.prog 78 #[v] w (FirstPost xs w) := by
  obtain ⟨a, cap, rfl, hc1, hc2⟩ := h.form
  have H := Lib.hid h
  have HBd := Lib.hid hb
  clear h hb
  by_cases h9 : xs.length < 9
  · go_enter Try.func78, Try.ntmps78
    go_wp2
    go_ret3
    exact ⟨mk_refl _, by unfold frameOf; rw [if_pos h9]; rfl⟩
  · have hlen : 9 ≤ xs.length := by omega
    obtain ⟨b, off, rfl, _⟩ := H.out.cellAt (by omega)
    have h91 : (9 : Int) ≤ (xs.length : Int) := by omega
    have hcap1 : ¬ cap = 1 := by omega
    clear h9
    have hcap := hc2
    clear hc2
    have HS1 : Hid (Bs w (.slice (some ⟨b, off + 1, none⟩) (xs.length - 1) (cap - 1)) (xs.drop 1)) := by
      have := sub_some H.out rfl 1 xs.length (xs.length - 1) (cap - 1) (off + 1) (by omega) (by omega) rfl (by omega) (by omega) rfl
      rwa [List.take_length] at this
    obtain ⟨n, hn⟩ : ∃ n, n = le4? (xs.drop 1) := ⟨_, rfl⟩
    have Hn := Lib.hid hn
    clear hn
    have hnl : n < 4294967296 := by
      rw [Hn.out]; unfold le4?; split
      · exact le4_lt _ _ _ _
      · decide
    have hxl := HBd.out
    by_cases hbig : 4194304 < n
    · go_enter Try.func78, Try.ntmps78
      go_wp2_with fail
      refine (get_le4 w _ (xs.drop 1) HS1.out (by simp; omega)).mono ?_
      rw [← Hn.out]
      rintro e w1 ⟨rfl, m1, rfl⟩
      go_wp2
      go_ret3
      exact ⟨mk_drewN _ _, by unfold frameOf; rw [if_neg (by omega), if_pos (by rw [← Hn.out]; exact hbig)]; rfl⟩
    · by_cases hshort : xs.length < n + 9
      · go_enter Try.func78, Try.ntmps78
        go_wp2_with fail
        refine (get_le4 w _ (xs.drop 1) HS1.out (by simp; omega)).mono ?_
        rw [← Hn.out]
        rintro e w1 ⟨rfl, m1, rfl⟩
        go_wp2
        go_ret3
        exact ⟨mk_drewN _ _, by unfold frameOf; rw [if_neg (by omega), ← Hn.out, if_neg hbig, if_pos hshort]; rfl⟩
      · have hs1 : n + 9 ≤ xs.length := by omega
        have hb1 : n ≤ 4194304 := by omega
        clear hbig hshort
        have hcap5 : ¬ cap = 5 + n := by omega
        have hcap5' : ¬ cap = n + 5 := by omega
        have HSE : Hid (Bs w (.slice (some ⟨b, off + (5 + n), none⟩) (xs.length - (5 + n)) (cap - (5 + n))) (xs.drop (5 + n))) := by
          have := sub_some H.out rfl (5 + n) xs.length (xs.length - (5 + n)) (cap - (5 + n)) (off + (5 + n)) (by omega) (by omega) rfl (by omega) (by omega) rfl
          rwa [List.take_length] at this
        have HSP : Hid (Bs w (.slice (some ⟨b, off, none⟩) (5 + n) cap) (xs.take (5 + n))) := by
          have := sub_some H.out rfl 0 (5 + n) (5 + n) cap off (by omega) (by omega) (by omega) (by omega) (by omega) rfl
          rwa [List.drop_zero] at this
        have Hel : Hid ((xs.drop (5 + n)).length = xs.length - (5 + n)) := by show _ = _; simp
        have Hpl : Hid ((xs.take (5 + n)).length = 5 + n) := by show _ = _; simp; omega
        go_enter Try.func78, Try.ntmps78
        go_wp2_with fail
        refine (get_le4 w _ (xs.drop 1) HS1.out (by simp; omega)).mono ?_
        rw [← Hn.out]
        rintro e w1 ⟨rfl, m1, rfl⟩
        go_wp2_with fail
        refine wp_region_mk (by kernel_rfl) (by kernel_rfl) ?_
        intro C hC1 hC2 hne
        repeat (go_big_quiet_step ((first | exact (fun _ => rfl) | (intro hw; go_at_call 143; exact (get_le4 _ _ _ (HSE.out.mk (mk_trans (mk_drewN w m1) (hC1.out _ hw))) (by rw [Hel.out]; omega)).mono fun e w2 ⟨he, m, hm⟩ => ⟨he, hC2.out _ _ hw (by subst hm; exact mk_drewN _ _)⟩) | (intro hw; go_at_call 76; exact (crc_any _ _ _ (HSP.out.mk (mk_trans (mk_drewN w m1) (hC1.out _ hw))) (by rw [Hpl.out]; omega)).mono fun e w2 ⟨he, hm⟩ => ⟨he, hC2.out _ _ hw hm⟩))))
        refine wpQuiet_nil ?_
        intro w3 hw3
        have M3 := Lib.hid (mk_trans (mk_drewN w m1) (hC1.out _ hw3))
        clear hw3 hne hC1 hC2
        have hi0 : (0 : Int) < (xs.length : Int) := by omega
        have hcell : w3.cell? ⟨b, off, none⟩ = some (.int .u8 ((xs.head?.getD 0).toNat : Int)) := by
          obtain ⟨b', off', he, hd⟩ := bs_at (H.out.mk M3.out) 0 (by omega)
          cases he
          rw [Nat.add_zero] at hd
          rw [hd]
          match xs, hlen with
          | x :: r, _ => rfl
        by_cases heq : le4? (xs.drop (5 + n)) = Fr.crc (xs.take (5 + n))
        · have hb : ((le4? (xs.drop (5 + n)) : Int) != (Fr.crc (xs.take (5 + n)) : Int)) = false := by rw [heq]; simp
          have Heq := Lib.hid heq
          clear heq
          by_cases hn0 : n = 0
          · go_wp2
            go_quiet (fail)
            go_wp2
            go_ret3
            refine ⟨mk_trans M3.out (mk_drewN _ _), ?_⟩
            rw [frame_some (by omega) (by rw [← Hn.out]; omega) (by rw [← Hn.out]; omega) (by rw [← Hn.out]; exact Heq.out), ← Hn.out]
            refine ⟨_, ret3 (by omega), ?_⟩
            subst hn0
            rw [show (xs.take (5 + 0)).drop 5 = [] from List.drop_eq_nil_of_le (by simp; omega)]
            exact bs_empty _ _
          · have hq : ¬ (5 + n = 5) := by omega
            go_wp2
            go_quiet (fail)
            go_wp2
            go_ret3
            refine ⟨mk_trans M3.out (mk_drewN _ _), ?_⟩
            rw [frame_some (by omega) (by rw [← Hn.out]; omega) (by rw [← Hn.out]; omega) (by rw [← Hn.out]; exact Heq.out), ← Hn.out]
            refine ⟨_, ret3 (by omega), ?_⟩
            exact sub_some H.out rfl 5 (5 + n) (5 + n - 5) (5 + n - 5) (off + 5) (by omega) (by omega) rfl (by omega) (by omega) rfl
        · have hb : ((le4? (xs.drop (5 + n)) : Int) != (Fr.crc (xs.take (5 + n)) : Int)) = true := by simp; omega
          have Heq := Lib.hid heq
          clear heq
          go_wp2
          go_ret3
          exact ⟨M3.out, by unfold frameOf; rw [if_neg (by omega), ← Hn.out, if_neg (by omega), if_neg (by omega), if_neg Heq.out]; rfl⟩
end Go.Proofs.FrW
