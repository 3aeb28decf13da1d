/- Plain laws on frames: what was put is read; a beginning of a frame is none; a frame of which a byte is turned is none of that length. -/
import Derived.Test.YtcfjdldlcdomgaaFrL
namespace Go.Proofs.FrW
open Go Go.Tk

theorem le4_by4 (n : Nat) (hn : n < 4294967296) (r : List UInt8) : le4? (by4 n ++ r) = n := by
  simp only [by4, List.cons_append, le4?, le4, UInt8.toNat_ofNat', Nat.reducePow]
  omega
theorem body_len (k : UInt8) (dat : List UInt8) : (bodyOf k dat).length = 5 + dat.length := by simp [bodyOf, by4_length]; omega
theorem frm_eq (k : UInt8) (dat : List UInt8) : frm k dat = k :: (by4 dat.length ++ (dat ++ by4 (Fr.crc (bodyOf k dat)))) := by simp [frm, bodyOf]
theorem frame_put (k : UInt8) (dat r : List UInt8) (h : dat.length ≤ 4194304) : frameOf (frm k dat ++ r) = some (k, dat, dat.length + 9) := by
  have e1 : (frm k dat ++ r).drop 1 = by4 dat.length ++ (dat ++ (by4 (Fr.crc (bodyOf k dat)) ++ r)) := by rw [frm_eq]; simp
  have e2 : le4? ((frm k dat ++ r).drop 1) = dat.length := by rw [e1]; exact le4_by4 _ (by omega) _
  have e3 : (frm k dat ++ r).take (5 + dat.length) = bodyOf k dat := by
    rw [frm, List.append_assoc, List.take_append_of_le_length (by rw [body_len]; omega), List.take_of_length_le (by rw [body_len]; omega)]
  have e4 : (frm k dat ++ r).drop (5 + dat.length) = by4 (Fr.crc (bodyOf k dat)) ++ r := by
    rw [frm, List.append_assoc, ← body_len k, List.drop_left]
  have hl : (frm k dat ++ r).length = dat.length + 9 + r.length := by rw [List.length_append, frm_length]
  rw [frame_some (by omega) (by rw [e2]; omega) (by rw [e2]; omega) (by rw [e2, e3, e4]; exact le4_by4 _ (Fr.crc_lt _) _), e2, e3]
  have e5 : (bodyOf k dat).drop 5 = dat := by simp [bodyOf, by4]
  have e6 : (frm k dat ++ r).head?.getD 0 = k := by rw [frm_eq]; rfl
  rw [e5, e6, Nat.add_comm]
theorem le4_more (xs ys : List UInt8) (h : 4 ≤ xs.length) : le4? (xs ++ ys) = le4? xs := by
  match xs, h with
  | a :: b :: c :: d :: r, _ => rfl
  | [], h => simp at h
  | [_], h => simp at h
  | [_, _], h => simp at h
  | [_, _, _], h => simp at h
theorem torn_short (k : UInt8) (dat : List UInt8) (j : Nat) (h : dat.length ≤ 4194304) (hj : j < dat.length + 9) : frameOf ((frm k dat).take j) = none := by
  have hl : ((frm k dat).take j).length = j := by rw [List.length_take, frm_length]; omega
  unfold frameOf
  by_cases h9 : j < 9
  · rw [if_pos (by omega)]
  · have e : le4? (((frm k dat).take j).drop 1) = dat.length := by
      have e1 : (frm k dat).drop 1 = ((frm k dat).take j).drop 1 ++ (frm k dat).drop j := by
        have := List.take_append_drop j (frm k dat)
        conv => lhs; rw [← this]
        rw [List.drop_append_of_le_length (by omega)]
      have e2 : le4? ((frm k dat).drop 1) = dat.length := by rw [frm_eq]; exact le4_by4 _ (by omega) _
      rw [e1, le4_more _ _ (by rw [List.length_drop]; omega)] at e2
      exact e2
    rw [if_neg (by omega), e, if_neg (by omega), if_pos (by omega)]
theorem frame_inv {xs : List UInt8} {k : UInt8} {d : List UInt8} {n : Nat} (h : frameOf xs = some (k, d, n)) : ∃ m, n = 9 + m ∧ le4? (xs.drop (5 + m)) = Fr.crc (xs.take (5 + m)) := by
  unfold frameOf at h
  split at h
  · cases h
  · split at h
    · cases h
    · split at h
      · cases h
      · split at h
        · rename_i h4
          simp only [Option.some.injEq, Prod.mk.injEq] at h
          exact ⟨_, h.2.2.symm, h4⟩
        · cases h
theorem le4_set : ∀ (t : List UInt8) (j : Nat) (x : UInt8) (hj : j < t.length), t.length = 4 → le4? (t.set j x) = le4? t → x = t[j] := by
  intro t j x hj hl h
  match t, hl with
  | [a, b, c, d], _ =>
    have ha := a.toNat_lt; have hb := b.toNat_lt; have hc := c.toNat_lt; have hd := d.toNat_lt; have hx := x.toNat_lt
    simp only [List.length_cons, List.length_nil] at hj
    apply UInt8.toNat_inj.1
    match j, hj with
    | 0, _ => simp only [List.set, le4?, le4, List.getElem_cons_zero] at h ⊢; omega
    | 1, _ => simp only [List.set, le4?, le4, List.getElem_cons_zero, List.getElem_cons_succ] at h ⊢; omega
    | 2, _ => simp only [List.set, le4?, le4, List.getElem_cons_zero, List.getElem_cons_succ] at h ⊢; omega
    | 3, _ => simp only [List.set, le4?, le4, List.getElem_cons_zero, List.getElem_cons_succ] at h ⊢; omega
theorem torn_turned (k : UInt8) (dat : List UInt8) (i : Nat) (x : UInt8) (h : dat.length ≤ 4194304) (hi : i < (frm k dat).length) {k' : UInt8} {d' : List UInt8} {n : Nat}
    (hf : frameOf ((frm k dat).set i x) = some (k', d', n)) (hn : n = dat.length + 9) : x = (frm k dat)[i] := by
  obtain ⟨m, hm, hs⟩ := frame_inv hf
  obtain rfl : m = dat.length := by omega
  have hbl := body_len k dat
  have hfl := frm_length k dat
  by_cases hb : i < (bodyOf k dat).length
  · have e : (frm k dat).set i x = (bodyOf k dat).set i x ++ by4 (Fr.crc (bodyOf k dat)) := by rw [frm, List.set_append_left _ _ hb]
    have hl' : ((bodyOf k dat).set i x).length = 5 + dat.length := by rw [List.length_set]; exact hbl
    rw [e, ← hl', List.drop_left, List.take_left, ← List.append_nil (by4 _), le4_by4 _ (Fr.crc_lt _)] at hs
    have hg : (frm k dat)[i] = (bodyOf k dat)[i] := by simp only [frm]; rw [List.getElem_append_left hb]
    rw [hg]
    have e1 : bodyOf k dat = (bodyOf k dat).take i ++ (bodyOf k dat)[i] :: (bodyOf k dat).drop (i + 1) := by simp
    have e2 : (bodyOf k dat).set i x = (bodyOf k dat).take i ++ x :: (bodyOf k dat).drop (i + 1) := by rw [List.set_eq_take_append_cons_drop, if_pos hb]
    rw [e2] at hs
    conv at hs => lhs; rw [e1]
    exact (Fr.crc_turned _ _ _ _ hs).symm
  · have e : (frm k dat).set i x = bodyOf k dat ++ (by4 (Fr.crc (bodyOf k dat))).set (i - (bodyOf k dat).length) x := by rw [frm, List.set_append_right _ _ (by omega)]
    rw [e, ← hbl, List.drop_left, List.take_left] at hs
    have hj : i - (bodyOf k dat).length < (by4 (Fr.crc (bodyOf k dat))).length := by rw [by4_length]; omega
    have hg : (frm k dat)[i] = (by4 (Fr.crc (bodyOf k dat)))[i - (bodyOf k dat).length] := by simp only [frm]; rw [List.getElem_append_right (by omega)]
    rw [hg]
    refine le4_set _ _ _ hj rfl (hs.trans ?_)
    have := le4_by4 (Fr.crc (bodyOf k dat)) (Fr.crc_lt _) []
    rw [List.append_nil] at this
    exact this.symm
end Go.Proofs.FrW
