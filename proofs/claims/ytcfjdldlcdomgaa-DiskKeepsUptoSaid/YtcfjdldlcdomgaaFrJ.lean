/- The walks of layer 5, frame: the document's examples. -/
import Derived.Test.YtcfjdldlcdomgaaFrI
import Derived.Lib.SlBytesConst
import Derived.Laws.IdiomStrings
import Derived.Laws.BytesArg
import Derived.Laws.BytesString
namespace Go.Proofs.FrW
open Go Go.RowKit Go.Tk Go.Sp Go.Rg Go.Lib Go.Shelf

theorem new_bytes_m (w : World) (ys : List UInt8) (cs : Array Value) (e : TypeId) (k : Nat) (fr : Nat × Nat) (hk : k = ys.length) (h : cs.toList = bv ys) (hm : k ≤ maxLen) (hp : 0 < k) :
    Sl (w.alloc (.cells cs e fr)) 1 (.slice (some ⟨w.heap.size, 0, none⟩) k k) k (bv ys) := by
  refine ⟨by rw [bv_length]; omega, _, _, rfl, Nat.le_refl _, hm, (fun h => by cases h), fun _ => ⟨_, _, rfl, fun j u hu => ?_⟩⟩
  rw [World.cell?_alloc_mark, Nat.zero_add, ← Array.getElem?_toList, h]
  exact hu
theorem Sl.taken {w : World} {a : Option Addr} {n c : Nat} {xs : List UInt8} (h : Bs w (.slice a n c) xs) (k : Nat) (hk : k ≤ xs.length) : Bs w (.slice a k c) (xs.take k) := by
  obtain ⟨hl, a', c', he, h1, h2, h3, hc⟩ := h
  cases he
  have hkl : (xs.take k).length = k := by simp; omega
  refine ⟨by rw [bv_length]; omega, a, c, by rw [hkl], by omega, h2, h3, fun hp => ?_⟩
  obtain ⟨b, off, rfl, hd⟩ := hc (by omega)
  refine ⟨b, off, rfl, fun j u hu => hd j u ?_⟩
  unfold bv at hu ⊢
  rw [List.map_take] at hu
  rw [List.getElem?_take] at hu
  split at hu
  · exact hu
  · cases hu
theorem str_of {w : World} {a : Option Addr} {n c : Nat} {xs : List UInt8} (h : Sl w 1 (.slice a n c) n (bv xs)) : (convert 22 9 (.slice a n c)).run Try.prog w = .ok (.string ⟨xs.toArray⟩) w := by
  have hl : xs.length = n := by have := h.1; rw [bv_length] at this; omega
  rcases Nat.eq_zero_or_pos n with h0 | h0
  · subst h0
    have : xs = [] := List.length_eq_zero_iff.1 hl
    subst this
    rw [run_convert_bytes_string w 22 9 5 a 0 c Try.underlying22 Try.underlying5 (by kernel_rfl)]
    cases a <;> simp [Conv.bytesToString, loadCells]
    all_goals rfl
  · obtain ⟨b, off, rfl, hd⟩ := h.cellAt h0
    subst hl
    exact run_convert_bytes_back w 22 9 5 _ c xs Try.underlying22 Try.underlying5 (by kernel_rfl) (fun j hj => by have := hd j _ (bv_get xs j hj); by_cases h : j = 0 <;> simp_all [Addr.add])
def shB : List UInt8 := [7, 2, 0, 0, 0, 97, 98, 105, 26, 89, 202]
theorem shB_eq : frm 7 [97, 98] = shB := by decide +kernel
theorem shGet : frameOf (shB ++ [1, 2, 3]) = some (7, [97, 98], 11) := by decide +kernel
theorem shNone : frameOf (shB.take 10) = none := by decide +kernel
theorem shOne : frameOf shB = some (7, [97, 98], 11) := by decide +kernel
theorem shFrames : framesOf shB = [(7, [97, 98])] := by
  rw [framesOf_some shOne, show shB.drop 11 = [] from rfl, framesOf_none (by decide +kernel)]

set_option maxRecDepth 100000 in
theorem shown_any (w : World) : Calls Try.prog 15 #[] w fun e w' => e = .returned (.bool true) ∧ Mk w w' := by
  have kc := fun (w : World) (C : Array Value) (n c : Nat) => Lib.run_convert_bytes_const (P := Try.prog) w 22 5 C n c Try.underlying22 Try.underlying5
  go_enter Try.func15, Try.ntmps15
  go_wp2_with fail
  refine (Put_any _ (.slice none 0 0) _ [] [97, 98] 7 (nil_bs _) (new_bytes_m w [97, 98] #[.int .u8 97, .int .u8 98] 5 2 (2, 3) rfl rfl (by simp [maxLen]) (by omega)) (by simp) (by simp)).mono ?_
  intro e w1 hp
  unfold PutPost at hp
  rw [if_neg (by simp), List.nil_append, shB_eq] at hp
  obtain ⟨hm1, v1, rfl, ho1⟩ := hp
  rw [show shB.length = 11 from rfl] at ho1
  have ho1' := own_base ho1 (base' := w.heap.size) (by simp)
  obtain ⟨g1, c1, rfl, hc1, hc2, hg1, hg2⟩ := own_form ho1' (by decide)
  have HO1 := Lib.hid ho1'
  have HM1 := Lib.hid (mk_trans (mk_alloc w _) hm1)
  clear ho1 hm1 ho1' hg1 hg2 hc2
  go_wp2_with (first | (at_builtin; refine wpList_append_bytes (P := Try.prog) Try.underlying22 info5 rfl (.tmp 16) (.tmp 17) rfl rfl (lit_own w1 #[] 5 (by simp [maxLen])) rfl ((own_sl HO1.out).mk (mk_alloc _ _)) (bv_one _) (by simp) (by simp) ?_; intro v2 w2 ho2 hg2 hn hf; clear hn hf; have HO2 := Lib.hid (show w2.ownsRow w1.heap.size 5 1 v2 11 (bv shB) by simpa using ho2); have HM2 := Lib.hid (mk_own (mk_alloc w1 _) (lit_own w1 #[] 5 (by simp [maxLen])) hg2); clear ho2 hg2) | (at_builtin; refine wpList_append_bytes (P := Try.prog) Try.underlying22 info5 rfl (.tmp 18) (.tmp 19) rfl rfl (HO2.out.alloc _) rfl (new_bytes w2 [1, 2, 3] _ 5 3 rfl rfl (by simp [maxLen])) (bv_one _) (by simp) (by have := HM2.out.size; simp; omega) ?_; intro v3 w3 ho3 hg3 hn hf; clear hn hf; rw [← bv_append] at ho3; have HO3 := Lib.hid ho3; have HM3 := Lib.hid (mk_own HM2.out HO2.out (alloc_grown hg3)); clear ho3 hg3))
  refine (Get_any _ _ (shB ++ [1, 2, 3]) (own_sl HO3.out) (by decide)).mono ?_
  intro e w4 hp
  unfold GetPost at hp
  rw [shGet] at hp
  dsimp only at hp
  obtain ⟨hm4, v4, ho4, rfl⟩ := hp
  obtain ⟨g4, c4, rfl, hc41, hc42, hg41, hg42⟩ := own_form ho4 (by decide)
  have HO4 := Lib.hid ho4
  have HM4 := Lib.hid hm4
  clear ho4 hm4 hc42 hg41 hg42 hc41
  go_wp2_with fail
  refine (Get_any _ _ (shB.take 10) (Sl.taken ((own_sl HO1.out).mk (mk_trans HM3.out HM4.out)) 10 (by decide)) (by decide)).mono ?_
  intro e w5 hp
  unfold GetPost at hp
  rw [shNone] at hp
  dsimp only at hp
  obtain ⟨hm5, v5, ho5, rfl⟩ := hp
  have HM5 := Lib.hid (mk_trans (mk_trans HM3.out HM4.out) hm5)
  have HB := Lib.hid ((own_sl HO1.out).mk HM5.out)
  have k1 := str_of (Sl.taken HB.out 7 (by decide))
  have k2 := str_of ((own_sl HO4.out).mk hm5)
  rw [show [(97 : UInt8), 98].length = 2 from rfl] at k2
  rw [show shB.take 7 = [7, 2, 0, 0, 0, 97, 98] from rfl] at k1
  clear ho5 hm5 kc
  go_wp2_with (first | (go_at_call 20; refine (size_any _ _).mono ?_; rintro e w' ⟨rfl, rfl⟩; first | rw [show sizeF 2 = 11 from rfl] | rw [show sizeF (-1) = 0 from rfl]) | (go_at_call 26; refine (whole_any _ _ shB HB.out (by decide)).mono ?_; rw [shFrames]; rintro e w6 ⟨rfl, hm6⟩; rw [show wholeOf [(7, [97, 98])] = 11 from rfl]; have HM6 := Lib.hid hm6; clear hm6))
  go_ret
  exact ⟨rfl, mk_trans HM1.out (mk_trans HM5.out HM6.out)⟩
#print axioms shown_any
end Go.Proofs.FrW
