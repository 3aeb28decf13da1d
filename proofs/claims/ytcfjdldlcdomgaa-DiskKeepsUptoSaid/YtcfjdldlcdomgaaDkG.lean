/- Layer 4, disk: the walks of the statement DiskKeeps' own words. -/
import Derived.Test.YtcfjdldlcdomgaaDkF
import Derived.Test.YtcfjdldlcdomgaaFrJ
namespace Go.Proofs.DkW
open Go Go.RowKit Go.Tk Go.Dk Go.Sp
attribute [local go_sem] Oper.semAt_some

def str (xs : List UInt8) : Value := .string ⟨xs.toArray⟩
/-- Files told by hand. -/
def enc : List (List UInt8 × Nat) → List Value
  | [] => []
  | x :: l => str x.1 :: .int .i64 (x.2 : Int) :: enc l
theorem enc_length (l : List (List UInt8 × Nat)) : (enc l).length = 2 * l.length := by
  induction l with
  | nil => rfl
  | cons x l ih => simp [enc, ih]; omega
theorem enc_s : ∀ (l : List (List UInt8 × Nat)) (k : Nat) (h : k < l.length), (enc l)[k * 2]? = some (str l[k].1)
  | x :: l, 0, _ => rfl
  | x :: l, k + 1, h => by
    have := enc_s l k (by simpa using h)
    rw [show (k + 1) * 2 = k * 2 + 1 + 1 by omega]
    simpa [enc] using this
theorem enc_n : ∀ (l : List (List UInt8 × Nat)) (k : Nat) (h : k < l.length), (enc l)[k * 2 + 1]? = some (.int .i64 (l[k].2 : Int))
  | x :: l, 0, _ => rfl
  | x :: l, k + 1, h => by
    have := enc_n l k (by simpa using h)
    rw [show (k + 1) * 2 + 1 = k * 2 + 1 + 1 + 1 by omega]
    simpa [enc] using this
theorem enc_set_s : ∀ (l : List (List UInt8 × Nat)) (k : Nat) (h : k < l.length) (s : List UInt8), (enc l).set (k * 2) (str s) = enc (l.set k (s, l[k].2))
  | x :: l, 0, _, s => rfl
  | x :: l, k + 1, h, s => by
    have := enc_set_s l k (by simpa using h) s
    rw [show (k + 1) * 2 = k * 2 + 1 + 1 by omega]
    simpa [enc] using this
theorem enc_set_n : ∀ (l : List (List UInt8 × Nat)) (k : Nat) (h : k < l.length) (n : Nat), (enc l).set (k * 2 + 1) (.int .i64 (n : Int)) = enc (l.set k (l[k].1, n))
  | x :: l, 0, _, n => rfl
  | x :: l, k + 1, h, n => by
    have := enc_set_n l k (by simpa using h) n
    rw [show (k + 1) * 2 + 1 = k * 2 + 1 + 1 + 1 by omega]
    simpa [enc] using this

/-- Which of n things a raw number speaks of. -/
def pickN (c : Int) (n : Nat) : Nat := ((if c < 0 then -(c + 1) else c) % (n : Int)).toNat
theorem pickN_lt (c : Int) {n : Nat} (h : 0 < n) : pickN c n < n := by
  unfold pickN
  have := Int.emod_lt_of_pos (if c < 0 then -(c + 1) else c) (show (0 : Int) < n by omega)
  have := Int.emod_nonneg (if c < 0 then -(c + 1) else c) (show (n : Int) ≠ 0 by omega)
  omega
theorem pickN_cast (c : Int) {n : Nat} (h : 0 < n) : (pickN c n : Int) = (if c < 0 then -(c + 1) else c) % (n : Int) := by
  unfold pickN
  have := Int.emod_nonneg (if c < 0 then -(c + 1) else c) (show (n : Int) ≠ 0 by omega)
  omega
set_option maxHeartbeats 400000 in
theorem pick_any (w : World) (c : Int) (m : Int) (n : Nat) (hm : m = (n : Int)) (h0 : 0 < n) (hn : n ≤ 1000000000) (hc : -9223372036854775808 ≤ c ∧ c ≤ 9223372036854775807) :
    Calls Try.prog 31 #[.int .i64 c, .int .i64 m] w fun e w' => e = .returned (.int .i64 (pickN c n : Int)) ∧ w = w' := by
  subst hm
  rw [pickN_cast c h0]
  by_cases hneg : c < 0
  · have h1 : 0 ≤ -(c + 1) := by omega
    have h2 : -(c + 1) ≤ 9223372036854775807 := by omega
    have h3 : IntKind.i64.wrap (c + 1) = c + 1 := IntWalk.i64_in _ (by omega)
    have hz : ((n : Int) == 0) = false := by simp; omega
    go_enter Try.func31, Try.ntmps31
    go_wp2
    go_ret
    refine ⟨?_, rfl⟩
    rw [← Int.tmod_eq_emod_of_nonneg h1, Int.neg_tmod]
    rfl
  · have h1 : 0 ≤ c := by omega
    have hz : ((n : Int) == 0) = false := by simp; omega
    have hn0 : (0 : Int) ≤ (n : Int) := by omega
    go_enter Try.func31, Try.ntmps31
    go_wp2
    go_ret
    refine ⟨?_, rfl⟩
    first | rfl | (rw [← Int.tmod_eq_emod_of_nonneg h1]; rfl)

theorem read_all {st : St} {k : Nat} (hoff : st.off = false) (hk : k < st.files.length) : st.read (k : Int) 0 ((st.file k).1.length : Int) = ((st.file k).1, 0) := by
  have hi : st.is (k : Int) = true := by simp [St.is]; omega
  simp [St.read, hoff, hi]
set_option maxHeartbeats 1000000 in
set_option maxRecDepth 100000 in
theorem same_any {S : Nat → Prop} {w : World} {p : Nat} {st : St} {M : Nat} (h : PD S w p st) (hok : st.Ok M) (hoff : st.off = false) (h3 : st.files.length = 3) :
    Calls Try.prog 39 #[.pointer (some ⟨p, 0, none⟩), .agg (enc st.files).toArray] w fun e w' => e = .returned (.bool true) ∧ Mk w w' := by
  have hel := enc_length st.files
  rw [h3] at hel
  have hrow := Bk.new w 55 (enc st.files).toArray
  have HROW := Lib.hid hrow
  have H := Lib.hid h; have Hok := Lib.hid hok; have Hel := Lib.hid hel; clear h hok hel
  clear hrow
  go_enter Try.func39, Try.ntmps39
  go_wp2
  generalize hg3 : w.heap.size = g3 at *
  have hm0 := mk_alloc w (.cells (enc st.files).toArray 55)
  have hg3' := Lib.hid hg3
  clear hg3
  generalize w.alloc (.cells (enc st.files).toArray 55) = w0 at *
  have Hm0 := Lib.hid hm0; clear hm0
  go_loopw [5] (fun i wr => ∃ k : Nat, i = .int .i64 (k : Int) ∧ k ≤ 3 ∧ Mk w0 wr) (fun i _ => 3 - (intOf i).toNat)
  case atStart => exact ⟨0, rfl, by omega, mk_refl _⟩
  case round =>
    obtain ⟨k, rfl, hk, hm⟩ := hrel
    have Hm := Lib.hid hm; clear hm
    by_cases hlt : k < 3
    · have hkl : k < st.files.length := by omega
      have hr := HROW.out.mk Hm.out
      have c0 : wr.cell? ⟨g3, k * 2, none⟩ = some (.string ⟨(st.file k).1.toArray⟩) := by
        rw [hr.cell, List.getElem?_toArray, enc_s _ k hkl, St.file_eq hkl]; rfl
      have hrd := read_any (H.out.made (mk_trans Hm0.out Hm.out)) Hok.out (k : Int) 0 ((st.file k).1.length : Int)
      rw [read_all hoff hkl] at hrd
      have Hr := Lib.hid hr; have Hrd := Lib.hid hrd; clear hr hrd
      go_wp2_with fail
      refine Hrd.out.mono ?_
      rintro e w1 ⟨rv, rfl, ho, hm1⟩
      have hsl := own_sl ho
      obtain ⟨ra, rc, rfl, _, _⟩ := hsl.form
      have hP1 := H.out.made (mk_trans Hm0.out (mk_trans Hm.out hm1))
      have hs1 : st.size (k : Int) = ((st.file k).1.length : Int) := by simp [St.size, St.is]; omega
      have hs2 : st.lasts (k : Int) = ((st.file k).2 : Int) := by simp [St.lasts, St.is]; omega
      have l0 : ∀ w', Mk w1 w' → w'.cell? ⟨g3, k * 2, none⟩ = some (.string ⟨(st.file k).1.toArray⟩) := fun w' h => by
        rw [(Hr.out.mk (mk_trans hm1 h)).cell, List.getElem?_toArray, enc_s _ k hkl, St.file_eq hkl]; rfl
      have l1 : ∀ w', Mk w1 w' → w'.cell? ⟨g3, k * 2 + 1, none⟩ = some (.int .i64 ((st.file k).2 : Int)) := fun w' h => by
        rw [(Hr.out.mk (mk_trans hm1 h)).cell, List.getElem?_toArray, enc_n _ k hkl, St.file_eq hkl]
      have cv : ∀ w', Mk w1 w' → (convert 22 9 (.slice ra (st.file k).1.length rc)).run Try.prog w' = .ok (.string ⟨(st.file k).1.toArray⟩) w' := fun w' h => FrW.str_of (hsl.mk h)
      have q1 := @qAt_value Try.prog
      have Hm1 := Lib.hid hm1; have Ho := Lib.hid ho; have Hsl := Lib.hid hsl; have HP1 := Lib.hid hP1; have Hs1 := Lib.hid hs1; have Hs2 := Lib.hid hs2; clear hm1 ho hsl hP1 hs1 hs2
      clear c0
      go_wp2_with fail
      refine wp_region_sp (fun _ => false) (fun w' => Mk w1 w') (by kernel_rfl) (by kernel_rfl) (mk_refl _) (fun _ _ => mk_trans) ?_
      intro D hD hne
      iterate 14 (first | (refine spk (by rfl) (by rfl) (by rfl) (fun K hK => ?_); go_big_quiet_op; first | (refine hK _ ?_; clear hK K) | (apply Exists.intro; refine ⟨fun _ => ?_, hK _ ?_⟩; (exact fun _ => rfl); clear hK K)) | (refine spq (by rfl) (by rfl) (fun K hK => ?_); apply Exists.intro; refine ⟨fun w' hw' => ?_, ?_⟩; (go_simp; exact rfl); (go_simp; refine hK _ ?_; clear hK K)))
      (refine spq (by rfl) (by rfl) (fun K hK => ?_); apply Exists.intro; refine ⟨fun w' hw' => ?_, ?_⟩; (have q2 := @qAt_enter Try.prog; go_simp; refine ⟨rfl, (size_any (k : Int) (HP1.out.made hw')).mono fun e w'' ⟨h1, h2⟩ => by subst h2; rw [h1, Hs1.out]; exact ⟨rfl, mk_refl _⟩⟩); (go_simp; refine hK _ ?_; clear hK K))
      iterate 10 (first | (refine spk (by rfl) (by rfl) (by rfl) (fun K hK => ?_); go_big_quiet_op; first | (refine hK _ ?_; clear hK K) | (apply Exists.intro; refine ⟨fun _ => ?_, hK _ ?_⟩; (exact fun _ => rfl); clear hK K)) | (refine spq (by rfl) (by rfl) (fun K hK => ?_); apply Exists.intro; refine ⟨fun w' hw' => ?_, ?_⟩; (go_simp; exact rfl); (go_simp; refine hK _ ?_; clear hK K)))
      (refine spq (by rfl) (by rfl) (fun K hK => ?_); apply Exists.intro; refine ⟨fun w' hw' => ?_, ?_⟩; (have q2 := @qAt_enter Try.prog; go_simp; refine ⟨rfl, (lasts_any (k : Int) (HP1.out.made hw')).mono fun e w'' ⟨h1, h2⟩ => by subst h2; rw [h1, Hs2.out]; exact ⟨rfl, mk_refl _⟩⟩); (go_simp; refine hK _ ?_; clear hK K))
      iterate 6 (first | (refine spk (by rfl) (by rfl) (by rfl) (fun K hK => ?_); go_big_quiet_op; first | (refine hK _ ?_; clear hK K) | (apply Exists.intro; refine ⟨fun _ => ?_, hK _ ?_⟩; (exact fun _ => rfl); clear hK K)) | (refine spq (by rfl) (by rfl) (fun K hK => ?_); apply Exists.intro; refine ⟨fun w' hw' => ?_, ?_⟩; (go_simp; exact rfl); (go_simp; refine hK _ ?_; clear hK K)))
      refine sp_nil ?_
      intro w9 hw9
      have HM9 := Lib.hid (hD.out _ hw9).1
      clear hw9 hD hne D l0 l1 q1 cv
      go_wp2
      go_roundw
      case rel => exact ⟨k + 1, by go_num, by omega, mk_trans Hm.out (mk_trans Hm1.out HM9.out)⟩
      case measure => simp [intOf]; omega
    · obtain rfl : k = 3 := by omega
      go_wp2
      go_ret
      exact ⟨rfl, mk_trans Hm0.out Hm.out⟩
end Go.Proofs.DkW
