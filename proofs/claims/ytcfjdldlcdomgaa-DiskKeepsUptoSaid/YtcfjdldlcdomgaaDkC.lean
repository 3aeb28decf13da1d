/- Layer 4, disk: the walk of the program's fall. -/
import Derived.Test.YtcfjdldlcdomgaaDkB
import Derived.StillTailTactics
namespace Go.Proofs.DkW
open Go Go.RowKit Go.Tk Go.Dk

/-- The first so many files have fallen. -/
def part (st : St) (kl : List Int) (k : Nat) : St := { st with files := st.files.mapIdx fun j x => if j < k then fallFile kl j x else x }
theorem part_zero (st : St) (kl : List Int) : part st kl 0 = st := by
  simp [part, List.mapIdx_eq_zipIdx_map]
theorem part_all (st : St) (kl : List Int) : { part st kl st.files.length with off := true, falls := st.falls + 1, fuse := none } = st.fall kl := by
  simp only [part, St.fall, St.mk.injEq, and_true]
  apply List.ext_getElem
  · simp
  · intro i h1 h2
    simp at h1
    simp [h1]
theorem part_file (st : St) (kl : List Int) (k : Nat) : (part st kl k).file k = st.file k := by
  simp [part, St.file, List.getD_eq_getElem?_getD]
theorem part_succ (st : St) (kl : List Int) (k : Nat) (hk : k < st.files.length) : part st kl (k + 1) = (part st kl k).put k (fallFile kl k (st.file k)) := by
  simp only [part, St.put, St.mk.injEq, and_true]
  apply List.ext_getElem
  · simp
  · intro i h1 h2
    simp at h1
    by_cases e : i = k
    · subst e; simp [St.file, h1, hk]
    · rw [List.getElem_set_ne (Ne.symm e)]
      simp only [List.getElem_mapIdx]
      by_cases h : i < k
      · rw [if_pos h, if_pos (by omega)]
      · rw [if_neg h, if_neg (by omega)]

set_option maxHeartbeats 1000000 in
set_option maxRecDepth 100000 in
theorem fall_any {S F U : Nat → Prop} {w : World} {p q c : Nat} {cs : Array Value} {vs : Nat → Value} {fu : Value} {st : St} (h : PDw S F U w p q c cs vs fu st) {M : Nat} (hok : st.Ok0 M) (hM : M ≤ 1000000)
    (kv : Value) (kl : List Int) (hk : Is w kv kl) (hkb : ∀ k, 0 < kl.length → kv.ownBlock = some k → k ≠ q ∧ k ≠ p) :
    Calls Try.prog 87 #[.pointer (some ⟨p, 0, none⟩), kv] w fun e w' => e = .returned (.tuple #[]) ∧ (∃ cs vs, PDw S F U w' p q c cs vs (.pointer none) (st.fall kl)) ∧ Chg (fun k => k = q ∨ k = p) w w' := by
  obtain ⟨ka, kc, rfl, hkc1, hkc2⟩ := hk.form
  have h0 := PDw.c0 h
  have HK := Lib.hid hk
  have HKB := Lib.hid hkb
  have HOK := Lib.hid hok
  have HH := Lib.hid h
  clear h hk hkb hok
  go_enter Try.func87, Try.ntmps87
  go_wp2
  go_loopw [11] (fun i wr => ∃ k : Nat, i = .int .i64 (k : Int) ∧ k ≤ st.files.length ∧ (∃ cs vs, PDw S F U wr p q c cs vs fu (part st kl k)) ∧ Chg (fun k => k = q) w wr) (fun i _ => st.files.length - (intOf i).toNat)
  case atStart => exact ⟨0, rfl, Nat.zero_le _, by rw [part_zero]; exact ⟨cs, vs, HH.out⟩, Chg.refl _ _⟩
  case round =>
    obtain ⟨k, rfl, hk, ⟨cs1, vs1, h⟩, hc⟩ := hrel
    have HC := Lib.hid hc
    clear hc
    by_cases hlt : k < st.files.length
    · have hlen : (part st kl k).files.length = st.files.length := by simp [part]
      have g0 := PDw.c0 h
      rw [hlen] at g0
      obtain ⟨a, m, hv, hm1, hm2, s1, s2⟩ := PDw.at_ h k (by omega)
      rw [part_file] at hv hm1 s1 s2
      have hb := HOK.out.file (st.file k) (by simp [St.file, hlt])
      have f1 := h.files.row.frozen (k * 2)
      have f2 := h.files.row.frozen (k * 2 + 1)
      have H1 := Lib.hid h
      have HV := Lib.hid hv
      clear h hv hlen
      have hk8 := HOK.out.many
      have hb1 : ((st.file k).2 : Int) ≤ ((st.file k).1.length : Int) := by omega
      have hb2 : ((st.file k).1.length : Int) ≤ 16777216 := by omega
      have hb3 : (0 : Int) ≤ ((st.file k).2 : Int) := by omega
      have HFK : Hid (fallFile kl k (st.file k) = ((st.file k).1.take ((st.file k).2 + kept kl k (st.file k).1.length (st.file k).2), (st.file k).2 + kept kl k (st.file k).1.length (st.file k).2)) := rfl
      obtain ⟨E, hE⟩ : ∃ E, kept kl k (st.file k).1.length (st.file k).2 = E := ⟨_, rfl⟩
      obtain ⟨n, hn⟩ : ∃ n, (st.file k).1.length = n := ⟨_, rfl⟩
      obtain ⟨t, ht⟩ : ∃ t, (st.file k).2 = t := ⟨_, rfl⟩
      rw [hn] at hm1 s1 hb hb1 hb2 hE
      rw [ht] at s2 hb hb1 hb3 hE
      have HN := Lib.hid hn
      have HT := Lib.hid ht
      have hEE := hE
      clear hn ht
      unfold kept at hE
      by_cases hkl : k < kl.length
      · have hkr : Is wr (.slice ka kl.length kc) kl := is_keep HK.out HC.out fun k _ hp hk e => (HKB.out k hp hk).1 e
        obtain ⟨kb, koff, rfl, hkd⟩ := hkr.cellAt (by omega)
        have hck := hkd k _ (iv_get kl k hkl)
        have hki : (k : Int) < (kl.length : Int) := by omega
        obtain ⟨y, hy⟩ : ∃ y, kl[k] = y := ⟨_, rfl⟩
        have hyd : kl.getD k 0 = y := by rw [← hy]; simp [hkl]
        rw [hyd] at hE
        rw [hy] at hck
        obtain ⟨y1, hy1⟩ : ∃ y1, (if ((n - t : Nat) : Int) < y then ((n - t : Nat) : Int) else y) = y1 := ⟨_, rfl⟩
        have e1 : IntKind.i64.wrap ((n : Int) - (t : Int)) = ((n - t : Nat) : Int) := by
          have := IntWalk.i64_in ((n : Int) - (t : Int)) (by omega)
          omega
        have e3 : (if 0 < y1 then y1 else 0) = (E : Int) := by split at hy1 <;> split <;> omega
        have e4 : IntKind.i64.wrap ((t : Int) + (E : Int)) = ((t + E : Nat) : Int) := by
          have := IntWalk.i64_in ((t : Int) + (E : Int)) (by split at hy1 <;> omega)
          omega
        have hT : t + E ≤ n := by split at hy1 <;> omega
        have HE := Lib.hid hEE
        clear hkr hkd hy hyd hE hEE
        generalize n - t = D at *
        obtain ⟨T, hTT⟩ : ∃ T, t + E = T := ⟨_, rfl⟩
        rw [hTT] at e4 hT
        have HTT := Lib.hid hTT
        clear hTT
        have hT2 : (T : Int) ≤ (m : Int) := by omega
        have hT3 : T ≤ m := by omega
        go_wp2
        go_still_tail 23, (by kernel_rfl)
        have k1 : (wr.setCell ⟨q, k * 2 + 1, none⟩ (.int .i64 (T : Int))).drew.cell? ⟨q, k * 2, none⟩ = some (.slice a n m) := by go_simp
        have k2 : (wr.setCell ⟨q, k * 2 + 1, none⟩ (.int .i64 (T : Int))).drew.cell? ⟨q, k * 2 + 1, none⟩ = some (.int .i64 (T : Int)) := by go_simp
        have k3 : (wr.setCell ⟨q, k * 2 + 1, none⟩ (.int .i64 (T : Int))).drew.frozen? ⟨q, k * 2, none⟩ = false := by go_simp
        have k4 : Chg (fun k => k = q) wr (wr.setCell ⟨q, k * 2 + 1, none⟩ (.int .i64 (T : Int))).drew := ((Chg.refl (fun k => k = q) wr).thenSet _ _ (.inl rfl)).drew
        have k5 : Bk (wr.setCell ⟨q, k * 2 + 1, none⟩ (.int .i64 (T : Int))).drew q 146 (cs1.setIfInBounds (k * 2 + 1) (.int .i64 (T : Int))) := H1.out.files.row.set _ _
        have K4 := Lib.hid k4
        have K5 := Lib.hid k5
        go_wp2_with fail
        clear k4 k5 s1 s2 f1 f2 e1 e3 e4 hck g0
        generalize (wr.setCell ⟨q, k * 2 + 1, none⟩ (.int .i64 (T : Int))).drew = w2 at *
        go_still_tail 12, (by kernel_rfl)
        go_wp2
        go_roundw
        case rel =>
          have hpk : k < (part st kl k).files.length := by simp [part]; omega
          have hpf : (part st kl k).files[k] = st.file k := by rw [← part_file st kl k]; simp [St.file, hpk]
          have hcc : Chg (fun k => k = q) wr (w2.setCell ⟨q, k * 2, none⟩ (.slice a T m)).drew := (K4.out.thenSet _ _ (.inl rfl)).drew
          refine ⟨k + 1, by go_num, by omega, ⟨(cs1.setIfInBounds (k * 2 + 1) (.int .i64 (T : Int))).setIfInBounds (k * 2) (.slice a T m), fun i => if i = k then .slice a T m else vs1 i, ?_⟩, HC.out.trans hcc fun _ _ e => e⟩
          have hz := H1.out.files.size
          rw [part_succ _ _ _ hlt, HFK.out, HN.out, HT.out, HE.out, HTT.out]
          refine PDw.cut H1.out hpk hcc (K5.out.set _ _) ?_ ?_ ?_ ?_ (Files.own_cut H1.out.files hpk hpf HV.out (by have := HN.out; omega) hcc) (fun k' hk' => by rw [HV.out]; cases a <;> exact hk')
          · rw [Array.size_setIfInBounds, Array.size_setIfInBounds]
          · rw [Array.getElem?_setIfInBounds_self_of_lt (by rw [Array.size_setIfInBounds]; omega)]
          · rw [Array.getElem?_setIfInBounds_ne (by omega), Array.getElem?_setIfInBounds_self_of_lt (by omega)]
          · exact fun j h1 h2 => by rw [Array.getElem?_setIfInBounds_ne (by omega), Array.getElem?_setIfInBounds_ne (by omega)]
        case measure => simp [intOf]; omega
      · have hyd : kl.getD k 0 = 0 := by simp [hkl]
        rw [hyd] at hE
        obtain rfl : E = 0 := by omega
        have hkf : decide ((k : Int) < (kl.length : Int)) = false := by simp; omega
        have hT : t ≤ n := hb.1
        have hT2 : (t : Int) ≤ (m : Int) := by omega
        have hT3 : t ≤ m := by omega
        have HE := Lib.hid hEE
        have HTT : Hid (t + 0 = t) := rfl
        have K4 := Lib.hid (Chg.refl (fun k => k = q) wr)
        have K5 := Lib.hid H1.out.files.row
        clear hyd hE hEE
        go_wp2
        clear f2
        go_still_tail 12, (by kernel_rfl)
        go_wp2
        go_roundw
        case rel =>
          have hpk : k < (part st kl k).files.length := by simp [part]; omega
          have hpf : (part st kl k).files[k] = st.file k := by rw [← part_file st kl k]; simp [St.file, hpk]
          have hcc : Chg (fun k => k = q) wr (wr.setCell ⟨q, k * 2, none⟩ (.slice a t m)).drew := (K4.out.thenSet _ _ (.inl rfl)).drew
          refine ⟨k + 1, by go_num, by omega, ⟨cs1.setIfInBounds (k * 2) (.slice a t m), fun i => if i = k then .slice a t m else vs1 i, ?_⟩, HC.out.trans hcc fun _ _ e => e⟩
          have hz := H1.out.files.size
          have hl := H1.out.files.last k hpk
          rw [hpf, HT.out] at hl
          rw [part_succ _ _ _ hlt, HFK.out, HN.out, HT.out, HE.out, HTT.out]
          refine PDw.cut H1.out hpk hcc (K5.out.set _ _) ?_ ?_ ?_ ?_ (Files.own_cut H1.out.files hpk hpf HV.out (by have := HN.out; omega) hcc) (fun k' hk' => by rw [HV.out]; cases a <;> exact hk')
          · rw [Array.size_setIfInBounds]
          · rw [Array.getElem?_setIfInBounds_self_of_lt (by omega)]
          · rw [Array.getElem?_setIfInBounds_ne (by omega)]; exact hl
          · exact fun j h1 h2 => by rw [Array.getElem?_setIfInBounds_ne (by omega)]
        case measure => simp [intOf]; omega
    · obtain rfl : k = st.files.length := by omega
      have hlen : (part st kl st.files.length).files.length = st.files.length := by simp [part]
      have g1 := PDw.c1 h
      have g2 := PDw.c2 h
      have g3 := PDw.c3 h
      have f1 := h.head.frozen 1
      have f2 := h.head.frozen 2
      have f3 := h.head.frozen 3
      have hfl := HOK.out.falls
      have hfs : (part st kl st.files.length).falls = st.falls := rfl
      rw [hfs] at g2
      have H1 := Lib.hid h
      clear h hlen hfs
      go_wp2
      go_end0
      refine ⟨rfl, ⟨cs1, vs1, ?_⟩, ((((HC.out.sub (fun k _ e => .inl e)).thenSet _ _ (.inl (.inr rfl))).thenSet _ _ (.inl (.inr rfl))).thenSet _ _ (.inl (.inr rfl)))⟩
      rw [← part_all]
      refine PDw.headed H1.out (off := true) (falls := st.falls + 1) (fuse := none) (fu' := .pointer none) ?_ ?_ rfl
      · simpa using ((H1.out.head.set 1 (.bool true)).set 3 (.pointer none)).set 2 (.int .i64 (st.falls + 1))
      · exact (((Chg.refl (fun k => k = p) wr).thenSet _ _ (.inl rfl)).thenSet _ _ (.inl rfl)).thenSet _ _ (.inl rfl)
end Go.Proofs.DkW
