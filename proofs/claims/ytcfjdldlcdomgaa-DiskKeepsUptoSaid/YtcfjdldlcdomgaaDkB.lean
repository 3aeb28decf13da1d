/- Layer 4, disk: the walks of what asks the program's disk. -/
import Derived.Test.YtcfjdldlcdomgaaProg
import Derived.Test.YtcfjdldlcdomgaaDkA
namespace Go.Proofs.DkW
open Go Go.RowKit Go.Tk Go.Dk

section
variable {S F U : Nat → Prop} {w : World} {p q c : Nat} {cs : Array Value} {vs : Nat → Value} {fu : Value} {st : St}
theorem PDw.c0 (h : PDw S F U w p q c cs vs fu st) : w.cell? ⟨p, 0, none⟩ = some (.slice (some ⟨q, 0, none⟩) st.files.length c) := (h.head.cell 0).trans rfl
theorem PDw.c1 (h : PDw S F U w p q c cs vs fu st) : w.cell? ⟨p, 1, none⟩ = some (.bool st.off) := (h.head.cell 1).trans rfl
theorem PDw.c2 (h : PDw S F U w p q c cs vs fu st) : w.cell? ⟨p, 2, none⟩ = some (.int .i64 (st.falls : Int)) := (h.head.cell 2).trans rfl
theorem PDw.c3 (h : PDw S F U w p q c cs vs fu st) : w.cell? ⟨p, 3, none⟩ = some fu := (h.head.cell 3).trans rfl

theorem alive_any (h : PD S w p st) : Calls Try.prog 37 #[.pointer (some ⟨p, 0, none⟩)] w fun e w' => e = .returned (.bool (!st.off)) ∧ w = w' := by
  obtain ⟨F, U, q, c, cs, vs, fu, h⟩ := h
  have h1 := PDw.c1 h
  clear h
  go_enter Try.func37, Try.ntmps37
  go_wp2
  go_ret
  exact ⟨rfl, rfl⟩
theorem falls_any (h : PD S w p st) : Calls Try.prog 40 #[.pointer (some ⟨p, 0, none⟩)] w fun e w' => e = .returned (.int .i64 (st.falls : Int)) ∧ w = w' := by
  obtain ⟨F, U, q, c, cs, vs, fu, h⟩ := h
  have h1 := PDw.c2 h
  clear h
  go_enter Try.func40, Try.ntmps40
  go_wp2
  go_ret
  exact ⟨rfl, rfl⟩
theorem is_any (f : Int) (h : PD S w p st) : Calls Try.prog 144 #[.pointer (some ⟨p, 0, none⟩), .int .i64 f] w fun e w' => e = .returned (.bool (st.is f)) ∧ w = w' := by
  obtain ⟨F, U, q, c, cs, vs, fu, h⟩ := h
  have h1 := PDw.c0 h
  clear h
  by_cases h0 : 0 ≤ f
  · go_enter Try.func144, Try.ntmps144
    go_wp2
    go_ret
    exact ⟨by simp [St.is, h0], rfl⟩
  · have h2 : decide (0 ≤ f) = false := by simpa using h0
    go_enter Try.func144, Try.ntmps144
    go_wp2
    go_ret
    exact ⟨by simp [St.is, h2], rfl⟩
theorem refused_any (f : Int) (h : PD S w p st) : Calls Try.prog 85 #[.pointer (some ⟨p, 0, none⟩), .int .i64 f] w fun e w' => e = .returned (.int .i64 (if st.off then 40 else if st.is f then 0 else 1)) ∧ w = w' := by
  have hi := is_any f h
  have HI := Lib.hid hi
  clear hi
  obtain ⟨F, U, q, c, cs, vs, fu, h⟩ := h
  have h1 := PDw.c1 h
  clear h
  cases ho : st.off
  · rw [ho] at h1
    cases hq : st.is f
    all_goals
      go_enter Try.func85, Try.ntmps85
      go_wp2_with (go_at_call 144; refine HI.out.mono ?_; rintro e w' ⟨rfl, rfl⟩)
      go_ret
      exact ⟨by simp, rfl⟩
  · rw [ho] at h1
    go_enter Try.func85, Try.ntmps85
    go_wp2
    go_ret
    exact ⟨by simp, rfl⟩
/-- A file's two cells. -/
theorem PDw.at_ (h : PDw S F U w p q c cs vs fu st) (f : Nat) (hf : f < st.files.length) :
    ∃ a m, vs f = .slice a (st.file f).1.length m ∧ (st.file f).1.length ≤ m ∧ m ≤ maxLen ∧ w.cell? ⟨q, f * 2, none⟩ = some (.slice a (st.file f).1.length m) ∧ w.cell? ⟨q, f * 2 + 1, none⟩ = some (.int .i64 ((st.file f).2 : Int)) := by
  have e : st.file f = st.files[f] := by simp [St.file, hf]
  rw [e]
  have ho := h.files.own f hf
  obtain ⟨a, m, hv, h1, h2⟩ := (own_sl ho).form
  refine ⟨a, m, hv, h1, h2, ?_, ?_⟩
  · rw [h.files.row.cell, h.files.sl f hf, hv]
  · rw [h.files.row.cell, h.files.last f hf]
theorem size_any (f : Int) (h : PD S w p st) : Calls Try.prog 83 #[.pointer (some ⟨p, 0, none⟩), .int .i64 f] w fun e w' => e = .returned (.int .i64 (st.size f)) ∧ w = w' := by
  have hi := is_any f h
  have HI := Lib.hid hi
  clear hi
  obtain ⟨F, U, q, c, cs, vs, fu, h⟩ := h
  have h1 := PDw.c0 h
  cases hq : st.is f
  · clear h
    rw [hq] at HI
    go_enter Try.func83, Try.ntmps83
    go_wp2_with (go_at_call 144; refine HI.out.mono ?_; rintro e w' ⟨rfl, rfl⟩)
    go_ret
    exact ⟨by simp [St.size, hq], rfl⟩
  · rw [hq] at HI
    have hq' := hq
    simp only [St.is, Bool.and_eq_true, decide_eq_true_eq] at hq'
    obtain ⟨f, rfl⟩ := Int.eq_ofNat_of_zero_le hq'.1
    obtain ⟨a, m, hv, hm1, hm2, hs1, hs2⟩ := PDw.at_ h f (by omega)
    have hlt := hq'.2
    clear hq' h hv hs2
    go_enter Try.func83, Try.ntmps83
    go_wp2_with (go_at_call 144; refine HI.out.mono ?_; rintro e w' ⟨rfl, rfl⟩)
    go_ret
    exact ⟨by simp [St.size, hq], rfl⟩
theorem lasts_any (f : Int) (h : PD S w p st) : Calls Try.prog 84 #[.pointer (some ⟨p, 0, none⟩), .int .i64 f] w fun e w' => e = .returned (.int .i64 (st.lasts f)) ∧ w = w' := by
  have hi := is_any f h
  have HI := Lib.hid hi
  clear hi
  obtain ⟨F, U, q, c, cs, vs, fu, h⟩ := h
  have h1 := PDw.c0 h
  cases hq : st.is f
  · clear h
    rw [hq] at HI
    go_enter Try.func84, Try.ntmps84
    go_wp2_with (go_at_call 144; refine HI.out.mono ?_; rintro e w' ⟨rfl, rfl⟩)
    go_ret
    exact ⟨by simp [St.lasts, hq], rfl⟩
  · rw [hq] at HI
    have hq' := hq
    simp only [St.is, Bool.and_eq_true, decide_eq_true_eq] at hq'
    obtain ⟨f, rfl⟩ := Int.eq_ofNat_of_zero_le hq'.1
    obtain ⟨a, m, hv, hm1, hm2, hs1, hs2⟩ := PDw.at_ h f (by omega)
    have hlt := hq'.2
    clear hq' h hv hs1
    go_enter Try.func84, Try.ntmps84
    go_wp2_with (go_at_call 144; refine HI.out.mono ?_; rintro e w' ⟨rfl, rfl⟩)
    go_ret
    exact ⟨by simp [St.lasts, hq], rfl⟩
/-- The head has been written. -/
theorem PDw.headed {w' : World} (h : PDw S F U w p q c cs vs fu st) {off : Bool} {falls : Nat} {fu' : Value} {fuse : Option (Int × List Int)}
    (hb : Bk w' p 144 #[.slice (some ⟨q, 0, none⟩) st.files.length c, .bool off, .int .i64 (falls : Int), fu']) (hc : Chg (fun k => k = p) w w') (hfu : FuseAt U w fu' fuse) :
    PDw S F U w' p q c cs vs fu' { files := st.files, off := off, falls := falls, fuse := fuse } :=
  ⟨hb, h.files.keep hc fun k _ hk e => (h.fs k hk).2 e, hfu.keep hc fun k _ hk e => (h.us k hk).2 e, h.sp, h.fs, h.us, h.disj, h.hc⟩
theorem burns_none (h : PDw S F U w p q c cs vs fu st) (hf : st.fuse = none) : Calls Try.prog 86 #[.pointer (some ⟨p, 0, none⟩)] w fun e w' => e = .returned (.bool false) ∧ w = w' := by
  have h1 := PDw.c3 h
  have h2 := h.fuse
  rw [hf] at h2
  obtain rfl : fu = .pointer none := h2
  clear h hf
  go_enter Try.func86, Try.ntmps86
  go_wp2
  go_ret
  exact ⟨rfl, rfl⟩
theorem burns_some {n : Int} {kl : List Int} (h : PDw S F U w p q c cs vs fu st) (hf : st.fuse = some (n, kl)) (hn : 0 ≤ n) (hm : n ≤ 9223372036854775807) :
    Calls Try.prog 86 #[.pointer (some ⟨p, 0, none⟩)] w fun e w' => e = .returned (.bool (decide (n < 1))) ∧ PDw S F U w' p q c cs vs fu { st with fuse := some (n - 1, kl) } ∧ Chg (fun k => S k ∧ ¬ F k ∧ k ≠ p) w w' := by
  have h1 := PDw.c3 h
  have h2 := h.fuse
  rw [hf] at h2
  obtain ⟨g, kv, rfl, hb, hu, hk, hkb⟩ := h2
  have h3 : w.cell? ⟨g, 0, none⟩ = some (.int .i64 n) := (hb.cell 0).trans rfl
  have h4 := hb.frozen 0
  have h5 : w.cell? ⟨p, 3, none⟩ = some (.pointer (some ⟨g, 0, none⟩)) := h1
  have hgp : ¬ g = p := (h.us g hu).2
  have HH := Lib.hid h
  have HB := Lib.hid hb
  have HU := Lib.hid hu
  have HK := Lib.hid hk
  have HKB := Lib.hid hkb
  have HF := Lib.hid hf
  clear h hb hu hk hkb hf h1
  have hP : PDw S F U (w.setCell ⟨g, 0, none⟩ (.int .i64 (n - 1))) p q c cs vs (.pointer (some ⟨g, 0, none⟩)) { st with fuse := some (n - 1, kl) } := by
    have h := HH.out
    have hc : Chg (fun k => k = g) w (w.setCell ⟨g, 0, none⟩ (.int .i64 (n - 1))) := Chg.set _ _ _ _ rfl
    refine ⟨h.head.keep hc fun e => hgp e.symm, h.files.keep hc fun k _ hk e => h.disj k hk (e ▸ HU.out), ?_, h.sp, h.fs, h.us, h.disj, h.hc⟩
    refine ⟨g, kv, rfl, ?_, HU.out, is_keep HK.out hc fun k _ hp hk e => (HKB.out k hp hk).2 e, HKB.out⟩
    simpa using HB.out.set 0 (.int .i64 (n - 1))
  have HP := Lib.hid hP
  clear hP
  by_cases hz : n < 1
  · have hz2 : n - 1 < 0 := by omega
    go_enter Try.func86, Try.ntmps86
    go_wp2
    go_ret
    exact ⟨by simp [hz], HP.out, Chg.set _ _ _ _ ⟨(HH.out.us g HU.out).1, fun hF => HH.out.disj _ hF HU.out, hgp⟩⟩
  · have hz2 : ¬ n - 1 < 0 := by omega
    go_enter Try.func86, Try.ntmps86
    go_wp2
    go_ret
    exact ⟨by simp [hz], HP.out, Chg.set _ _ _ _ ⟨(HH.out.us g HU.out).1, fun hF => HH.out.disj _ hF HU.out, hgp⟩⟩
theorem restart_any (h : PD S w p st) : Calls Try.prog 38 #[.pointer (some ⟨p, 0, none⟩)] w fun e w' => e = .returned (.tuple #[]) ∧ PD S w' p st.restart ∧ Chg S w w' := by
  obtain ⟨F, U, q, c, cs, vs, fu, h⟩ := h
  have h1 := PDw.c1 h
  have h2 := PDw.c3 h
  have f1 := h.head.frozen 1
  have f3 := h.head.frozen 3
  have HH := Lib.hid h
  clear h
  go_enter Try.func38, Try.ntmps38
  go_wp2
  go_end0
  refine ⟨rfl, ⟨F, U, q, c, cs, vs, _, PDw.headed HH.out (off := false) (falls := st.falls) (fuse := none) (fu' := .pointer none) ?_ ?_ rfl⟩, ?_⟩
  · simpa using (HH.out.head.set 1 (.bool false)).set 3 (.pointer none)
  · exact ((Chg.refl (fun k => k = p) w).thenSet _ _ (.inl rfl)).thenSet _ _ (.inl rfl)
  · exact ((Chg.refl _ _).thenSet _ _ (.inl HH.out.sp)).thenSet _ _ (.inl HH.out.sp)
theorem burns_any {M : Nat} (h : PDw S F U w p q c cs vs fu st) (hok : st.Ok M) : Calls Try.prog 86 #[.pointer (some ⟨p, 0, none⟩)] w fun e w' => e = .returned (.bool st.burnt) ∧ PDw S F U w' p q c cs vs fu st.lit ∧ Chg (fun k => S k ∧ ¬ F k ∧ k ≠ p) w w' := by
  cases hf : st.fuse with
  | none =>
    refine (burns_none h hf).mono ?_
    rintro e w' ⟨rfl, rfl⟩
    have e : st.lit = st := by cases st; simp_all [St.lit]
    exact ⟨by simp [St.burnt, hf], by rw [e]; exact h, Chg.refl _ _⟩
  | some x =>
    obtain ⟨n, kl⟩ := x
    obtain ⟨h1, h2⟩ := hok.ops n kl hf
    refine (burns_some h hf h1 h2).mono ?_
    rintro e w' ⟨rfl, hp, hc⟩
    refine ⟨by simp [St.burnt, hf], ?_, hc⟩
    simpa [St.lit, hf] using hp
end
end Go.Proofs.DkW
