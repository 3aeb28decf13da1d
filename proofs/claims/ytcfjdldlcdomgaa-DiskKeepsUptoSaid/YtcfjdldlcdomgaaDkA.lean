/- Layer 4, disk: how a disk lies in memory, the program's and the document's. No walk stands here. -/
import Derived.Test.YtcfjdldlcdomgaaFp
import Derived.Test.YtcfjdldlcdomgaaDkPure
namespace Go.Dk
open Go Go.RowKit Go.Tk

/-- Whole numbers as values. -/
def iv (xs : List Int) : List Value := xs.map (Value.int .i64)
theorem iv_length (xs : List Int) : (iv xs).length = xs.length := by simp [iv]
theorem iv_one (xs : List Int) : ∀ u ∈ iv xs, u.oneCell' = true := by
  intro u hu; simp [iv] at hu; obtain ⟨c, _, rfl⟩ := hu; rfl
theorem iv_get (xs : List Int) (j : Nat) (h : j < xs.length) : (iv xs)[j]? = some (.int .i64 xs[j]) := by simp [iv, h]
abbrev Is (w : World) (v : Value) (xs : List Int) : Prop := Sl w 1 v xs.length (iv xs)

/-- A row of files. -/
structure Files (F : Nat → Prop) (w : World) (q : Nat) (te : TypeId) (cs : Array Value) (vs : Nat → Value) (l : List (List UInt8 × Nat)) : Prop where
  row : Bk w q te cs
  size : 2 * l.length ≤ cs.size
  sl : ∀ i, i < l.length → cs[i * 2]? = some (vs i)
  last : ∀ i (h : i < l.length), cs[i * 2 + 1]? = some (.int .i64 (((l[i]'h).2 : Nat) : Int))
  own : ∀ i (h : i < l.length), w.ownsRow 0 5 1 (vs i) (l[i]'h).1.length (bv (l[i]'h).1)
  blk : ∀ i k, i < l.length → (vs i).ownBlock = some k → F k ∧ k ≠ q
  inj : ∀ i j k, i < l.length → j < l.length → (vs i).ownBlock = some k → (vs j).ownBlock = some k → i = j
  at_ : F q

section
variable {F G T : Nat → Prop} {w w' : World} {q : Nat} {te : TypeId} {cs cs' : Array Value} {vs : Nat → Value} {l : List (List UInt8 × Nat)}
theorem Files.keep (h : Files F w q te cs vs l) (hc : Chg T w w') (hn : ∀ k, k < w.heap.size → F k → ¬ T k) : Files F w' q te cs vs l :=
  ⟨h.row.keep hc (hn q h.row.lt h.at_), h.size, h.sl, h.last, fun i hi => row_keep (h.own i hi) hc fun k hk => hn k ((h.own i hi).lt k hk).2 (h.blk i k hi hk).1, h.blk, h.inj, h.at_⟩
theorem Files.sub (h : Files F w q te cs vs l) (hs : ∀ k, k < w.heap.size → F k → G k) : Files G w q te cs vs l :=
  ⟨h.row, h.size, h.sl, h.last, h.own, fun i k hi hk => ⟨hs k ((h.own i hi).lt k hk).2 (h.blk i k hi hk).1, (h.blk i k hi hk).2⟩, h.inj, hs q h.row.lt h.at_⟩
theorem Files.made (h : Files F w q te cs vs l) (hm : Mk w w') : Files F w' q te cs vs l := h.keep (Chg.of_mk (S := fun _ => False) hm) fun _ _ _ h => h

/-- One file is another; the row of files has been written at its places. -/
theorem Files.put (h : Files F w q te cs vs l) {f : Nat} (hf : f < l.length) {v' : Value} {b' : List UInt8} {n' : Nat}
    (hc : Chg (fun k => k = q ∨ (vs f).ownBlock = some k) w w') (hr : Bk w' q te cs') (hs : cs'.size = cs.size)
    (h1 : cs'[f * 2]? = some v') (h2 : cs'[f * 2 + 1]? = some (.int .i64 (n' : Int))) (h3 : ∀ j, j ≠ f * 2 → j ≠ f * 2 + 1 → cs'[j]? = cs[j]?)
    (ho : w'.ownsRow 0 5 1 v' b'.length (bv b')) (hG : ∀ k, F k → G k) (hb : ∀ k, v'.ownBlock = some k → (vs f).ownBlock = some k ∨ (w.heap.size ≤ k ∧ G k)) :
    Files G w' q te cs' (fun i => if i = f then v' else vs i) (l.set f (b', n')) := by
  have hq := h.row.lt
  refine ⟨hr, by simpa [hs] using h.size, ?_, ?_, ?_, ?_, ?_, hG _ h.at_⟩
  · intro i hi
    rw [List.length_set] at hi
    by_cases e : i = f
    · subst e; simp [h1]
    · rw [if_neg e, h3 _ (by omega) (by omega)]; exact h.sl i hi
  · intro i hi
    rw [List.length_set] at hi
    by_cases e : i = f
    · subst e; simp [h2]
    · rw [List.getElem_set_ne (Ne.symm e), h3 _ (by omega) (by omega)]; exact h.last i hi
  · intro i hi
    rw [List.length_set] at hi
    by_cases e : i = f
    · subst e; simpa using ho
    · rw [List.getElem_set_ne (Ne.symm e)]
      rw [if_neg e]
      refine row_keep (h.own i hi) hc fun k hk hbad => ?_
      rcases hbad with hbad | hbad
      · exact (h.blk i k hi hk).2 hbad
      · exact e (h.inj i f k hi hf hk hbad)
  · intro i k hi hk
    rw [List.length_set] at hi
    by_cases e : i = f
    · subst e
      rw [if_pos rfl] at hk
      rcases hb k hk with h4 | h4
      · exact ⟨hG _ (h.blk i k hi h4).1, (h.blk i k hi h4).2⟩
      · exact ⟨h4.2, by omega⟩
    · rw [if_neg e] at hk
      exact ⟨hG _ (h.blk i k hi hk).1, (h.blk i k hi hk).2⟩
  · intro i j k hi hj hik hjk
    rw [List.length_set] at hi hj
    by_cases e : i = f
    · by_cases e2 : j = f
      · omega
      · rw [if_pos e] at hik
        rw [if_neg e2] at hjk
        rcases hb k hik with h4 | h4
        · exact e.trans (h.inj j f k hj hf hjk h4).symm
        · have := ((h.own j hj).lt k hjk).2; omega
    · rw [if_neg e] at hik
      by_cases e2 : j = f
      · rw [if_pos e2] at hjk
        rcases hb k hjk with h4 | h4
        · exact (h.inj i f k hi hf hik h4).trans e2.symm
        · have := ((h.own i hi).lt k hik).2; omega
      · rw [if_neg e2] at hjk
        exact h.inj i j k hi hj hik hjk
theorem bv_take (xs : List UInt8) (n : Nat) : bv (xs.take n) = (bv xs).take n := by simp [bv, List.map_take]
/-- A file's first bytes, where the row of files alone has been written. -/
theorem Files.own_cut (h : Files F w q te cs vs l) {f : Nat} (hf : f < l.length) {x : List UInt8 × Nat} (hx : l[f] = x) {a : Option Addr} {n m T : Nat} (hv : vs f = .slice a n m) (hT : T ≤ x.1.length) (hc : Chg (fun k => k = q) w w') :
    w'.ownsRow 0 5 1 (.slice a T m) (x.1.take T).length (bv (x.1.take T)) := by
  subst hx
  have ho := row_keep (h.own f hf) hc fun k hk e => (h.blk f k hf hk).2 e
  rw [hv] at ho
  have hn : n = l[f].1.length := by
    obtain ⟨_, a', c', he, _⟩ := own_sl ho
    cases he; rfl
  subst hn
  have := row_cut ho (m := T) (by omega)
  rw [Nat.mul_one, ← bv_take] at this
  rw [List.length_take, Nat.min_eq_left hT]
  exact this
end

/-- The fuse of the program's disk. -/
def FuseAt (U : Nat → Prop) (w : World) (fu : Value) : Option (Int × List Int) → Prop
  | none => fu = .pointer none
  | some (n, keep) => ∃ g kv, fu = .pointer (some ⟨g, 0, none⟩) ∧ Bk w g 148 #[.int .i64 n, kv] ∧ U g ∧ Is w kv keep ∧ ∀ k, 0 < keep.length → kv.ownBlock = some k → U k ∧ k ≠ g
theorem is_lt {w : World} {v : Value} {xs : List Int} (h : Is w v xs) (hl : 0 < xs.length) {k : Nat} (hk : v.ownBlock = some k) : k < w.heap.size := by
  obtain ⟨_, a, cap, rfl, _, _, _, h4⟩ := h
  obtain ⟨b, off, rfl, hd⟩ := h4 hl
  cases hk
  exact World.block_lt_of_cell? w _ (hd 0 _ (iv_get xs 0 hl))
theorem is_keep {T : Nat → Prop} {w w' : World} {v : Value} {xs : List Int} (h : Is w v xs) (hc : Chg T w w') (hn : ∀ k, k < w.heap.size → 0 < xs.length → v.ownBlock = some k → ¬ T k) : Is w' v xs := by
  rcases Nat.eq_zero_or_pos xs.length with h0 | h0
  · obtain ⟨hl, a, cap, rfl, h1, h2, h3, h4⟩ := h
    exact ⟨hl, a, cap, rfl, h1, h2, h3, fun hp => by omega⟩
  · exact sl_chg h hc fun k hk hl => hn k hl h0 hk
theorem FuseAt.keep {U T : Nat → Prop} {w w' : World} {fu : Value} {o : Option (Int × List Int)} (h : FuseAt U w fu o) (hc : Chg T w w') (hn : ∀ k, k < w.heap.size → U k → ¬ T k) : FuseAt U w' fu o := by
  cases o with
  | none => exact h
  | some x =>
    obtain ⟨g, kv, h1, h2, h3, h4, h5⟩ := h
    exact ⟨g, kv, h1, h2.keep hc (hn g h2.lt h3), h3, is_keep h4 hc (fun k hl hp hk => hn k hl (h5 k hp hk).1), h5⟩

/-- The program's disk. -/
structure PDw (S F U : Nat → Prop) (w : World) (p q c : Nat) (cs : Array Value) (vs : Nat → Value) (fu : Value) (st : St) : Prop where
  head : Bk w p 144 #[.slice (some ⟨q, 0, none⟩) st.files.length c, .bool st.off, .int .i64 (st.falls : Int), fu]
  files : Files F w q 146 cs vs st.files
  fuse : FuseAt U w fu st.fuse
  sp : S p
  fs : ∀ k, F k → S k ∧ k ≠ p
  us : ∀ k, U k → S k ∧ k ≠ p
  disj : ∀ k, F k → ¬ U k
  hc : st.files.length ≤ c ∧ c ≤ maxLen
def PD (S : Nat → Prop) (w : World) (p : Nat) (st : St) : Prop := ∃ F U q c cs vs fu, PDw S F U w p q c cs vs fu st

/-- The document's disk. -/
structure RDw (S F U : Nat → Prop) (w : World) (p q c : Nat) (cs : Array Value) (vs : Nat → Value) (bn : Bool) (ops : Int) (kv : Value) (keep : List Int) (st : St) : Prop where
  head : Bk w p 159 #[.slice (some ⟨q, 0, none⟩) st.files.length c, .bool !st.off, .int .i64 (st.falls : Int), .bool bn, .int .i64 ops, kv]
  files : Files F w q 163 cs vs st.files
  keeps : Is w kv keep
  kvb : ∀ k, 0 < keep.length → kv.ownBlock = some k → U k
  fuse : st.fuse = if bn then some (ops, keep) else none
  sp : S p
  fs : ∀ k, F k → S k ∧ k ≠ p
  us : ∀ k, U k → S k ∧ k ≠ p
  disj : ∀ k, F k → ¬ U k
  hc : st.files.length ≤ c ∧ c ≤ maxLen
def RD (S : Nat → Prop) (w : World) (p : Nat) (st : St) : Prop := ∃ F U q c cs vs bn ops kv keep, RDw S F U w p q c cs vs bn ops kv keep st

section
variable {S T S' F U : Nat → Prop} {w w' : World} {p q c : Nat} {cs : Array Value} {vs : Nat → Value} {fu kv : Value} {bn : Bool} {ops : Int} {kl : List Int} {st : St}
theorem PDw.keep (h : PDw S F U w p q c cs vs fu st) (hc : Chg T w w') (hn : ∀ k, k < w.heap.size → S k → ¬ T k) : PDw S F U w' p q c cs vs fu st :=
  ⟨h.head.keep hc (hn p h.head.lt h.sp), h.files.keep hc (fun k hk hf => hn k hk (h.fs k hf).1), h.fuse.keep hc (fun k hk hu => hn k hk (h.us k hu).1), h.sp, h.fs, h.us, h.disj, h.hc⟩
theorem RDw.keep (h : RDw S F U w p q c cs vs bn ops kv kl st) (hc : Chg T w w') (hn : ∀ k, k < w.heap.size → S k → ¬ T k) : RDw S F U w' p q c cs vs bn ops kv kl st :=
  ⟨h.head.keep hc (hn p h.head.lt h.sp), h.files.keep hc (fun k hk hf => hn k hk (h.fs k hf).1), is_keep h.keeps hc (fun k hk hp hu => hn k hk (h.us k (h.kvb k hp hu)).1), h.kvb, h.fuse, h.sp, h.fs, h.us, h.disj, h.hc⟩
theorem PD.keep (h : PD S w p st) (hc : Chg T w w') (hn : ∀ k, k < w.heap.size → S k → ¬ T k) : PD S w' p st := by
  obtain ⟨F, U, q, c, cs, vs, fu, h⟩ := h; exact ⟨F, U, q, c, cs, vs, fu, h.keep hc hn⟩
theorem RD.keep (h : RD S w p st) (hc : Chg T w w') (hn : ∀ k, k < w.heap.size → S k → ¬ T k) : RD S w' p st := by
  obtain ⟨F, U, q, c, cs, vs, bn, ops, kv, keep, h⟩ := h; exact ⟨F, U, q, c, cs, vs, bn, ops, kv, keep, h.keep hc hn⟩
/-- The set may be greater; what it has of what is not there yet counts for nothing. -/
theorem PD.sub (h : PD S w p st) (hs : ∀ k, S k → S' k) : PD S' w p st := by
  obtain ⟨F, U, q, c, cs, vs, fu, h⟩ := h
  exact ⟨F, U, q, c, cs, vs, fu, h.head, h.files, h.fuse, hs _ h.sp, fun k hk => ⟨hs k (h.fs k hk).1, (h.fs k hk).2⟩, fun k hk => ⟨hs k (h.us k hk).1, (h.us k hk).2⟩, h.disj, h.hc⟩
theorem RD.sub (h : RD S w p st) (hs : ∀ k, S k → S' k) : RD S' w p st := by
  obtain ⟨F, U, q, c, cs, vs, bn, ops, kv, keep, h⟩ := h
  exact ⟨F, U, q, c, cs, vs, bn, ops, kv, keep, h.head, h.files, h.keeps, h.kvb, h.fuse, hs _ h.sp, fun k hk => ⟨hs k (h.fs k hk).1, (h.fs k hk).2⟩, fun k hk => ⟨hs k (h.us k hk).1, (h.us k hk).2⟩, h.disj, h.hc⟩
theorem PD.made (h : PD S w p st) (hm : Mk w w') : PD S w' p st := h.keep (Chg.of_mk (S := fun _ => False) hm) fun _ _ _ h => h
theorem RD.made (h : RD S w p st) (hm : Mk w w') : RD S w' p st := h.keep (Chg.of_mk (S := fun _ => False) hm) fun _ _ _ h => h
theorem FuseAt.trim {U : Nat → Prop} {w : World} {fu : Value} {o : Option (Int × List Int)} (h : FuseAt U w fu o) : FuseAt (fun k => U k ∧ k < w.heap.size) w fu o := by
  cases o with
  | none => exact h
  | some x =>
    obtain ⟨g, kv, h1, h2, h3, h4, h5⟩ := h
    exact ⟨g, kv, h1, h2, ⟨h3, h2.lt⟩, h4, fun k hp hk => ⟨⟨(h5 k hp hk).1, is_lt h4 hp hk⟩, (h5 k hp hk).2⟩⟩
/-- One file of the program's disk is another. -/
theorem PDw.put (h : PDw S F U w p q c cs vs fu st) {f : Nat} (hf : f < st.files.length) {cs' : Array Value} {v' : Value} {b' : List UInt8} {n' : Nat}
    (hc : Chg (fun k => k = q ∨ (vs f).ownBlock = some k) w w') (hr : Bk w' q 146 cs') (hs : cs'.size = cs.size)
    (h1 : cs'[f * 2]? = some v') (h2 : cs'[f * 2 + 1]? = some (.int .i64 (n' : Int))) (h3 : ∀ j, j ≠ f * 2 → j ≠ f * 2 + 1 → cs'[j]? = cs[j]?)
    (ho : w'.ownsRow 0 5 1 v' b'.length (bv b')) (hb : ∀ k, v'.ownBlock = some k → (vs f).ownBlock = some k ∨ w.heap.size ≤ k) :
    PDw (Gw S w) (Gw F w) (fun k => U k ∧ k < w.heap.size) w' p q c cs' (fun i => if i = f then v' else vs i) fu (st.put f (b', n')) := by
  have hn : ∀ k, F k → k ≠ p := fun k hk => (h.fs k hk).2
  have hF : ∀ k, k = q ∨ (vs f).ownBlock = some k → F k := by
    rintro k (rfl | hk)
    · exact h.files.at_
    · exact (h.files.blk f k hf hk).1
  have hp := h.head.lt
  refine ⟨?_, h.files.put hf hc hr hs h1 h2 h3 ho (fun k hk => .inl hk) (fun k hk => (hb k hk).imp_right fun e => ⟨e, .inr e⟩), ?_, .inl h.sp, ?_, ?_, ?_, ?_⟩
  · have := h.head.keep hc fun e => hn p (hF p e) rfl
    simpa [St.put] using this
  · exact h.fuse.trim.keep hc fun k _ hu e => h.disj k (hF k e) hu.1
  · rintro k (hk | hk)
    · exact ⟨.inl (h.fs k hk).1, (h.fs k hk).2⟩
    · exact ⟨.inr hk, by omega⟩
  · exact fun k hk => ⟨.inl (h.us k hk.1).1, (h.us k hk.1).2⟩
  · rintro k (hk | hk) hu
    · exact h.disj k hk hu.1
    · have := hu.2; omega
  · simpa [St.put] using h.hc
/-- Without a new block. -/
theorem PDw.cut (h : PDw S F U w p q c cs vs fu st) {f : Nat} (hf : f < st.files.length) {cs' : Array Value} {v' : Value} {b' : List UInt8} {n' : Nat}
    (hc : Chg (fun k => k = q) w w') (hr : Bk w' q 146 cs') (hs : cs'.size = cs.size)
    (h1 : cs'[f * 2]? = some v') (h2 : cs'[f * 2 + 1]? = some (.int .i64 (n' : Int))) (h3 : ∀ j, j ≠ f * 2 → j ≠ f * 2 + 1 → cs'[j]? = cs[j]?)
    (ho : w'.ownsRow 0 5 1 v' b'.length (bv b')) (hb : ∀ k, v'.ownBlock = some k → (vs f).ownBlock = some k) :
    PDw S F U w' p q c cs' (fun i => if i = f then v' else vs i) fu (st.put f (b', n')) := by
  have hp := h.head.lt
  have hqp : p ≠ q := fun e => (h.fs q h.files.at_).2 e.symm
  refine ⟨?_, h.files.put hf (hc.sub fun k _ e => .inl e) hr hs h1 h2 h3 ho (fun k hk => hk) (fun k hk => .inl (hb k hk)), ?_, h.sp, h.fs, h.us, h.disj, ?_⟩
  · have := h.head.keep hc hqp
    simpa [St.put] using this
  · exact h.fuse.keep hc fun k _ hu e => h.disj k (e ▸ h.files.at_) hu
  · simpa [St.put] using h.hc
theorem RDw.put (h : RDw S F U w p q c cs vs bn ops kv kl st) {f : Nat} (hf : f < st.files.length) {cs' : Array Value} {v' : Value} {b' : List UInt8} {n' : Nat}
    (hc : Chg (fun k => k = q ∨ (vs f).ownBlock = some k) w w') (hr : Bk w' q 163 cs') (hs : cs'.size = cs.size)
    (h1 : cs'[f * 2]? = some v') (h2 : cs'[f * 2 + 1]? = some (.int .i64 (n' : Int))) (h3 : ∀ j, j ≠ f * 2 → j ≠ f * 2 + 1 → cs'[j]? = cs[j]?)
    (ho : w'.ownsRow 0 5 1 v' b'.length (bv b')) (hb : ∀ k, v'.ownBlock = some k → (vs f).ownBlock = some k ∨ w.heap.size ≤ k) :
    RDw (Gw S w) (Gw F w) (fun k => U k ∧ k < w.heap.size) w' p q c cs' (fun i => if i = f then v' else vs i) bn ops kv kl (st.put f (b', n')) := by
  have hn : ∀ k, F k → k ≠ p := fun k hk => (h.fs k hk).2
  have hF : ∀ k, k = q ∨ (vs f).ownBlock = some k → F k := by
    rintro k (rfl | hk)
    · exact h.files.at_
    · exact (h.files.blk f k hf hk).1
  have hp := h.head.lt
  refine ⟨?_, h.files.put hf hc hr hs h1 h2 h3 ho (fun k hk => .inl hk) (fun k hk => (hb k hk).imp_right fun e => ⟨e, .inr e⟩), ?_, ?_, h.fuse, .inl h.sp, ?_, ?_, ?_, ?_⟩
  · have := h.head.keep hc fun e => hn p (hF p e) rfl
    simpa [St.put] using this
  · exact is_keep h.keeps hc fun k _ hp hu e => h.disj k (hF k e) (h.kvb k hp hu)
  · exact fun k hp hu => ⟨h.kvb k hp hu, is_lt h.keeps hp hu⟩
  · rintro k (hk | hk)
    · exact ⟨.inl (h.fs k hk).1, (h.fs k hk).2⟩
    · exact ⟨.inr hk, by omega⟩
  · exact fun k hk => ⟨.inl (h.us k hk.1).1, (h.us k hk.1).2⟩
  · rintro k (hk | hk) hu
    · exact h.disj k hk hu.1
    · have := hu.2; omega
  · simpa [St.put] using h.hc
theorem RDw.cut (h : RDw S F U w p q c cs vs bn ops kv kl st) {f : Nat} (hf : f < st.files.length) {cs' : Array Value} {v' : Value} {b' : List UInt8} {n' : Nat}
    (hc : Chg (fun k => k = q) w w') (hr : Bk w' q 163 cs') (hs : cs'.size = cs.size)
    (h1 : cs'[f * 2]? = some v') (h2 : cs'[f * 2 + 1]? = some (.int .i64 (n' : Int))) (h3 : ∀ j, j ≠ f * 2 → j ≠ f * 2 + 1 → cs'[j]? = cs[j]?)
    (ho : w'.ownsRow 0 5 1 v' b'.length (bv b')) (hb : ∀ k, v'.ownBlock = some k → (vs f).ownBlock = some k) :
    RDw S F U w' p q c cs' (fun i => if i = f then v' else vs i) bn ops kv kl (st.put f (b', n')) := by
  have hp := h.head.lt
  have hqp : p ≠ q := fun e => (h.fs q h.files.at_).2 e.symm
  refine ⟨?_, h.files.put hf (hc.sub fun k _ e => .inl e) hr hs h1 h2 h3 ho (fun k hk => hk) (fun k hk => .inl (hb k hk)), ?_, h.kvb, h.fuse, h.sp, h.fs, h.us, h.disj, ?_⟩
  · have := h.head.keep hc hqp
    simpa [St.put] using this
  · exact is_keep h.keeps hc fun k _ hp hu e => h.disj k (e ▸ h.files.at_) (h.kvb k hp hu)
  · simpa [St.put] using h.hc
end
end Go.Dk
