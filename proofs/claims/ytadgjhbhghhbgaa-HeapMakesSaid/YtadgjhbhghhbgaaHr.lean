/-
  PLAIN LAW: what the references 03, 04 and 12 tell of an arena and of a heap that may be.
-/
import Derived.Test.YtadgjhbhghhbgaaHq12
import Derived.Test.YtadgjhbhghhbgaaRf
import Derived.Test.YtadgjhbhghhbgaaHv
namespace Go.Proofs.Ytadgjhbhghhbgaa.Abs
open Go

theorem u64_nonneg (x : Int) : 0 ≤ IntKind.u64.wrap x := by
  show 0 ≤ x % 18446744073709551616
  omega
/-- A reference that may be, and is not 0. -/
theorem ref_gen {r : Int} (h : refOk r = true) (h0 : r ≠ 0) : gen3 r = gnOf r ∧ p3 r = plOf r ∧ 0 ≤ gnOf r ∧ 0 ≤ plOf r ∧ plOf r < 512 := by
  have hz : (r == 0) = false := by simpa using h0
  have h2 := h
  unfold refOk at h2
  rw [hz] at h2
  obtain ⟨h3, h4⟩ := band_t h2
  obtain ⟨h5, h6⟩ := band_t h3
  have h4 := of_decide_eq_true h4
  have h5 := of_decide_eq_true h5
  have h6 := of_decide_eq_true h6
  have hU := u64_nonneg (r.tdiv 65536)
  have hno : noRef r = false := by
    unfold noRef
    rw [hz, h]
    rfl
  have hg : gnOf r = g3 r := by
    unfold gnOf
    rw [hno]
    rfl
  have hp : plOf r = p3 r := by
    unfold plOf
    rw [hno]
    rfl
  have hg3 : g3 r = IntKind.u64.wrap (r.tdiv 65536) := by
    unfold g3
    exact i64_small hU (by omega)
  have hp3 : p3 r = r.tmod 65536 - 1 := by
    unfold p3
    rw [i64_small (x := r.tmod 65536) (by omega) (by omega), i64_small (by omega) (by omega)]
  have his : is3 (p3 r) (g3 r) = true := by
    unfold is3
    rw [hg3, hp3, decide_eq_true (by omega : r.tmod 65536 - 1 ≥ 0), decide_eq_true (by omega : r.tmod 65536 - 1 < 512), decide_eq_true (by omega : IntKind.u64.wrap (r.tdiv 65536) ≥ 0), decide_eq_true h4]
    rfl
  have hgen : gen3 r = g3 r := by
    unfold gen3
    rw [decide_eq_false (by omega : ¬ IntKind.u64.wrap (r.tdiv 65536) > 1048576), his]
    rfl
  exact ⟨hgen.trans hg.symm, hp.symm, by rw [hg, hg3]; exact hU, by rw [hp, hp3]; omega, by rw [hp, hp3]; omega⟩
theorem kidA_S (x : Nd) (i : Nat) : (kidA x).getD i 0 = (kidS x).at_ i := rfl
theorem well_3 {x : Nd} (h : wellB x = true) : well3 x = true := by
  obtain ⟨h1, h2, h3, h4⟩ := well_facts h
  have hk : anyB (kb3 x) 9 = false := anyB_all fun i hi => by
    unfold kb3
    rw [kidA_S]
    have := h4 i hi
    by_cases h0 : (kidS x).at_ i = 0
    · rw [h0]
      rfl
    · have hz : ((kidS x).at_ i != 0) = true := by simpa using h0
      obtain ⟨g1, _, g3, _⟩ := ref_gen this h0
      rw [hz, g1, decide_eq_false (by omega : ¬ gnOf ((kidS x).at_ i) < 0)]
      rfl
  unfold well3 wl3
  rw [hk, decide_eq_true (show x.gen ≥ 0 from h1.1), decide_eq_true h1.2, decide_eq_true (show x.pre ≥ 0 from h2.1), decide_eq_true h2.2, decide_eq_true (show x.suf ≥ 0 from h3.1), decide_eq_true h3.2]
  rfl
theorem cnt3_none {l : Sl Int} {q : Int} : ∀ n, (∀ k, k < n → l.at_ k ≠ q) → cnt3 l q n = 0
  | 0, _ => rfl
  | n + 1, h => by
    rw [cnt3_f (by simpa using h n (Nat.lt_succ_self n))]
    exact cnt3_none n fun k hk => h k (Nat.lt_succ_of_lt hk)
theorem cnt3_one {l : Sl Int} {q : Int} : ∀ n k, k < n → l.at_ k = q → (∀ j, j < n → j ≠ k → l.at_ j ≠ q) → cnt3 l q n = 1
  | 0, k, h, _, _ => absurd h (Nat.not_lt_zero k)
  | n + 1, k, hk, he, h => by
    by_cases hkn : k = n
    · subst hkn
      rw [cnt3_t (by simpa using he), cnt3_none k fun j hj => h j (Nat.lt_succ_of_lt hj) (by omega)]
    · rw [cnt3_f (by simpa using h n (Nat.lt_succ_self n) (fun e => hkn e.symm))]
      exact cnt3_one n k (by omega) he fun j hj hne => h j (Nat.lt_succ_of_lt hj) hne
theorem bare_node {x : Nd} (h : bare x x.gen = true) : nodeEq x ⟨0, x.gen, 0, 0, 0, 0, 0, 0, 0, 0, 0, 0, 0, 0, 0, 0⟩ = true := by
  unfold bare at h
  unfold nodeEq
  exact h
theorem right_4 {a : Ar} (h : RightP a) : right4 a = true := by
  have h1 := h.one
  have h2 := h.max
  have h3 := h.frn
  have e1 : shp4 a = false := by
    unfold shp4
    have hz : ((a.nodes.n : Int) == 0) = false := by
      have : ¬ (a.nodes.n : Int) = 0 := by omega
      simpa using this
    rw [hz, decide_eq_false (by omega : ¬ (a.nodes.n : Int) > 512), decide_eq_false (by omega : ¬ (a.free.n : Int) > a.nodes.n)]
    rfl
  have e2 : anyB (fb4 a) a.free.n = false := anyB_all fun i hi => by
    have := h.fr i hi
    unfold fb4
    rw [decide_eq_false (by omega : ¬ a.free.at_ i < 0), decide_eq_false (by omega : ¬ a.free.at_ i ≥ (a.nodes.n : Int))]
    rfl
  have e3 : anyB (nb4 a) a.nodes.n = false := anyB_all fun q hq => by
    unfold nb4 nbA nbB
    rw [well_3 (h.well q hq)]
    by_cases hk : (a.nodes.at_ q).kind = 0
    · obtain ⟨i, hi, he⟩ := (h.kind q hq).1 hk
      have hc : cnt3 a.free q a.free.n = 1 := cnt3_one _ i hi he fun j hj hne e => by
        rcases Nat.lt_or_ge i j with hl | hl
        · exact h.inj i j hl hj (he.trans e.symm)
        · exact h.inj j i (by omega) hi (e.trans he.symm)
      rw [hc, hk, bare_node (h.bare q hq hk)]
      rfl
    · have hc : cnt3 a.free q a.free.n = 0 := cnt3_none _ fun j hj e => hk ((h.kind q hq).2 ⟨j, hj, e⟩)
      have hz : ((a.nodes.at_ q).kind == 0) = false := by simpa using hk
      rw [hc, hz]
      rfl
  unfold right4
  rw [e1, e2, e3]
  rfl
theorem at_4 {a : Ar} {r : Int} {p : Nat} (h : IsAt a r p) : at4 a r = p := by
  obtain ⟨hok, h0⟩ := h.ok
  obtain ⟨g1, g2, g3, g4, g5⟩ := ref_gen hok h0
  have hz : (r == 0) = false := by simpa using h0
  have hlt := h.lt
  have e1 : atB1 r = false := by
    unfold atB1
    rw [hz, g1, decide_eq_false (by omega : ¬ gnOf r < 0)]
    rfl
  have hp : p3 r = (p : Int) := g2.trans h.pl
  have e2 : atB2 a r = false := by
    unfold atB2
    rw [hp, g1, h.gn]
    have hkd : ((a.nodes.at_ ((p : Nat) : Int).toNat).kind == 0) = false := by simpa using h.kd
    rw [hkd, decide_eq_false (by omega : ¬ (p : Int) ≥ (a.nodes.n : Int))]
    simp
  unfold at4
  rw [e1, e2, hp]
  rfl
theorem bare_nd {g : Int} {x : Item} {s c d : Int} : nodeEq (ndOf g x s c d) (bareH (ndOf g x s c d)) = true := by
  simp [nodeEq, bareH, ndOf]
theorem read_rep {a : Ar} : ∀ (F : Fo) (k : Nat) (t : T3) (r : Int) (least : Item), Rep a r F → Heapy least F → t.ok = true → (∀ p ∈ F.places, ∀ i, i < t.met.n → t.met.at_ i ≠ (p : Int)) → F.places.Nodup → t.met.n + F.size ≤ 201 → F.size < k →
    ∃ t', readF a k t r least = t' ∧ t'.ok = true ∧ toL t'.met = toL t.met ++ F.places.map (fun p : Nat => (p : Int)) ∧ (toL t'.l).Perm (toL t.l ++ F.items) ∧ (Sorted t.l → Sorted t'.l)
  | .nil, k, t, r, least, hr, _, hok, _, _, _, hk => by
    have hr : r = 0 := hr
    subst hr
    obtain ⟨k, rfl⟩ : ∃ q, k = q + 1 := ⟨k - 1, by omega⟩
    exact ⟨t, by rw [readF]; rfl, hok, by simp [Fo.places], by simp [Fo.items], id⟩
  | .node p x kd nx, k, t, r, least, hr, hh, hok, hm, hn, hs, hk => by
    obtain ⟨hat, hnd, hrk, hrn⟩ := hr
    obtain ⟨hle, hhk, hhn⟩ := hh
    obtain ⟨k, rfl⟩ : ∃ q, k = q + 1 := ⟨k - 1, by omega⟩
    have hsz : (Fo.node p x kd nx).size = kd.size + 1 + nx.size := rfl
    rw [hsz] at hs hk
    have hpl : (Fo.node p x kd nx).places = p :: (kd.places ++ nx.places) := rfl
    rw [hpl] at hm hn ⊢
    obtain ⟨hp1, hp2⟩ := List.nodup_cons.1 hn
    obtain ⟨hnk, hnn, hdis⟩ := List.nodup_append.1 hp2
    have hr0 : (r == 0) = false := by simpa using hat.ok.2
    have h4 := at_4 hat
    obtain ⟨X, hX⟩ : ∃ X, a.nodes.at_ p = X := ⟨_, rfl⟩
    rw [hX] at hnd hrk hrn
    have hb1 : rdBad t p = false := by
      unfold rdBad
      rw [decide_eq_false (by omega : ¬ (p : Int) < 0), anyB_all (g := fun i => t.met.at_ i == (p : Int)) fun i hi => by simpa using hm p (by simp) i hi, decide_eq_false (by omega : ¬ (t.met.n : Int) > 200)]
      rfl
    have hit : itmOf X = x := by rw [hnd]; rfl
    have hb2 : rdBad2 X least = false := by
      unfold rdBad2
      rw [hit, hle]
      rw [hnd, bare_nd]
      rfl
    have hadd : toL (rdAdd t p X).met = toL t.met ++ [(p : Int)] := toL_snoc t.met p
    obtain ⟨t2, e2, ok2, m2, l2, s2⟩ := read_rep kd k (rdAdd t p X) X.k0 x hrk hhk hok (fun z hz i hi e => by
      have hi : i < t.met.n + 1 := hi
      have e : (bif Nat.blt i t.met.n then t.met.at_ i else (p : Int)) = (z : Int) := e
      rcases Nat.lt_or_ge i t.met.n with h | h
      · rw [blt_t h] at e
        exact hm z (by simp [hz]) i h e
      · rw [blt_f h] at e
        have e : (p : Int) = z := e
        exact hp1 (by rw [show p = z by omega]; simp [hz])) hnk (by show t.met.n + 1 + kd.size ≤ 201; omega) (by omega)
    have hn2 : t2.met.n = t.met.n + 1 + kd.size := by
      rw [← toL_len t2.met, m2, hadd, List.length_append, List.length_append, List.length_map, Fo.places_len, toL_len]
      rfl
    have hchk : rdChk t.met.n X.s t2 = t2 := by
      unfold rdChk
      have hXs : X.s = (kd.size : Int) + 1 := by rw [hnd]; rfl
      have : (IntKind.i64.wrap ((t2.met.n : Int) - t.met.n) != X.s) = false := by
        rw [hXs, i64_small (by omega) (by omega), hn2]
        simp
        omega
      rw [this]
      rfl
    obtain ⟨t3, e3, ok3, m3, l3, s3⟩ := read_rep nx k t2 X.k1 least hrn hhn ok2 (fun z hz i hi e => by
      have h1 := toL_get t2.met hi
      rw [e] at h1
      have h2 : (z : Int) ∈ toL t2.met := List.mem_of_getElem? h1
      rw [m2, hadd, List.append_assoc, List.mem_append] at h2
      rcases h2 with h2 | h2
      · obtain ⟨j, hj, hje⟩ := List.mem_iff_getElem.1 h2
        have hj' : j < t.met.n := by rw [toL_len] at hj; exact hj
        have h3 := toL_get t.met hj'
        rw [List.getElem?_eq_getElem hj, hje] at h3
        exact hm z (by simp [hz]) j hj' (Option.some.inj h3).symm
      · rw [List.singleton_append, List.mem_cons] at h2
        rcases h2 with h2 | h2
        · exact hp1 (by rw [show p = z by omega]; simp [hz])
        · obtain ⟨y, hy, hye⟩ := List.mem_map.1 h2
          exact hdis y hy z hz (by omega)) hnn (by omega) (by omega)
    refine ⟨t3, ?_, ok3, ?_, ?_, fun h => s3 (s2 (with_sorted h))⟩
    · rw [readF, hr0, hok, h4, hb1]
      show (bif rdBad2 (a.nodes.at_ ((p : Nat) : Int).toNat) least then tNo t else readF a k (rdChk t.met.n (a.nodes.at_ ((p : Nat) : Int).toNat).s (readF a k (rdAdd t p (a.nodes.at_ ((p : Nat) : Int).toNat)) (a.nodes.at_ ((p : Nat) : Int).toNat).k0 (itmOf (a.nodes.at_ ((p : Nat) : Int).toNat)))) (a.nodes.at_ ((p : Nat) : Int).toNat).k1 least) = t3
      rw [Int.toNat_natCast, hX, hb2, hit, e2, hchk]
      exact e3
    · rw [m3, m2, hadd]
      simp
    · refine l3.trans ?_
      refine (List.Perm.append_right _ l2).trans ?_
      have hw : (toL (rdAdd t p X).l).Perm (toL t.l ++ [x]) := by
        show (toL (withI t.l (itmOf X))).Perm _
        rw [hit]
        exact with_perm t.l x
      refine (List.Perm.append_right _ (List.Perm.append_right _ hw)).trans ?_
      simp only [Fo.items, List.append_assoc, List.cons_append]
      exact List.Perm.refl _
/-- The reference's Items of a heap that may be. -/
theorem itms_ok {k : Nat} (hk : 202 ≤ k) {a : Ar} (h : RightP a) {r : Int} {F : Fo} (hr : HeapAt a r F) (hs : F.size ≤ 200) : itmsB k a r = true ∧ (toL (itmsL k a r)).Perm F.items ∧ (toL (itmsL k a r)).Pairwise leI := by
  have h4 := right_4 h
  have key : ∃ t, topF k a t30 r = t ∧ t.ok = true ∧ (toL t.l).Perm F.items ∧ Sorted t.l := by
    rcases hr.one with rfl | ⟨p, x, kd, rfl, hkd⟩
    · have h0 : r = 0 := hr.rep
      subst h0
      exact ⟨t30, rfl, rfl, List.Perm.refl _, fun i j _ hj => absurd hj (Nat.not_lt_zero j)⟩
    · have hrep := hr.rep
      obtain ⟨h1, h2, h3, h5⟩ := hr.rep
      have hr0 : (r == 0) = false := by simpa using h1.ok.2
      have hp4 := at_4 h1
      have htb : topB a p = false := by
        unfold topB
        rw [decide_eq_false (by omega : ¬ (p : Int) < 0), Int.toNat_natCast]
        have : (a.nodes.at_ p).k1 = 0 := h5
        rw [this]
        rfl
      have hit : itmOf (a.nodes.at_ p) = x := by rw [h2]; rfl
      obtain ⟨t, e, ok, _, l, s⟩ := read_rep (.node p x kd .nil) k t30 r x hrep ⟨less_self x, hkd, trivial⟩ rfl (fun _ _ i hi => absurd hi (Nat.not_lt_zero i)) hr.nd (by show 0 + _ ≤ 201; omega) (by omega)
      refine ⟨t, ?_, ok, l, s fun i j _ hj => absurd hj (Nat.not_lt_zero j)⟩
      unfold topF
      rw [hr0, hp4, htb, Int.toNat_natCast, hit]
      exact e
  obtain ⟨t, e, ok, l, s⟩ := key
  have hn : t.l.n = F.size := by rw [← toL_len, l.length_eq, Fo.items_len]
  unfold itmsB itmsL
  rw [h4, e, ok, hn, decide_eq_true (by omega : (F.size : Int) ≤ 200)]
  exact ⟨rfl, l, sorted_toL s⟩
end Go.Proofs.Ytadgjhbhghhbgaa.Abs

/-
  PLAIN LAW: what the references take for an arena, a node, a heap is one.
-/
namespace Go.Proofs.Ytadgjhbhghhbgaa.Abs
open Go

theorem tmod_rng (r : Int) : -65536 < r.tmod 65536 ∧ r.tmod 65536 < 65536 := by
  rcases Int.le_total 0 r with h | h
  · rw [Int.tmod_eq_emod_of_nonneg h]
    omega
  · have e : r = -(-r) := by omega
    rw [e, Int.neg_tmod, Int.tmod_eq_emod_of_nonneg (by omega)]
    omega
theorem gen_ref {r : Int} (h : ¬ gen3 r < 0) (h0 : r ≠ 0) : refOk r = true := by
  obtain ⟨h1, _, h3⟩ := gen3_pos h
  obtain ⟨⟨h4, h5⟩, _⟩ := is3_rng h1
  have hm := tmod_rng r
  have hz : (r == 0) = false := by simpa using h0
  have hp : p3 r = r.tmod 65536 - 1 := by
    unfold p3
    rw [IntKind.wrap_i64, IntKind.wrap_i64]
    omega
  rw [hp] at h4 h5
  unfold refOk
  rw [hz, decide_eq_true (by omega : r.tmod 65536 ≥ 1), decide_eq_true (by omega : r.tmod 65536 ≤ 512), decide_eq_true (by omega : IntKind.u64.wrap (r.tdiv 65536) ≤ 1048576)]
  rfl
theorem well_4 {x : Nd} (h : well3 x = true) : wellB x = true := by
  unfold well3 at h
  cases hk : anyB (kb3 x) 9 with
  | true => rw [hk] at h; cases h
  | false =>
    rw [hk] at h
    have h : wl3 x = true := h
    unfold wl3 at h
    obtain ⟨h, h6⟩ := band_t h
    obtain ⟨h, h5⟩ := band_t h
    obtain ⟨h, h4⟩ := band_t h
    obtain ⟨h, h3⟩ := band_t h
    obtain ⟨h1, h2⟩ := band_t h
    refine well_mk ⟨of_decide_eq_true h1, of_decide_eq_true h2⟩ ⟨of_decide_eq_true h3, of_decide_eq_true h4⟩ ⟨of_decide_eq_true h5, of_decide_eq_true h6⟩ fun i hi => ?_
    have hb := anyB_false.1 hk i hi
    unfold kb3 at hb
    rw [kidA_S] at hb
    by_cases h0 : (kidS x).at_ i = 0
    · rw [h0]
      rfl
    · have hz : ((kidS x).at_ i != 0) = true := by simpa using h0
      rw [hz] at hb
      exact gen_ref (of_decide_eq_false hb) h0
theorem cnt3_zero {l : Sl Int} {q : Int} {n : Nat} (h : cnt3 l q n = 0) : ∀ k, k < n → l.at_ k ≠ q := by
  unfold cnt3 at h
  intro k hk
  have := (List.countP_eq_zero.1 h) k (List.mem_range.2 hk)
  simpa using this
theorem cnt3_inj {l : Sl Int} {q : Int} : ∀ n, cnt3 l q n ≤ 1 → ∀ i j, i < j → j < n → l.at_ i = q → l.at_ j ≠ q
  | 0, _, i, j, _, hj, _ => absurd hj (Nat.not_lt_zero j)
  | n + 1, h, i, j, hij, hj, hi => by
    cases hb : l.at_ n == q with
    | true =>
      rw [cnt3_t hb] at h
      exact absurd hi (cnt3_zero (n := n) (by omega) i (by omega))
    | false =>
      rw [cnt3_f hb] at h
      by_cases e : j = n
      · subst e
        simpa using hb
      · exact cnt3_inj n h i j hij (by omega) hi
theorem node_bare {x : Nd} (h : nodeEq x ⟨0, x.gen, 0, 0, 0, 0, 0, 0, 0, 0, 0, 0, 0, 0, 0, 0⟩ = true) : bare x x.gen = true := by
  unfold bare
  unfold nodeEq at h
  exact h
/-- An arena that may be, the reference says, may be. -/
theorem right_5 {a : Ar} (h : right4 a = true) : RightP a := by
  unfold right4 at h
  cases h1 : shp4 a with
  | true => rw [h1] at h; cases h
  | false =>
    rw [h1] at h
    cases h2 : anyB (fb4 a) a.free.n with
    | true => rw [h2] at h; cases h
    | false =>
      rw [h2] at h
      have h3 : anyB (nb4 a) a.nodes.n = false := by simpa using h
      obtain ⟨s1, s2, s3⟩ := shp4_facts h1
      have hf : ∀ i, i < a.free.n → 0 ≤ a.free.at_ i ∧ a.free.at_ i < a.nodes.n := fun i hi => by
        have := anyB_false.1 h2 i hi
        unfold fb4 at this
        obtain ⟨g1, g2⟩ := bor_f this
        have g1 := of_decide_eq_false g1
        have g2 := of_decide_eq_false g2
        omega
      have hn : ∀ q, q < a.nodes.n → well3 (a.nodes.at_ q) = true ∧ cnt3 a.free q a.free.n ≤ 1 ∧ (cnt3 a.free q a.free.n = 1 ↔ (a.nodes.at_ q).kind = 0) ∧ (cnt3 a.free q a.free.n = 1 → bare (a.nodes.at_ q) (a.nodes.at_ q).gen = true) := fun q hq => by
        have := anyB_false.1 h3 q hq
        unfold nb4 at this
        obtain ⟨g1, g2⟩ := bor_f this
        unfold nbA at g1
        obtain ⟨g1, g4⟩ := bor_f g1
        obtain ⟨g1, g3⟩ := bor_f g1
        have g3 := of_decide_eq_false g3
        have g4 : (((cnt3 a.free q a.free.n : Nat) : Int) == 1) = ((a.nodes.at_ q).kind == 0) := by simpa using g4
        refine ⟨by simpa using g1, by omega, ?_, fun hc => ?_⟩
        · constructor
          · intro e
            rw [e] at g4
            have : ((a.nodes.at_ q).kind == 0) = true := g4.symm
            simpa using this
          · intro e
            have e2 : ((a.nodes.at_ q).kind == 0) = true := by simpa using e
            rw [e2] at g4
            have : ((cnt3 a.free q a.free.n : Nat) : Int) = 1 := by simpa using g4
            omega
        · unfold nbB at g2
          rw [hc] at g2
          refine node_bare ?_
          simpa using g2
      refine ⟨s1, s2, s3, hf, fun i j hij hj he => ?_, fun q hq => well_4 (hn q hq).1, fun q hq => ?_, fun q hq h0 => ?_⟩
      · have hi := hf i (by omega)
        obtain ⟨q, hq⟩ : ∃ q : Nat, (q : Int) = a.free.at_ i := ⟨(a.free.at_ i).toNat, by omega⟩
        exact cnt3_inj (q := (q : Int)) _ (hn q (by omega)).2.1 i j hij hj hq.symm (by rw [← he]; exact hq.symm)
      · rw [← (hn q hq).2.2.1]
        constructor
        · intro e
          refine Classical.byContradiction fun hno => ?_
          have hz : cnt3 a.free q a.free.n = 0 := cnt3_none _ fun k hk he => hno ⟨k, hk, he⟩
          omega
        · rintro ⟨i, hi, he⟩
          have h1 := (hn q hq).2.1
          by_cases hz : cnt3 a.free q a.free.n = 0
          · exact absurd he (cnt3_zero hz i hi)
          · omega
      · exact (hn q hq).2.2.2 ((hn q hq).2.2.1.2 h0)
theorem at_5 {a : Ar} {r : Int} (h : ¬ at4 a r < 0) : ∃ p : Nat, at4 a r = p ∧ IsAt a r p := by
  unfold at4 at h ⊢
  cases h1 : atB1 r with
  | true => rw [h1] at h; exact absurd (by decide : (-1 : Int) < 0) h
  | false =>
    rw [h1] at h
    cases h2 : atB2 a r with
    | true => rw [h2] at h; exact absurd (by decide : (-1 : Int) < 0) h
    | false =>
      obtain ⟨b1, b2⟩ := bor_f h1
      have h0 : r ≠ 0 := by simpa using b1
      have hg := of_decide_eq_false b2
      obtain ⟨g1, g2, g3, g4, g5⟩ := ref_gen (gen_ref hg h0) h0
      unfold atB2 at h2
      obtain ⟨c1, c2⟩ := bor_f h2
      obtain ⟨c1, c3⟩ := bor_f c1
      have c1 := of_decide_eq_false c1
      rw [g2] at c1 c2 c3
      obtain ⟨p, hp⟩ : ∃ p : Nat, plOf r = (p : Int) := ⟨(plOf r).toNat, by omega⟩
      rw [hp, Int.toNat_natCast] at c2 c3
      rw [hp] at c1
      refine ⟨p, ?_, ⟨by omega, hp, ?_, by simpa using c3⟩⟩
      · show p3 r = p
        rw [g2, hp]
      · rw [← g1]
        have : (a.nodes.at_ p).gen = gen3 r := by simpa using c2
        exact this.symm
theorem node_bareH {x : Nd} (h : nodeEq x (bareH x) = true) : x = ndOf x.gen ⟨x.n, x.v⟩ x.s x.k0 x.k1 := by
  simp only [nodeEq, bareH, Bool.and_eq_true, beq_iff_eq, Bool.and_true] at h
  obtain ⟨h1, h2, h3, h4, h5, ⟨h6, h7, h8, h9, h10, h11, h12, h13, h14⟩, h15, h16⟩ := h
  cases x
  simp only [ndOf, Nd.mk.injEq] at *
  simp_all
theorem mem_toL {l : Sl Int} {x : Int} : x ∈ toL l ↔ ∃ i, i < l.n ∧ l.at_ i = x := by
  unfold toL
  simp
/-- What Read takes for heaps next to each other is a forest. -/
theorem read_fo {a : Ar} : ∀ (k : Nat) (t : T3) (r : Int) (least : Item), RdOk t → 202 ≤ t.met.n + k → (readF a k t r least).ok = true →
    ∃ F, Rep a r F ∧ Heapy least F ∧ t.ok = true ∧ (∀ p ∈ F.places, (p : Int) ∉ toL t.met) ∧ F.places.Nodup ∧ toL (readF a k t r least).met = toL t.met ++ F.places.map (fun p : Nat => (p : Int)) ∧ (readF a k t r least).l.n = t.l.n + F.size
  | 0, t, _, _, h, hk, _ => by
    have := h.1
    omega
  | k + 1, t, r, least, h, hk, hok => by
    rw [readF] at hok ⊢
    cases h1 : (bif r == 0 then true else !t.ok) with
    | true =>
      rw [h1] at hok
      have hok : t.ok = true := hok
      have hr : r = 0 := by
        cases hz : r == 0 with
        | true => simpa using hz
        | false =>
          rw [hz, hok] at h1
          cases h1
      exact ⟨.nil, hr, trivial, hok, fun p hp => by simp [Fo.places] at hp, by simp [Fo.places], by simp [Fo.places], rfl⟩
    | false =>
      rw [h1] at hok
      obtain ⟨_, ht⟩ := bor_f h1
      have ht : t.ok = true := by simpa using ht
      cases h2 : rdBad t (at4 a r) with
      | true => rw [h2] at hok; cases hok
      | false =>
        rw [h2] at hok
        obtain ⟨q0, hn⟩ := rdBad_n h2
        obtain ⟨p, hp, hat⟩ := at_5 q0
        rw [hp, Int.toNat_natCast] at hok ⊢
        obtain ⟨X, hX⟩ : ∃ X, a.nodes.at_ p = X := ⟨_, rfl⟩
        rw [hX] at hok ⊢
        cases h3 : rdBad2 X least with
        | true => rw [h3] at hok; cases hok
        | false =>
          rw [h3] at hok
          simp only [cond_false] at hok ⊢
          have hr1 : RdOk (rdAdd t p X) := ⟨show t.met.n + 1 ≤ 201 by omega, show t.l.n + 1 ≤ t.met.n + 1 by have := h.2; omega⟩
          obtain ⟨u, hu⟩ : ∃ u, readF a k (rdAdd t p X) X.k0 (itmOf X) = u := ⟨_, rfl⟩
          obtain ⟨r2, r3⟩ := readF_ok a k (rdAdd t p X) X.k0 (itmOf X) hr1
          rw [hu] at hok ⊢ r2 r3
          have r3 : t.met.n + 1 ≤ u.met.n := r3
          obtain ⟨m1, m2⟩ := rdChk_met t.met.n X.s u
          have hr2 : RdOk (rdChk t.met.n X.s u) := ⟨by rw [m1]; exact r2.1, by rw [m1, m2]; exact r2.2⟩
          obtain ⟨nx, n1, n2, n3, n4, n5, n6, n7⟩ := read_fo k _ _ _ hr2 (by rw [m1]; omega) hok
          have hck : (IntKind.i64.wrap ((u.met.n : Int) - t.met.n) != X.s) = false ∧ u.ok = true := by
            unfold rdChk at n3
            cases hb : (IntKind.i64.wrap ((u.met.n : Int) - t.met.n) != X.s) with
            | true => rw [hb] at n3; cases n3
            | false => rw [hb] at n3; exact ⟨rfl, n3⟩
          obtain ⟨kd, k1, k2, k3, k4, k5, k6, k7⟩ := read_fo k (rdAdd t p X) X.k0 (itmOf X) hr1 (by show 202 ≤ t.met.n + 1 + k; omega) (by rw [hu]; exact hck.2)
          rw [hu] at k6 k7
          rw [m1] at n4 n6
          rw [m2] at n7
          have hadd : toL (rdAdd t p X).met = toL t.met ++ [(p : Int)] := toL_snoc t.met p
          rw [hadd] at k4 k6
          have hun : u.met.n = t.met.n + 1 + kd.size := by
            rw [← toL_len u.met, k6, List.length_append, List.length_append, List.length_map, Fo.places_len, toL_len]
            rfl
          have hs : X.s = (kd.size : Int) + 1 := by
            have hw : IntKind.i64.wrap ((u.met.n : Int) - t.met.n) = X.s := by simpa using hck.1
            rw [i64_small (by have := r2.1; omega) (by have := r2.1; omega)] at hw
            omega
          obtain ⟨b1, b2⟩ := bor_f h3
          have b1 : nodeEq X (bareH X) = true := by simpa using b1
          have hN := node_bareH b1
          have hpm : (p : Int) ∉ toL t.met := fun hm => by
            obtain ⟨i, hi, he⟩ := mem_toL.1 hm
            obtain ⟨c1, c2⟩ := bor_f h2
            have := anyB_false.1 (bor_f c1).2 i hi
            rw [hp] at this
            simp [he] at this
          refine ⟨.node p (itmOf X) kd nx, ⟨hat, ?_, ?_, ?_⟩, ⟨b2, k2, n2⟩, ht, fun z hz hm => ?_, ?_, ?_, ?_⟩
          · rw [hX, ← hs]
            exact hN
          · rw [hX]
            exact k1
          · rw [hX]
            exact n1
          · simp only [Fo.places, List.mem_cons, List.mem_append] at hz
            rcases hz with rfl | hz | hz
            · exact hpm hm
            · exact k4 z hz (by simp [hm])
            · refine n4 z hz ?_
              rw [k6]
              simp [hm]
          · refine List.nodup_cons.2 ⟨fun hz => ?_, List.nodup_append.2 ⟨k5, n5, fun x hx y hy e => ?_⟩⟩
            · rcases List.mem_append.1 hz with hz | hz
              · exact k4 p hz (by simp)
              · refine n4 p hz ?_
                rw [k6]
                simp
            · subst e
              refine n4 x hy ?_
              rw [k6]
              simp only [List.mem_append, List.mem_map]
              exact .inr ⟨x, hx, rfl⟩
          · rw [n6, k6]
            simp [Fo.places]
          · rw [n7, k7]
            show t.l.n + 1 + kd.size + nx.size = t.l.n + (kd.size + 1 + nx.size)
            omega
/-- What the reference takes for a heap is one. -/
theorem itms_fo {k : Nat} (hk : 202 ≤ k) {a : Ar} {r : Int} (hr : RngK r) (h : itmsB k a r = true) : RightP a ∧ ∃ F, HeapAt a r F ∧ F.size ≤ 200 := by
  unfold itmsB at h
  cases h4 : right4 a with
  | false => rw [h4] at h; cases h
  | true =>
    rw [h4] at h
    refine ⟨right_5 h4, ?_⟩
    obtain ⟨h1, h2⟩ := band_t (show (bif (bif (topF k a t30 r).ok then decide (((topF k a t30 r).l.n : Int) ≤ 200) else false) then true else false) = true by simpa using h)
    obtain ⟨h1, h2⟩ := band_t h1
    have h2 := of_decide_eq_true h2
    by_cases h0 : r = 0
    · subst h0
      exact ⟨.nil, HeapAt.nil a, Nat.zero_le _⟩
    · have hz : (r == 0) = false := by simpa using h0
      unfold topF at h1 h2
      rw [hz] at h1 h2
      cases hb : topB a (at4 a r) with
      | true => rw [hb] at h1; cases h1
      | false =>
        rw [hb] at h1 h2
        simp only [cond_false] at h1 h2
        obtain ⟨b1, b2⟩ := bor_f hb
        obtain ⟨p, hp, hat⟩ := at_5 (of_decide_eq_false b1)
        rw [hp, Int.toNat_natCast] at h1 h2 b2
        obtain ⟨F, f1, f2, f3, f4, f5, f6, f7⟩ := read_fo k t30 r _ t30_ok (by show 202 ≤ 0 + k; omega) h1
        rw [f7] at h2
        have h2 : F.size ≤ 200 := by
          have : ((0 + F.size : Nat) : Int) ≤ 200 := h2
          omega
        refine ⟨F, ⟨f1, ?_, f5, hr⟩, h2⟩
        cases F with
        | nil => exact .inl rfl
        | node q x kd nx =>
          obtain ⟨g1, g2, g3, g4⟩ := f1
          have hqp : q = p := by
            have := g1.pl
            rw [hat.pl] at this
            omega
          subst hqp
          have hk1 : (a.nodes.at_ q).k1 = 0 := by simpa using b2
          rw [hk1] at g4
          cases nx with
          | nil => exact .inr ⟨q, x, kd, rfl, f2.2.1⟩
          | node p' x' k' n' => exact absurd rfl g4.1.ok.2
/-- Heaps are what the reference says. -/
theorem hpOk_itms {k : Nat} (hk : 202 ≤ k) {a : Ar} {r : Int} (hr : RngK r) : hpOk a r = itmsB k a r := by
  cases h : itmsB k a r with
  | true =>
    obtain ⟨h1, F, h2, h3⟩ := itms_fo hk hr h
    unfold hpOk
    rw [rightB_iff.2 h1, hpNo_ok h2 h3]
    rfl
  | false =>
    cases h2 : hpOk a r with
    | false => rfl
    | true =>
      obtain ⟨h1, F, hF, hs⟩ := hpOk_fo hr h2
      rw [(itms_ok hk h1 hF hs).1] at h
      cases h
end Go.Proofs.Ytadgjhbhghhbgaa.Abs

/-
  HeapTells, plainly.
-/
namespace Go.Proofs.Ytadgjhbhghhbgaa.Abs
open Go
set_option maxRecDepth 10000

/-- An arena cut: at most 60 nodes, 62 free places. -/
def fewA (a : Ar) : Ar := ⟨⟨min a.nodes.n 60, a.nodes.at_⟩, ⟨min a.free.n 62, a.free.at_⟩⟩
structure Tells (a : Ar) (r : Int) (L : Sl Item) (e : Int) (x : Item) (g : Int) (W : Sl Item) (ok : Bool) : Prop where
  right : hpOk a r = ok
  no : ok = false → e = 1 ∧ L.n = 0 ∧ x = it0 ∧ g = 1 ∧ (∀ y, (insA a r y).2.2 = 1) ∧ (meldA a r 0).2.2 = 1 ∧ (popC a r).2.2.1 = 1
  yes : ok = true → e = 0 ∧ sameI L W = true ∧ L.n = W.n ∧ (L.n = 0 → g = 3 ∧ x = it0) ∧ (0 < L.n → g = 0 ∧ x = W.at_ 0)
theorem tells_ok {k : Nat} (hk : 202 ≤ k) {a : Ar} {r : Int} (hr : RngK r) : Tells a r (itemsL a r) (itemsE a r) (minX a r) (minE a r) (itmsL k a r) (itmsB k a r) := by
  have h := hpOk_itms hk (a := a) hr
  refine ⟨h, fun hno => ?_, fun hyes => ?_⟩
  · rw [hno] at h
    have e1 : (bif (reachE a != 0) then true else !hpOk a r) = true := by
      rw [h]
      cases (reachE a != 0) <;> rfl
    have e2 : minE a r = 1 := by
      unfold minE
      rw [h]
      rfl
    refine ⟨?_, ?_, ?_, e2, fun y => ?_, ?_, ?_⟩
    · unfold itemsE
      rw [e1]
      rfl
    · unfold itemsL
      rw [e1]
      rfl
    · unfold minX
      rw [e2]
      rfl
    · unfold insA
      rw [h]
      rfl
    · have e3 : hpRight a (lst [r, 0]) = false := by
        unfold hpOk at h
        unfold hpRight
        cases hb : rightB a with
        | false => rfl
        | true =>
          rw [hb] at h
          have h : hpNo a r = true := by simpa using h
          rw [anyB_hit (g := fun i => hpNo a ((lst [r, 0]).at_ i)) (i := 0) (by show 0 < 2; omega) h]
          rfl
      unfold meldA callMel
      rw [e3]
      rfl
    · unfold popC
      rw [h]
      rfl
  · obtain ⟨h1, F, hF, hs⟩ := itms_fo hk hr hyes
    obtain ⟨i1, i2, i3⟩ := itms_ok hk h1 hF hs
    obtain ⟨j1, j2, j3, j4⟩ := items_ok h1 hF hs
    have heq := sorted_eq (j2.trans i2.symm) j3 i3
    have hn : (itemsL a r).n = (itmsL k a r).n := by rw [← toL_len, heq, toL_len]
    refine ⟨j1, same_ok heq, hn, fun h0 => ?_, fun h0 => ?_⟩
    · rw [j4] at h0
      cases F with
      | node p x kd nx => exact absurd h0 (by simp [Fo.size])
      | nil =>
        have hr0 : r = 0 := hF.rep
        have e2 : minE a r = 3 := by
          unfold minE
          rw [h, hyes, hr0]
          rfl
        refine ⟨e2, ?_⟩
        unfold minX
        rw [e2]
        rfl
    · rcases hF.one with rfl | ⟨p, y, kd, rfl, hkd⟩
      · rw [j4] at h0
        exact absurd h0 (Nat.lt_irrefl 0)
      · obtain ⟨m1, m2⟩ := min_ok h1 hF hs
        refine ⟨m1, m2.trans ?_⟩
        have hit : (Fo.node p y kd .nil).items = y :: kd.items := by simp [Fo.items]
        rw [hit] at i2
        obtain ⟨L', e, _, _⟩ := sorted_head i2 i3 (heapy_all hkd)
        have := toL_get (itmsL k a r) (i := 0) (by omega)
        rw [e] at this
        exact Option.some.inj this

end Go.Proofs.Ytadgjhbhghhbgaa.Abs
