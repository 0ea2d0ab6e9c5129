/-
  PLAIN LAW: what the references 03, 04 and 12 tell of an arena and of a heap that may be.
-/
import Derived.Test.YtadgjhbhghhbgaaHq12
import Derived.Test.YtadgjhbhghhbgaaRf
namespace Go.Proofs.Ytadgjhbhghhbgaa.Abs
open Go

theorem u64_nonneg (x : Int) : 0 ≤ IntKind.u64.wrap x := by
  show 0 ≤ x % 18446744073709551616
  omega
/-- A reference that may be, and is not 0. -/
theorem ref_gen {r : Int} (h : refOk r = true) (h0 : r ≠ 0) : gen3 r = gnOf r ∧ p3 r = plOf r ∧ 0 ≤ gnOf r ∧ 0 ≤ plOf r ∧ plOf r < 512 := by
  have hz : (r == 0) = false := by simpa using h0
  have h2 := h
  unfold refOk at h2
  rw [hz] at h2
  obtain ⟨h3, h4⟩ := band_t h2
  obtain ⟨h5, h6⟩ := band_t h3
  have h4 := of_decide_eq_true h4
  have h5 := of_decide_eq_true h5
  have h6 := of_decide_eq_true h6
  have hU := u64_nonneg (r.tdiv 65536)
  have hno : noRef r = false := by
    unfold noRef
    rw [hz, h]
    rfl
  have hg : gnOf r = g3 r := by
    unfold gnOf
    rw [hno]
    rfl
  have hp : plOf r = p3 r := by
    unfold plOf
    rw [hno]
    rfl
  have hg3 : g3 r = IntKind.u64.wrap (r.tdiv 65536) := by
    unfold g3
    exact i64_small hU (by omega)
  have hp3 : p3 r = r.tmod 65536 - 1 := by
    unfold p3
    rw [i64_small (x := r.tmod 65536) (by omega) (by omega), i64_small (by omega) (by omega)]
  have his : is3 (p3 r) (g3 r) = true := by
    unfold is3
    rw [hg3, hp3, decide_eq_true (by omega : r.tmod 65536 - 1 ≥ 0), decide_eq_true (by omega : r.tmod 65536 - 1 < 512), decide_eq_true (by omega : IntKind.u64.wrap (r.tdiv 65536) ≥ 0), decide_eq_true h4]
    rfl
  have hgen : gen3 r = g3 r := by
    unfold gen3
    rw [decide_eq_false (by omega : ¬ IntKind.u64.wrap (r.tdiv 65536) > 1048576), his]
    rfl
  exact ⟨hgen.trans hg.symm, hp.symm, by rw [hg, hg3]; exact hU, by rw [hp, hp3]; omega, by rw [hp, hp3]; omega⟩
theorem kidA_S (x : Nd) (i : Nat) : (kidA x).getD i 0 = (kidS x).at_ i := rfl
theorem well_3 {x : Nd} (h : wellB x = true) : well3 x = true := by
  obtain ⟨h1, h2, h3, h4⟩ := well_facts h
  have hk : anyB (kb3 x) 9 = false := anyB_all fun i hi => by
    unfold kb3
    rw [kidA_S]
    have := h4 i hi
    by_cases h0 : (kidS x).at_ i = 0
    · rw [h0]
      rfl
    · have hz : ((kidS x).at_ i != 0) = true := by simpa using h0
      obtain ⟨g1, _, g3, _⟩ := ref_gen this h0
      rw [hz, g1, decide_eq_false (by omega : ¬ gnOf ((kidS x).at_ i) < 0)]
      rfl
  unfold well3 wl3
  rw [hk, decide_eq_true (show x.gen ≥ 0 from h1.1), decide_eq_true h1.2, decide_eq_true (show x.pre ≥ 0 from h2.1), decide_eq_true h2.2, decide_eq_true (show x.suf ≥ 0 from h3.1), decide_eq_true h3.2]
  rfl
theorem cnt3_none {l : Sl Int} {q : Int} : ∀ n, (∀ k, k < n → l.at_ k ≠ q) → cnt3 l q n = 0
  | 0, _ => rfl
  | n + 1, h => by
    rw [cnt3_f (by simpa using h n (Nat.lt_succ_self n))]
    exact cnt3_none n fun k hk => h k (Nat.lt_succ_of_lt hk)
theorem cnt3_one {l : Sl Int} {q : Int} : ∀ n k, k < n → l.at_ k = q → (∀ j, j < n → j ≠ k → l.at_ j ≠ q) → cnt3 l q n = 1
  | 0, k, h, _, _ => absurd h (Nat.not_lt_zero k)
  | n + 1, k, hk, he, h => by
    by_cases hkn : k = n
    · subst hkn
      rw [cnt3_t (by simpa using he), cnt3_none k fun j hj => h j (Nat.lt_succ_of_lt hj) (by omega)]
    · rw [cnt3_f (by simpa using h n (Nat.lt_succ_self n) (fun e => hkn e.symm))]
      exact cnt3_one n k (by omega) he fun j hj hne => h j (Nat.lt_succ_of_lt hj) hne
theorem bare_node {x : Nd} (h : bare x x.gen = true) : nodeEq x ⟨0, x.gen, 0, 0, 0, 0, 0, 0, 0, 0, 0, 0, 0, 0, 0, 0⟩ = true := by
  unfold bare at h
  unfold nodeEq
  exact h
theorem right_4 {a : Ar} (h : RightP a) : right4 a = true := by
  have h1 := h.one
  have h2 := h.max
  have h3 := h.frn
  have e1 : shp4 a = false := by
    unfold shp4
    have hz : ((a.nodes.n : Int) == 0) = false := by
      have : ¬ (a.nodes.n : Int) = 0 := by omega
      simpa using this
    rw [hz, decide_eq_false (by omega : ¬ (a.nodes.n : Int) > 512), decide_eq_false (by omega : ¬ (a.free.n : Int) > a.nodes.n)]
    rfl
  have e2 : anyB (fb4 a) a.free.n = false := anyB_all fun i hi => by
    have := h.fr i hi
    unfold fb4
    rw [decide_eq_false (by omega : ¬ a.free.at_ i < 0), decide_eq_false (by omega : ¬ a.free.at_ i ≥ (a.nodes.n : Int))]
    rfl
  have e3 : anyB (nb4 a) a.nodes.n = false := anyB_all fun q hq => by
    unfold nb4 nbA nbB
    rw [well_3 (h.well q hq)]
    by_cases hk : (a.nodes.at_ q).kind = 0
    · obtain ⟨i, hi, he⟩ := (h.kind q hq).1 hk
      have hc : cnt3 a.free q a.free.n = 1 := cnt3_one _ i hi he fun j hj hne e => by
        rcases Nat.lt_or_ge i j with hl | hl
        · exact h.inj i j hl hj (he.trans e.symm)
        · exact h.inj j i (by omega) hi (e.trans he.symm)
      rw [hc, hk, bare_node (h.bare q hq hk)]
      rfl
    · have hc : cnt3 a.free q a.free.n = 0 := cnt3_none _ fun j hj e => hk ((h.kind q hq).2 ⟨j, hj, e⟩)
      have hz : ((a.nodes.at_ q).kind == 0) = false := by simpa using hk
      rw [hc, hz]
      rfl
  unfold right4
  rw [e1, e2, e3]
  rfl
theorem at_4 {a : Ar} {r : Int} {p : Nat} (h : IsAt a r p) : at4 a r = p := by
  obtain ⟨hok, h0⟩ := h.ok
  obtain ⟨g1, g2, g3, g4, g5⟩ := ref_gen hok h0
  have hz : (r == 0) = false := by simpa using h0
  have hlt := h.lt
  have e1 : atB1 r = false := by
    unfold atB1
    rw [hz, g1, decide_eq_false (by omega : ¬ gnOf r < 0)]
    rfl
  have hp : p3 r = (p : Int) := g2.trans h.pl
  have e2 : atB2 a r = false := by
    unfold atB2
    rw [hp, g1, h.gn]
    have hkd : ((a.nodes.at_ ((p : Nat) : Int).toNat).kind == 0) = false := by simpa using h.kd
    rw [hkd, decide_eq_false (by omega : ¬ (p : Int) ≥ (a.nodes.n : Int))]
    simp
  unfold at4
  rw [e1, e2, hp]
  rfl
theorem bare_nd {g : Int} {x : Item} {s c d : Int} : nodeEq (ndOf g x s c d) (bareH (ndOf g x s c d)) = true := by
  simp [nodeEq, bareH, ndOf]
theorem read_rep {a : Ar} : ∀ (F : Fo) (k : Nat) (t : T3) (r : Int) (least : Item), Rep a r F → Heapy least F → t.ok = true → (∀ p ∈ F.places, ∀ i, i < t.met.n → t.met.at_ i ≠ (p : Int)) → F.places.Nodup → t.met.n + F.size ≤ 201 → F.size < k →
    ∃ t', readF a k t r least = t' ∧ t'.ok = true ∧ toL t'.met = toL t.met ++ F.places.map (fun p : Nat => (p : Int)) ∧ (toL t'.l).Perm (toL t.l ++ F.items) ∧ (Sorted t.l → Sorted t'.l)
  | .nil, k, t, r, least, hr, _, hok, _, _, _, hk => by
    have hr : r = 0 := hr
    subst hr
    obtain ⟨k, rfl⟩ : ∃ q, k = q + 1 := ⟨k - 1, by omega⟩
    exact ⟨t, by rw [readF]; rfl, hok, by simp [Fo.places], by simp [Fo.items], id⟩
  | .node p x kd nx, k, t, r, least, hr, hh, hok, hm, hn, hs, hk => by
    obtain ⟨hat, hnd, hrk, hrn⟩ := hr
    obtain ⟨hle, hhk, hhn⟩ := hh
    obtain ⟨k, rfl⟩ : ∃ q, k = q + 1 := ⟨k - 1, by omega⟩
    have hsz : (Fo.node p x kd nx).size = kd.size + 1 + nx.size := rfl
    rw [hsz] at hs hk
    have hpl : (Fo.node p x kd nx).places = p :: (kd.places ++ nx.places) := rfl
    rw [hpl] at hm hn ⊢
    obtain ⟨hp1, hp2⟩ := List.nodup_cons.1 hn
    obtain ⟨hnk, hnn, hdis⟩ := List.nodup_append.1 hp2
    have hr0 : (r == 0) = false := by simpa using hat.ok.2
    have h4 := at_4 hat
    obtain ⟨X, hX⟩ : ∃ X, a.nodes.at_ p = X := ⟨_, rfl⟩
    rw [hX] at hnd hrk hrn
    have hb1 : rdBad t p = false := by
      unfold rdBad
      rw [decide_eq_false (by omega : ¬ (p : Int) < 0), anyB_all (g := fun i => t.met.at_ i == (p : Int)) fun i hi => by simpa using hm p (by simp) i hi, decide_eq_false (by omega : ¬ (t.met.n : Int) > 200)]
      rfl
    have hit : itmOf X = x := by rw [hnd]; rfl
    have hb2 : rdBad2 X least = false := by
      unfold rdBad2
      rw [hit, hle]
      rw [hnd, bare_nd]
      rfl
    have hadd : toL (rdAdd t p X).met = toL t.met ++ [(p : Int)] := toL_snoc t.met p
    obtain ⟨t2, e2, ok2, m2, l2, s2⟩ := read_rep kd k (rdAdd t p X) X.k0 x hrk hhk hok (fun z hz i hi e => by
      have hi : i < t.met.n + 1 := hi
      have e : (bif Nat.blt i t.met.n then t.met.at_ i else (p : Int)) = (z : Int) := e
      rcases Nat.lt_or_ge i t.met.n with h | h
      · rw [blt_t h] at e
        exact hm z (by simp [hz]) i h e
      · rw [blt_f h] at e
        have e : (p : Int) = z := e
        exact hp1 (by rw [show p = z by omega]; simp [hz])) hnk (by show t.met.n + 1 + kd.size ≤ 201; omega) (by omega)
    have hn2 : t2.met.n = t.met.n + 1 + kd.size := by
      rw [← toL_len t2.met, m2, hadd, List.length_append, List.length_append, List.length_map, Fo.places_len, toL_len]
      rfl
    have hchk : rdChk t.met.n X.s t2 = t2 := by
      unfold rdChk
      have hXs : X.s = (kd.size : Int) + 1 := by rw [hnd]; rfl
      have : (IntKind.i64.wrap ((t2.met.n : Int) - t.met.n) != X.s) = false := by
        rw [hXs, i64_small (by omega) (by omega), hn2]
        simp
        omega
      rw [this]
      rfl
    obtain ⟨t3, e3, ok3, m3, l3, s3⟩ := read_rep nx k t2 X.k1 least hrn hhn ok2 (fun z hz i hi e => by
      have h1 := toL_get t2.met hi
      rw [e] at h1
      have h2 : (z : Int) ∈ toL t2.met := List.mem_of_getElem? h1
      rw [m2, hadd, List.append_assoc, List.mem_append] at h2
      rcases h2 with h2 | h2
      · obtain ⟨j, hj, hje⟩ := List.mem_iff_getElem.1 h2
        have hj' : j < t.met.n := by rw [toL_len] at hj; exact hj
        have h3 := toL_get t.met hj'
        rw [List.getElem?_eq_getElem hj, hje] at h3
        exact hm z (by simp [hz]) j hj' (Option.some.inj h3).symm
      · rw [List.singleton_append, List.mem_cons] at h2
        rcases h2 with h2 | h2
        · exact hp1 (by rw [show p = z by omega]; simp [hz])
        · obtain ⟨y, hy, hye⟩ := List.mem_map.1 h2
          exact hdis y hy z hz (by omega)) hnn (by omega) (by omega)
    refine ⟨t3, ?_, ok3, ?_, ?_, fun h => s3 (s2 (with_sorted h))⟩
    · rw [readF, hr0, hok, h4, hb1]
      show (bif rdBad2 (a.nodes.at_ ((p : Nat) : Int).toNat) least then tNo t else readF a k (rdChk t.met.n (a.nodes.at_ ((p : Nat) : Int).toNat).s (readF a k (rdAdd t p (a.nodes.at_ ((p : Nat) : Int).toNat)) (a.nodes.at_ ((p : Nat) : Int).toNat).k0 (itmOf (a.nodes.at_ ((p : Nat) : Int).toNat)))) (a.nodes.at_ ((p : Nat) : Int).toNat).k1 least) = t3
      rw [Int.toNat_natCast, hX, hb2, hit, e2, hchk]
      exact e3
    · rw [m3, m2, hadd]
      simp
    · refine l3.trans ?_
      refine (List.Perm.append_right _ l2).trans ?_
      have hw : (toL (rdAdd t p X).l).Perm (toL t.l ++ [x]) := by
        show (toL (withI t.l (itmOf X))).Perm _
        rw [hit]
        exact with_perm t.l x
      refine (List.Perm.append_right _ (List.Perm.append_right _ hw)).trans ?_
      simp only [Fo.items, List.append_assoc, List.cons_append]
      exact List.Perm.refl _
/-- The reference's Items of a heap that may be. -/
theorem itms_ok {k : Nat} (hk : 202 ≤ k) {a : Ar} (h : RightP a) {r : Int} {F : Fo} (hr : HeapAt a r F) (hs : F.size ≤ 200) : itmsB k a r = true ∧ (toL (itmsL k a r)).Perm F.items ∧ (toL (itmsL k a r)).Pairwise leI := by
  have h4 := right_4 h
  have key : ∃ t, topF k a t30 r = t ∧ t.ok = true ∧ (toL t.l).Perm F.items ∧ Sorted t.l := by
    rcases hr.one with rfl | ⟨p, x, kd, rfl, hkd⟩
    · have h0 : r = 0 := hr.rep
      subst h0
      exact ⟨t30, rfl, rfl, List.Perm.refl _, fun i j _ hj => absurd hj (Nat.not_lt_zero j)⟩
    · have hrep := hr.rep
      obtain ⟨h1, h2, h3, h5⟩ := hr.rep
      have hr0 : (r == 0) = false := by simpa using h1.ok.2
      have hp4 := at_4 h1
      have htb : topB a p = false := by
        unfold topB
        rw [decide_eq_false (by omega : ¬ (p : Int) < 0), Int.toNat_natCast]
        have : (a.nodes.at_ p).k1 = 0 := h5
        rw [this]
        rfl
      have hit : itmOf (a.nodes.at_ p) = x := by rw [h2]; rfl
      obtain ⟨t, e, ok, _, l, s⟩ := read_rep (.node p x kd .nil) k t30 r x hrep ⟨less_self x, hkd, trivial⟩ rfl (fun _ _ i hi => absurd hi (Nat.not_lt_zero i)) hr.nd (by show 0 + _ ≤ 201; omega) (by omega)
      refine ⟨t, ?_, ok, l, s fun i j _ hj => absurd hj (Nat.not_lt_zero j)⟩
      unfold topF
      rw [hr0, hp4, htb, Int.toNat_natCast, hit]
      exact e
  obtain ⟨t, e, ok, l, s⟩ := key
  have hn : t.l.n = F.size := by rw [← toL_len, l.length_eq, Fo.items_len]
  unfold itmsB itmsL
  rw [h4, e, ok, hn, decide_eq_true (by omega : (F.size : Int) ≤ 200)]
  exact ⟨rfl, l, sorted_toL s⟩
end Go.Proofs.Ytadgjhbhghhbgaa.Abs
