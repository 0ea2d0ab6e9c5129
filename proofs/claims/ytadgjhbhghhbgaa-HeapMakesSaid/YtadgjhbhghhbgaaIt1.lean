/-
  THE LIBRARY'S ITERATORS: slices.Chunk's, slices.Backward's, on rows of references.
-/
import Derived.RangeFuncBox
import Derived.RangeFuncLeaves
import Derived.Shelf.Abstract
import Derived.Shelf.RegionOpen
import Derived.WalkKit
import Derived.OwnWalkIn
import Derived.TacticsInMore
import Derived.LoopNIn
import Derived.LoopIn
import Derived.Test.YtadgjhbhghhbgaaX9
import Derived.Test.YtadgjhbhghhbgaaHp5
import Derived.Test.YtadgjhbhghhbgaaX7
namespace Go.Proofs.Ytadgjhbhghhbgaa.Abs
open Go Go.RowKit Go.Shelf
attribute [local go_sem] Oper.semAt_some
theorem wrapK (n : Int) (h : -9223372036854775808 ≤ n) (h' : n ≤ 9223372036854775807) : wrap64 n = n := by unfold wrap64; omega
set_option maxRecDepth 100000 in
set_option maxHeartbeats 2000000 in
theorem back_iter (s : Sl Int) : IterOk Try.prog 85 1 (fun _ => .vptr 1 fun _ => slI refE s) s.n (fun i => [iint ((s.n - 1 - i : Nat) : Int), .one (.imm (refE.f (s.at_ (s.n - 1 - i)) 0))]) := by
  intro w O lb hO hlb hcap l J Jx clJ clJx ltJ hY h0
  obtain ⟨v, rfl⟩ : ∃ v, lb = [v] := by
    match lb, hlb with
    | [v], _ => exact ⟨v, rfl⟩
  obtain ⟨b, o, rfl, hb1, hb2, hcell⟩ := hcap 0 v rfl
  obtain ⟨u, hu, hr⟩ := hcell 0 (by omega)
  have hbx : w.cell? ⟨b, o, none⟩ = some u := hu
  rcases hr with ⟨⟨a, rfl⟩, hz⟩ | ⟨b', o', cap, rfl, h1, h2, _, h4, h5, h6⟩
  · refine (callsIn_wide (n := 3)).1 (callsIn_of_wp Try.func85 rfl trivial ?_ rfl)
    simp only [Try.f85, List.size_toArray, List.length_cons, List.length_nil, Nat.reduceAdd, Nat.reduceSub, Array.replicate_succ, Array.replicate_zero, List.push_toArray, List.append_toArray, List.nil_append, List.cons_append]
    have hw1 : wrap64 ((0 : Int) - 1) = -1 := wrapK _ (by omega) (by omega)
    gi_wp2
    gi_loopw [3] (fun p wr => p = .int .i64 (-1) ∧ J 0 O wr) (fun _ _ => 0)
    case atStart => exact ⟨by rfl, h0⟩
    case round =>
      obtain ⟨rfl, hJ⟩ := hrel
      gi_wp2
      go_end0
      rw [hz]
      exact ⟨⟨_, rfl⟩, O, .inl hJ⟩
  · refine (callsIn_wide (n := 3)).1 (callsIn_of_wp Try.func85 rfl trivial ?_ rfl)
    simp only [Try.f85, List.size_toArray, List.length_cons, List.length_nil, Nat.reduceAdd, Nat.reduceSub, Array.replicate_succ, Array.replicate_zero, List.push_toArray, List.append_toArray, List.nil_append, List.cons_append]
    have hw1 : wrap64 ((s.n : Int) - 1) = (s.n : Int) - 1 := wrapK _ (by omega) (by unfold maxLen at h2; omega)
    gi_wp2
    gi_loopw [3] (fun p wr => ∃ (k m : Nat) (Oi : Nat → Prop), k + m = s.n ∧ p = .int .i64 ((m : Int) - 1) ∧ J k Oi wr ∧ Ext (fun _ => False) w O noneμ wr Oi noneμ)
      (fun p _ => (intOf p + 1).toNat)
    case atStart => exact ⟨0, s.n, O, by omega, rfl, h0, Ext.refl _ _ _ _⟩
    case round =>
      obtain ⟨k, m, Oi, hk, rfl, hJ, hx⟩ := hrel
      have hbx' : wr.cell? ⟨b, o, none⟩ = some (.slice (some ⟨b', o', none⟩) s.n cap) := (hx.cell hb2 hb1).trans hbx
      match m with
      | 0 =>
        obtain rfl : k = s.n := by omega
        gi_wp2
        go_end0
        exact ⟨⟨_, rfl⟩, _, .inl hJ⟩
      | m + 1 =>
        have hm : ((m + 1 : Nat) : Int) - 1 = (m : Int) := by omega
        rw [hm]
        have hms : m < s.n := by omega
        obtain ⟨u, hu1, hu2⟩ := h6 m hms 0 (by decide)
        obtain ⟨rfl, _⟩ := hu2
        have hcx : wr.cell? ⟨b', o' + m, none⟩ = some (.int .u64 (s.at_ m)) := by
          refine (hx.cell h5 h4).trans ?_
          have e : o' + m * refE.k + 0 = o' + m := by show o' + m * 1 + 0 = _; omega
          rw [e] at hu1
          exact hu1
        obtain ⟨fn, tmps, assign, body, hy, hR⟩ := hY k Oi wr [.int .i64 (m : Int), .int .u64 (s.at_ m)] 2 (by omega) hJ (by
          rw [show s.n - 1 - k = m by omega]
          exact TRel.cons ⟨rfl, rfl⟩ (TRel.cons ⟨rfl, rfl⟩ TRel.nil))
        gi_wp2
        refine hR.mono ?_
        rintro e W3 ⟨O', hx3, ⟨rfl, hJ3⟩ | ⟨rfl, hJx3⟩⟩
        · gi_wp2
          go_roundw
          case rel => exact ⟨k + 1, m, O', by omega, by rw [wrapK _ (by omega) (by unfold maxLen at h2; omega)], hJ3, hx.trans hx3⟩
          case measure =>
            rw [wrapK _ (by omega) (by unfold maxLen at h2; omega)]
            simp [intOf]
        · gi_wp2
          refine bodyPost_ret (results_none rfl _ _ _) rfl ?_
          exact ⟨⟨_, rfl⟩, O', .inr ⟨k + 1, by omega, hJx3⟩⟩
theorem exec_slice3 {P : Program} {T : Lays} {w : World} {a : Act} {o : Oper} {t e : TypeId} {x y1 y2 y3 : Operand} {sz by_ : Nat} {z : List Value} {L : Lay} {l m n cap : Nat} {base : Option Addr} (hT : LayOk P T) (hL : T t = some ⟨.sl e, sz, by_, z⟩) (hF : T e = some L) (h1 : L.size = 1)
    (ho : o.op = .slice t x (some y1) (some y2) (some y3)) (hx : a.eval x = .slice base n cap) (k1 : a.eval y1 = .int .i64 (l : Int)) (k2 : a.eval y2 = .int .i64 ((l + m : Nat) : Int)) (k3 : a.eval y3 = .int .i64 ((l + m : Nat) : Int)) (hm : l + m ≤ cap) :
    (execOp a.eval o).run P w = .ok (.value (.slice (if l + m = l then base else base.map (·.add l)) m m)) w := by
  have hu := under_sl (hT t _ hL)
  have hsz := run_sizeOf (hT e L hF) w
  have hbs := run_bounds (P := P) (w := w) (len := n) (cap := cap) (lo := some (a.eval y1)) (hi := some (a.eval y2)) (mx := some (a.eval y3)) (l := l) (h := l + m) (m := l + m) (.inr ⟨.i64, by rw [k1]⟩) (.inr ⟨.i64, by rw [k2]⟩) (.inr ⟨by simp, .i64, by rw [k3]⟩) (by omega) (Nat.le_refl _) hm
  simp only [execOp, ho, Instr.sliceAt, Instr.slice, Sem.run_bind, run_underlying hu, Result.andThen_ok, hx, Option.map_some, hbs, hsz, Sem.run_pure, h1, Nat.mul_one, Nat.add_sub_cancel_left]
theorem chunk_arith {n k m i cap : Nat} (hm : min 2 (n - 2 * k) = m) (hi : 2 * k = i) (hlt : 2 * k < n) (h1 : n ≤ cap) (hn : n < 4611686018427387904) :
    0 < m ∧ i + m ≤ n ∧ i ≤ n ∧ wrap64 ((i : Int) + 2) = ((i + 2 : Nat) : Int) ∧ n + 1 - (i + 2) < n + 1 - i ∧ k < (n + 1) / 2 ∧ i + m ≤ cap ∧ wrap64 ((i : Int) + (m : Int)) = ((i + m : Nat) : Int) := by
  have e1 : wrap64 ((i : Int) + 2) = ((i + 2 : Nat) : Int) := by rw [wrapK _ (by omega) (by omega)]; simp
  have e2 : wrap64 ((i : Int) + (m : Int)) = ((i + m : Nat) : Int) := by rw [wrapK _ (by omega) (by omega)]; simp
  exact ⟨by omega, by omega, by omega, e1, by omega, by omega, by omega, e2⟩
/-- A fact that tactics do not see. -/
structure Hid (p : Prop) : Prop where
  out : p
def chunkS (s : Sl Int) (i : Nat) : Sl Int := ⟨min 2 (s.n - 2 * i), fun q => s.at_ (2 * i + q)⟩
set_option maxRecDepth 100000 in
set_option maxHeartbeats 2000000 in
theorem chunk_iter (s : Sl Int) (hn : s.n < 4611686018427387904) : IterOk Try.prog 84 2 (fun j => bif Nat.beq j 0 then .vptr 1 fun _ => slI refE s else .vptr 1 fun _ => .val (.int .i64 2)) ((s.n + 1) / 2) (fun i => [.one (.imm (slI refE (chunkS s i)))]) := by
  intro w O lb hO hlb hcap l J Jx clJ clJx ltJ hY h0
  obtain ⟨v, v2, rfl⟩ : ∃ v v2, lb = [v, v2] := by
    match lb, hlb with
    | [v, v2], _ => exact ⟨v, v2, rfl⟩
  obtain ⟨b, o, rfl, hb1, hb2, hcell⟩ := hcap 0 v rfl
  obtain ⟨c, p, rfl, hc1, hc2, hcell2⟩ := hcap 1 v2 rfl
  obtain ⟨u, hu, hr⟩ := hcell 0 (by omega)
  obtain ⟨u2, hu2, rfl, _⟩ := hcell2 0 (by omega)
  have hbx : w.cell? ⟨b, o, none⟩ = some u := hu
  have hcx : w.cell? ⟨c, p, none⟩ = some (.int .i64 2) := hu2
  rcases hr with ⟨⟨a, rfl⟩, hz⟩ | ⟨b', o', cap, rfl, h1, h2, _, h4, h5, h6⟩
  · refine (callsIn_wide (n := 3)).1 (callsIn_of_wp Try.func84 rfl trivial ?_ rfl)
    simp only [Try.f84, List.size_toArray, List.length_cons, List.length_nil, Nat.reduceAdd, Nat.reduceSub, Array.replicate_succ, Array.replicate_zero, List.push_toArray, List.append_toArray, List.nil_append, List.cons_append]
    gi_wp2
    gi_loopw [4] (fun p wr => p = .int .i64 0 ∧ J 0 O wr ∧ Ext (fun _ => False) w O noneμ wr O noneμ) (fun _ _ => 0)
    case atStart => exact ⟨by rfl, h0, Ext.refl _ _ _ _⟩
    case round =>
      obtain ⟨rfl, hJ, hx⟩ := hrel
      have hbx' : wr.cell? ⟨b, o, none⟩ = some (.slice a 0 0) := (hx.cell hb2 hb1).trans hbx
      gi_wp2
      go_end0
      rw [show (s.n + 1) / 2 = 0 by omega]
      exact ⟨⟨_, rfl⟩, O, .inl hJ⟩
  · have h2' : cap ≤ 4611686018427387904 * 2 := Nat.le_trans h2 (by decide)
    have hmx : ∀ m, m ≤ cap → m ≤ maxLen := fun m h => Nat.le_trans h h2
    clear h2
    refine (callsIn_wide (n := 3)).1 (callsIn_of_wp Try.func84 rfl trivial ?_ rfl)
    simp only [Try.f84, List.size_toArray, List.length_cons, List.length_nil, Nat.reduceAdd, Nat.reduceSub, Array.replicate_succ, Array.replicate_zero, List.push_toArray, List.append_toArray, List.nil_append, List.cons_append]
    gi_wp2
    gi_loopw [4] (fun p wr => ∃ (k : Nat) (Oi : Nat → Prop), k ≤ (s.n + 1) / 2 ∧ p = .int .i64 ((2 * k : Nat) : Int) ∧ J k Oi wr ∧ Ext (fun _ => False) w O noneμ wr Oi noneμ)
      (fun p _ => s.n + 1 - (intOf p).toNat)
    case atStart => exact ⟨0, O, Nat.zero_le _, rfl, h0, Ext.refl _ _ _ _⟩
    case round =>
      obtain ⟨k, Oi, hk, rfl, hJ, hx⟩ := hrel
      have hbx' : wr.cell? ⟨b, o, none⟩ = some (.slice (some ⟨b', o', none⟩) s.n cap) := (hx.cell hb2 hb1).trans hbx
      have hcx' : wr.cell? ⟨c, p, none⟩ = some (.int .i64 2) := (hx.cell hc2 hc1).trans hcx
      by_cases hlt : 2 * k < s.n
      · gi_wp2
        gi_region
        have hmi : (if ((s.n - 2 * k : Nat) : Int) < 2 then ((s.n - 2 * k : Nat) : Int) else 2) = ((min 2 (s.n - 2 * k) : Nat) : Int) := by split <;> omega
        rw [hmi]
        obtain ⟨m, hm⟩ : ∃ m, min 2 (s.n - 2 * k) = m := ⟨_, rfl⟩
        rw [hm]
        have hx' : Ext (fun _ => False) w O noneμ wr.drew Oi noneμ := hx.trans ((Grow.drew wr).ext _ _ _)
        have hbx2 : wr.drew.cell? ⟨b, o, none⟩ = some (.slice (some ⟨b', o', none⟩) s.n cap) := hbx'
        have hcx2 : wr.drew.cell? ⟨c, p, none⟩ = some (.int .i64 2) := hcx'
        have hJ' := clJ k Oi wr wr.drew hJ (Grow.drew wr)
        clear hx hbx' hcx' hJ hbx hcx hu hu2
        generalize wr.drew = wr at hx' hbx2 hcx2 hJ' ⊢
        clear hmi
        obtain ⟨i, hi⟩ : ∃ i, 2 * k = i := ⟨_, rfl⟩
        rw [hi]
        obtain ⟨hm0, hmn, hin, hw2, hms0, hkN, hicap, hwm⟩ := chunk_arith hm hi hlt h1 hn
        have hms : s.n + 1 - (intOf (.int .i64 ((i + 2 : Nat) : Int))).toNat < s.n + 1 - (intOf (.int .i64 (i : Int))).toNat := hms0
        have hmM : m ≤ maxLen := hmx m (Nat.le_trans (Nat.le_add_left m i) (Nat.le_trans hmn h1))
        have hcn : (chunkS s k).n = m := hm
        have hsl : IRel wr Oi (slI refE (chunkS s k)) (.slice (some ⟨b', o' + i, none⟩) m m) := by
          refine .inr ⟨b', o' + i, m, by rw [hcn], by rw [hcn]; exact Nat.le_refl _, hmM, (fun h => by cases h), hx'.notOwn h5 h4, Nat.lt_of_lt_of_le h5 hx'.size, fun q hq j hj => ?_⟩
          have hq' : q < m := by rw [← hcn]; exact hq
          obtain ⟨u, hu1, hu2⟩ := h6 (i + q) (Nat.lt_of_lt_of_le (Nat.add_lt_add_left hq' i) hmn) j hj
          refine ⟨u, ?_, ?_⟩
          · rw [← hu1]
            refine Eq.trans ?_ (hx'.cell h5 h4)
            congr 2
            show o' + i + q * 1 + j = o' + (i + q) * 1 + j
            rw [Nat.mul_one, Nat.mul_one, Nat.add_assoc o' i q]
          · have := hu2.mono hx'
            rw [← hi] at this
            exact this
        obtain ⟨fn, tmps, assign, body, hy, hR⟩ := hY k Oi wr [.slice (some ⟨b', o' + i, none⟩) m m] 2 hkN hJ' (TRel.cons hsl TRel.nil)
        have hid := Hid.mk (And.intro hms (And.intro hkN (And.intro hx' (And.intro hm0 (And.intro hwm hicap)))))
        clear hsl hcn hmM hms hms0 hkN hlt hm hk h1 h5 hn hin hmn hwm hicap hm0 hx'
        clear h6 hY clJ clJx ltJ h0 hcell hcell2 hcap hO hmx
        iterate 32 gi_step
        rw [hid.out.2.2.2.2.1]
        refine op_in (ro := none) (fun c h => by cases h) ?_
        unfold Oper.wp
        rw [exec_slice3 (T := lay) good.lay rfl rfl rfl rfl rfl rfl rfl rfl hid.out.2.2.2.2.2]
        have hne : (if i + m = i then some (⟨b', o', none⟩ : Addr) else (some (⟨b', o', none⟩ : Addr)).map (·.add i)) = some ⟨b', o' + i, none⟩ := by
          rw [if_neg (fun e => absurd e (Nat.ne_of_gt (Nat.lt_add_of_pos_right hid.out.2.2.2.1)))]
          rw [Option.map_some, Addr.add_lit]
        rw [hne]
        clear hne
        simp only [Oper.upon]
        gi_wp2
        refine hR.mono ?_
        rintro e W3 ⟨O', hx3, ⟨rfl, hJ3⟩ | ⟨rfl, hJx3⟩⟩
        · have hcx3 : W3.cell? ⟨c, p, none⟩ = some (.int .i64 2) := (hx3.cell (Nat.lt_of_lt_of_le hc2 hid.out.2.2.1.size) (hid.out.2.2.1.notOwn hc2 hc1)).trans hcx2
          gi_wp2
          go_roundw
          case rel => exact ⟨k + 1, O', hid.out.2.1, by rw [hw2, ← hi]; rfl, hJ3, hid.out.2.2.1.trans hx3⟩
          case measure =>
            rw [hw2, hi]
            exact hid.out.1
        · gi_wp2
          refine bodyPost_ret (results_none rfl _ _ _) rfl ?_
          exact ⟨⟨_, rfl⟩, O', .inr ⟨k + 1, hid.out.2.1, hJx3⟩⟩
      · obtain rfl : k = (s.n + 1) / 2 := by omega
        have hnl : ¬ (((2 * ((s.n + 1) / 2) : Nat) : Int) < (s.n : Int)) := by omega
        gi_wp2
        go_end0
        exact ⟨⟨_, rfl⟩, _, .inl hJ⟩
end Go.Proofs.Ytadgjhbhghhbgaa.Abs
