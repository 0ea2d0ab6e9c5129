/-
  THE CONTRACTS OF THE REFERENCES: Lay.
-/
import Derived.Test.YtadgjhbhghhbgaaHp10
namespace Go.Proofs.Ytadgjhbhghhbgaa.Abs
open Go
set_option maxRecDepth 10000

/-- The node of a row's item, laid from a place on. -/
def layNd (p : Nat) (l : Sl Item) (i : Nat) : Nd := bif Nat.beq i 0 then ⟨6, 0, (l.at_ i).k, (l.at_ i).v, l.n, bif Nat.blt 1 l.n then (p : Int) + 2 else 0, 0, 0, 0, 0, 0, 0, 0, 0, 0, 0⟩ else ⟨6, 0, (l.at_ i).k, (l.at_ i).v, 1, 0, bif Nat.blt (i + 1) l.n then (p : Int) + i + 2 else 0, 0, 0, 0, 0, 0, 0, 0, 0, 0⟩
def laidN (s : Sl Nd) (p : Nat) (l : Sl Item) (i : Nat) : Sl Nd := ⟨s.n, fun q => bif Nat.ble p q && Nat.blt q (p + i) then layNd p l (q - p) else s.at_ q⟩
def layRf (p : Nat) (l : Sl Item) : Int := bif Nat.beq l.n 0 then 0 else (p : Int) + 1
theorem layNd_0a {p : Nat} {l : Sl Item} (h : 1 < l.n) : layNd p l 0 = ⟨6, 0, (l.at_ 0).k, (l.at_ 0).v, l.n, (p : Int) + 2, 0, 0, 0, 0, 0, 0, 0, 0, 0, 0⟩ := by
  unfold layNd
  rw [blt_t h]
  rfl
theorem layNd_0b {p : Nat} {l : Sl Item} (h : l.n ≤ 1) : layNd p l 0 = ⟨6, 0, (l.at_ 0).k, (l.at_ 0).v, l.n, 0, 0, 0, 0, 0, 0, 0, 0, 0, 0, 0⟩ := by
  unfold layNd
  rw [blt_f h]
  rfl
theorem layNd_sa {p : Nat} {l : Sl Item} {i : Nat} (h0 : i ≠ 0) (h : i + 1 < l.n) : layNd p l i = ⟨6, 0, (l.at_ i).k, (l.at_ i).v, 1, 0, (p : Int) + i + 2, 0, 0, 0, 0, 0, 0, 0, 0, 0⟩ := by
  unfold layNd
  rw [beq_f h0, blt_t h]
  rfl
theorem layNd_sb {p : Nat} {l : Sl Item} {i : Nat} (h0 : i ≠ 0) (h : l.n ≤ i + 1) : layNd p l i = ⟨6, 0, (l.at_ i).k, (l.at_ i).v, 1, 0, 0, 0, 0, 0, 0, 0, 0, 0, 0, 0⟩ := by
  unfold layNd
  rw [beq_f h0, blt_f h]
  rfl
theorem laid_0 {s : Sl Nd} {p : Nat} {l : Sl Item} {q : Nat} : (laidN s p l 0).at_ q = s.at_ q := by
  show (bif Nat.ble p q && Nat.blt q (p + 0) then layNd p l (q - p) else s.at_ q) = _
  rcases Nat.lt_or_ge q p with h | h
  · have : Nat.ble p q = false := by
      cases hb : Nat.ble p q with
      | false => rfl
      | true => have := Nat.le_of_ble_eq_true hb; omega
    rw [this]
    rfl
  · rw [blt_f (by omega : p + 0 ≤ q), Bool.and_false]
    rfl
theorem laid_row {s : Sl Nd} {p : Nat} {l : Sl Item} {i q j : Nat} {w : Int} {N : Nd} (hw : w.toNat = p + i) (hN : N = layNd p l i) (hj : j < 16) :
    (bif Nat.beq q (plusN 0 w.toNat) && (Nat.ble 0 j && Nat.blt j (0 + 16)) then (ndL N).getD (j - 0) ivDef else ndE.f ((laidN s p l i).at_ q) j) = ndE.f ((laidN s p l (i + 1)).at_ q) j := by
  rw [plusN_eq, hw, Nat.zero_add, Nat.zero_add, blt_t hj, Nat.ble_eq_true_of_le (Nat.zero_le j)]
  show _ = ndE.f (bif Nat.ble p q && Nat.blt q (p + (i + 1)) then layNd p l (q - p) else s.at_ q) j
  show (bif Nat.beq q (p + i) && (true && true) then (ndL N).getD (j - 0) ivDef else ndE.f (bif Nat.ble p q && Nat.blt q (p + i) then layNd p l (q - p) else s.at_ q) j) = _
  by_cases h : q = p + i
  · subst h
    rw [Nat.beq_refl, Nat.ble_eq_true_of_le (Nat.le_add_right p i), blt_t (by omega : p + i < p + (i + 1)), Nat.add_sub_cancel_left, ← hN]
    rfl
  · rw [beq_f h]
    have e : Nat.blt q (p + (i + 1)) = Nat.blt q (p + i) := by
      rcases Nat.lt_or_ge q (p + i) with h1 | h1
      · rw [blt_t h1, blt_t (by omega : q < p + (i + 1))]
      · rw [blt_f h1, blt_f (by omega : p + (i + 1) ≤ q)]
    rw [e]
    rfl
theorem u64_small {x : Int} (h0 : 0 ≤ x) (h1 : x < 4611686018427387904) : IntKind.u64.wrap x = x := by
  rw [IntKind.wrap_u64]
  omega
theorem i64_small {x : Int} (h0 : 0 ≤ x) (h1 : x < 4611686018427387904) : IntKind.i64.wrap x = x := by
  rw [IntKind.wrap_i64]
  omega

set_option maxHeartbeats 1000000 in
theorem refLay (s : Sl Nd) (f : Sl Int) (p : Nat) (l : Sl Item) (hs : p + l.n ≤ s.n) (h5 : s.n ≤ 512) : ACall Try.prog 30 [.agg [.osl 0 16 0 0 s.n false, .imm (slI intE f)], iint p, .one (.imm (slI itE l))] (heapOf [bkR 91 ndE s]) 1 fun x' H' n' => x' = .cv (u64 (layRf p l)) ∧ H' = updH (heapOf [bkR 91 ndE s]) (updL 0 [some (bkR 91 ndE (laidN s p l l.n))]) ∧ n' = 1 + 0 := by
  refine ACall_norm (Bs := [bkR 91 ndE s]) (cnt := 0) ?_
  change ACall _ _ _ _ 1 _
  refine ACall_body good Try.func30 rfl 61 rfl (by simp) ?_
  refine AW_seq ?_
  refine AW_all good th14 (th14_ok) rfl rfl ?_ ?_
  · repeat' (first | exact trivial | exact rfl | exact (fun _ _ => rfl) | refine And.intro ?_ ?_ | intro _)
  refine AW_seq ?_
  refine AW_seq ?_
  refine AW_all good th14 (th14_ok) rfl rfl ?_ ?_
  · repeat' (first | exact trivial | exact rfl | exact (fun _ _ => rfl) | refine And.intro ?_ ?_ | intro _)
  refine AW_block ?_
  refine AW_loopX [1, 2, 3, 10, 11] [1] (fun j : { i : Nat // i ≤ l.n } => [(12, .cv (iint j.1))]) (fun j => [(0, bkR 91 ndE (laidN s p l j.1))]) (fun j => l.n - j.1) ⟨0, Nat.zero_le _⟩ ⟨SLe.of_eq rfl, trivial⟩ ⟨⟨_, rfl, BLe.rows rfl fun q j hq hj => ILe.of_eq (congrArg (fun n => ndE.f n j) laid_0.symm)⟩, trivial⟩ ?_
  rintro ⟨i, hi⟩
  dsimp only at hi ⊢
  refine AW_seq ?_
  refine AW_all good th14 (th14_ok) rfl rfl ?_ ?_
  · repeat' (first | exact trivial | exact rfl | exact (fun _ _ => rfl) | refine And.intro ?_ ?_ | intro _)
  refine AW_seq ?_
  refine AW_cond rfl (fun h1 => ?_) (fun h1 => ?_)
  · first
    | (exfalso; simp_all; done)
    | (
        refine AW_skip ?_
        refine AW_seq ?_
        refine AW_block ?_
        refine AW_seq ?_
        have hlt : i < l.n := by simpa using h1
        refine AW_all good th14 (th14_ok) rfl rfl ?_ ?_
        · repeat' (first | exact trivial | exact rfl | exact (fun _ _ => rfl) | refine And.intro ?_ ?_ | intro _)
          all_goals omega
        refine AW_seq ?_
        refine AW_all good th14 (th14_ok) rfl rfl ?_ ?_
        · repeat' (first | exact trivial | exact rfl | exact (fun _ _ => rfl) | refine And.intro ?_ ?_ | intro _)
        refine AW_seq ?_
        refine AW_seq ?_
        refine AW_all good th14 (th14_ok) rfl rfl ?_ ?_
        · repeat' (first | exact trivial | exact rfl | exact (fun _ _ => rfl) | refine And.intro ?_ ?_ | intro _)
        refine AW_cond rfl (fun h2 => ?_) (fun h2 => ?_)
        · first
          | (exfalso; simp_all; done)
          | (
              refine AW_seq ?_
              refine AW_all good th14 (th14_ok) rfl rfl ?_ ?_
              · repeat' (first | exact trivial | exact rfl | exact (fun _ _ => rfl) | refine And.intro ?_ ?_ | intro _)
              refine AW_seq ?_
              refine AW_all good th14 (th14_ok) rfl rfl ?_ ?_
              · repeat' (first | exact trivial | exact rfl | exact (fun _ _ => rfl) | refine And.intro ?_ ?_ | intro _)
              refine AW_cond rfl (fun h3 => ?_) (fun h3 => ?_)
              · first
                | (exfalso; simp_all; done)
                | (
                    refine AW_all good th14 (th14_ok) rfl rfl ?_ ?_
                    · repeat' (first | exact trivial | exact rfl | exact (fun _ _ => rfl) | refine And.intro ?_ ?_ | intro _)
                      all_goals omega
                    have hi0 : i = 0 := by simpa using h2
                    have hpw : IntKind.i64.wrap ((p : Int) + i) = ((p + i : Nat) : Int) := by
                      rw [IntKind.wrap_i64]
                      omega
                    have hw : (IntKind.i64.wrap ((p : Int) + i)).toNat = p + i := by rw [hpw]; rfl
                    have hp1 : (0 : Int) ≤ IntKind.i64.wrap ((p : Int) + i) := by rw [hpw]; omega
                    have hp2 : IntKind.i64.wrap ((p : Int) + i) < s.n := by rw [hpw]; omega
                    have hp3 : (IntKind.i64.wrap ((p : Int) + i)).toNat < s.n := by rw [hw]; omega
                    refine AW_all good th14 (th14_ok) rfl rfl ?_ ?_
                    · repeat' (first | exact trivial | exact rfl | exact (fun _ _ => rfl) | refine And.intro ?_ ?_ | intro _)
                      all_goals (first | exact hp1 | exact hp2 | exact hp3)
                    refine AW_all good th14 (th14_ok) rfl rfl ?_ ?_
                    · repeat' (first | exact trivial | exact rfl | exact (fun _ _ => rfl) | refine And.intro ?_ ?_ | intro _)
                    refine loopX_next ⟨i + 1, hlt⟩ [0, 1] rfl rfl ⟨SLe.of_eq (congrArg (fun z => SV.cv (iint z)) (succ_wrap (by omega))), trivial⟩ ⟨SLe.of_eq rfl, SLe.of_eq rfl, SLe.of_eq rfl, SLe.of_eq rfl, SLe.of_eq rfl, trivial⟩ ⟨⟨rfl, _, rfl, BLe.rows rfl fun q j hq hj => ILe.of_eq ?_⟩, trivial⟩ ⟨⟨rfl, _, _, rfl, rfl, BLe.of_eq rfl⟩, trivial⟩ ?_
                    · exact laid_row (N := ⟨6, 0, (l.at_ i).k, (l.at_ i).v, l.n, IntKind.u64.wrap (IntKind.i64.wrap ((p : Int) + 2)), 0, 0, 0, 0, 0, 0, 0, 0, 0, 0⟩) hw (by
                        rw [hi0, layNd_0a (by have h := of_decide_eq_true h3; omega), i64_small (by omega) (by omega), u64_small (by omega) (by omega)]) hj
                    show l.n - (i + 1) < l.n - i
                    omega
                )
              · first
                | (exfalso; simp_all; done)
                | (
                    refine AW_skip ?_
                    have hi0 : i = 0 := by simpa using h2
                    have hpw : IntKind.i64.wrap ((p : Int) + i) = ((p + i : Nat) : Int) := by
                      rw [IntKind.wrap_i64]
                      omega
                    have hw : (IntKind.i64.wrap ((p : Int) + i)).toNat = p + i := by rw [hpw]; rfl
                    have hp1 : (0 : Int) ≤ IntKind.i64.wrap ((p : Int) + i) := by rw [hpw]; omega
                    have hp2 : IntKind.i64.wrap ((p : Int) + i) < s.n := by rw [hpw]; omega
                    have hp3 : (IntKind.i64.wrap ((p : Int) + i)).toNat < s.n := by rw [hw]; omega
                    refine AW_all good th14 (th14_ok) rfl rfl ?_ ?_
                    · repeat' (first | exact trivial | exact rfl | exact (fun _ _ => rfl) | refine And.intro ?_ ?_ | intro _)
                      all_goals (first | exact hp1 | exact hp2 | exact hp3)
                    refine AW_all good th14 (th14_ok) rfl rfl ?_ ?_
                    · repeat' (first | exact trivial | exact rfl | exact (fun _ _ => rfl) | refine And.intro ?_ ?_ | intro _)
                    refine loopX_next ⟨i + 1, hlt⟩ [0, 1] rfl rfl ⟨SLe.of_eq (congrArg (fun z => SV.cv (iint z)) (succ_wrap (by omega))), trivial⟩ ⟨SLe.of_eq rfl, SLe.of_eq rfl, SLe.of_eq rfl, SLe.of_eq rfl, SLe.of_eq rfl, trivial⟩ ⟨⟨rfl, _, rfl, BLe.rows rfl fun q j hq hj => ILe.of_eq ?_⟩, trivial⟩ ⟨⟨rfl, _, _, rfl, rfl, BLe.of_eq rfl⟩, trivial⟩ ?_
                    · exact laid_row (N := ⟨6, 0, (l.at_ i).k, (l.at_ i).v, l.n, 0, 0, 0, 0, 0, 0, 0, 0, 0, 0, 0⟩) hw (by
                        rw [hi0, layNd_0b (by have h := of_decide_eq_false h3; omega)]) hj
                    show l.n - (i + 1) < l.n - i
                    omega
                )
          )
        · first
          | (exfalso; simp_all; done)
          | (
              refine AW_seq ?_
              refine AW_all good th14 (th14_ok) rfl rfl ?_ ?_
              · repeat' (first | exact trivial | exact rfl | exact (fun _ _ => rfl) | refine And.intro ?_ ?_ | intro _)
              refine AW_cond rfl (fun h4 => ?_) (fun h4 => ?_)
              · first
                | (exfalso; simp_all; done)
                | (
                    refine AW_all good th14 (th14_ok) rfl rfl ?_ ?_
                    · repeat' (first | exact trivial | exact rfl | exact (fun _ _ => rfl) | refine And.intro ?_ ?_ | intro _)
                      all_goals omega
                    have hi1 : i ≠ 0 := by simpa using h2
                    have hpw : IntKind.i64.wrap ((p : Int) + i) = ((p + i : Nat) : Int) := by
                      rw [IntKind.wrap_i64]
                      omega
                    have hw : (IntKind.i64.wrap ((p : Int) + i)).toNat = p + i := by rw [hpw]; rfl
                    have hp1 : (0 : Int) ≤ IntKind.i64.wrap ((p : Int) + i) := by rw [hpw]; omega
                    have hp2 : IntKind.i64.wrap ((p : Int) + i) < s.n := by rw [hpw]; omega
                    have hp3 : (IntKind.i64.wrap ((p : Int) + i)).toNat < s.n := by rw [hw]; omega
                    refine AW_all good th14 (th14_ok) rfl rfl ?_ ?_
                    · repeat' (first | exact trivial | exact rfl | exact (fun _ _ => rfl) | refine And.intro ?_ ?_ | intro _)
                      all_goals (first | exact hp1 | exact hp2 | exact hp3)
                    refine AW_all good th14 (th14_ok) rfl rfl ?_ ?_
                    · repeat' (first | exact trivial | exact rfl | exact (fun _ _ => rfl) | refine And.intro ?_ ?_ | intro _)
                    refine loopX_next ⟨i + 1, hlt⟩ [0, 1] rfl rfl ⟨SLe.of_eq (congrArg (fun z => SV.cv (iint z)) (succ_wrap (by omega))), trivial⟩ ⟨SLe.of_eq rfl, SLe.of_eq rfl, SLe.of_eq rfl, SLe.of_eq rfl, SLe.of_eq rfl, trivial⟩ ⟨⟨rfl, _, rfl, BLe.rows rfl fun q j hq hj => ILe.of_eq ?_⟩, trivial⟩ ⟨⟨rfl, _, _, rfl, rfl, BLe.of_eq rfl⟩, trivial⟩ ?_
                    · exact laid_row (N := ⟨6, 0, (l.at_ i).k, (l.at_ i).v, 1, 0, IntKind.u64.wrap (IntKind.i64.wrap (IntKind.i64.wrap ((p : Int) + i) + 2)), 0, 0, 0, 0, 0, 0, 0, 0, 0⟩) hw (by
                        rw [layNd_sa hi1 (by have h := of_decide_eq_true h4; rw [i64_small (by omega) (by omega)] at h; omega), i64_small (x := (p : Int) + i) (by omega) (by omega), i64_small (by omega) (by omega), u64_small (by omega) (by omega)]) hj
                    show l.n - (i + 1) < l.n - i
                    omega
                )
              · first
                | (exfalso; simp_all; done)
                | (
                    refine AW_skip ?_
                    have hi1 : i ≠ 0 := by simpa using h2
                    have hpw : IntKind.i64.wrap ((p : Int) + i) = ((p + i : Nat) : Int) := by
                      rw [IntKind.wrap_i64]
                      omega
                    have hw : (IntKind.i64.wrap ((p : Int) + i)).toNat = p + i := by rw [hpw]; rfl
                    have hp1 : (0 : Int) ≤ IntKind.i64.wrap ((p : Int) + i) := by rw [hpw]; omega
                    have hp2 : IntKind.i64.wrap ((p : Int) + i) < s.n := by rw [hpw]; omega
                    have hp3 : (IntKind.i64.wrap ((p : Int) + i)).toNat < s.n := by rw [hw]; omega
                    refine AW_all good th14 (th14_ok) rfl rfl ?_ ?_
                    · repeat' (first | exact trivial | exact rfl | exact (fun _ _ => rfl) | refine And.intro ?_ ?_ | intro _)
                      all_goals (first | exact hp1 | exact hp2 | exact hp3)
                    refine AW_all good th14 (th14_ok) rfl rfl ?_ ?_
                    · repeat' (first | exact trivial | exact rfl | exact (fun _ _ => rfl) | refine And.intro ?_ ?_ | intro _)
                    refine loopX_next ⟨i + 1, hlt⟩ [0, 1] rfl rfl ⟨SLe.of_eq (congrArg (fun z => SV.cv (iint z)) (succ_wrap (by omega))), trivial⟩ ⟨SLe.of_eq rfl, SLe.of_eq rfl, SLe.of_eq rfl, SLe.of_eq rfl, SLe.of_eq rfl, trivial⟩ ⟨⟨rfl, _, rfl, BLe.rows rfl fun q j hq hj => ILe.of_eq ?_⟩, trivial⟩ ⟨⟨rfl, _, _, rfl, rfl, BLe.of_eq rfl⟩, trivial⟩ ?_
                    · exact laid_row (N := ⟨6, 0, (l.at_ i).k, (l.at_ i).v, 1, 0, 0, 0, 0, 0, 0, 0, 0, 0, 0, 0⟩) hw (by
                        rw [layNd_sb hi1 (by have h := of_decide_eq_false h4; rw [i64_small (by omega) (by omega)] at h; omega)]) hj
                    show l.n - (i + 1) < l.n - i
                    omega
                )
          )
    )
  · first
    | (exfalso; simp_all; done)
    | (
        refine AW_exit ?_
        refine AW_seq ?_
        refine AW_seq ?_
        refine AW_all good th14 (th14_ok) rfl rfl ?_ ?_
        · repeat' (first | exact trivial | exact rfl | exact (fun _ _ => rfl) | refine And.intro ?_ ?_ | intro _)
        refine AW_cond rfl (fun h5 => ?_) (fun h5 => ?_)
        · first
          | (exfalso; simp_all; done)
          | (
              refine AW_seq ?_
              refine AW_all good th14 (th14_ok) rfl rfl ?_ ?_
              · repeat' (first | exact trivial | exact rfl | exact (fun _ _ => rfl) | refine And.intro ?_ ?_ | intro _)
              have hend : i = l.n := by
                have : ¬ i < l.n := by simpa using h1
                omega
              subst hend
              have h0 : ((l.n : Int) == 0) = true := by assumption
              have h0 : l.n = 0 := by simpa using h0
              have hm : layRf p l = 0 := by unfold layRf; rw [h0]; rfl
              refine AW_ret ?_
              refine ⟨_, _, rfl, ?_, [0], rfl, EndsE.all (Us := [some (bkR 91 ndE (laidN s p l l.n))]) rfl rfl rfl ?_ ?_⟩
              · repeat' (first | exact trivial | exact rfl | exact (fun _ _ => rfl) | refine And.intro ?_ ?_ | intro _)
              · rw [hm]
                exact SLe.of_eq rfl
              · exact ⟨⟨_, rfl, BLe.of_eq rfl⟩, trivial⟩
          )
        · first
          | (exfalso; simp_all; done)
          | (
              refine AW_skip ?_
              refine AW_seq ?_
              refine AW_all good th14 (th14_ok) rfl rfl ?_ ?_
              · repeat' (first | exact trivial | exact rfl | exact (fun _ _ => rfl) | refine And.intro ?_ ?_ | intro _)
              have hend : i = l.n := by
                have : ¬ i < l.n := by simpa using h1
                omega
              subst hend
              have h0 : ((l.n : Int) == 0) = false := by assumption
              have h0 : l.n ≠ 0 := by simpa using h0
              have hm : layRf p l = IntKind.u64.wrap (IntKind.i64.wrap ((p : Int) + 1)) := by
                rw [i64_small (by omega) (by omega), u64_small (by omega) (by omega)]
                unfold layRf
                rw [beq_f h0]
                rfl
              refine AW_ret ?_
              refine ⟨_, _, rfl, ?_, [0], rfl, EndsE.all (Us := [some (bkR 91 ndE (laidN s p l l.n))]) rfl rfl rfl ?_ ?_⟩
              · repeat' (first | exact trivial | exact rfl | exact (fun _ _ => rfl) | refine And.intro ?_ ?_ | intro _)
              · rw [hm]
                exact SLe.of_eq rfl
              · exact ⟨⟨_, rfl, BLe.of_eq rfl⟩, trivial⟩
          )
    )

end Go.Proofs.Ytadgjhbhghhbgaa.Abs
