/-
  THE CONTRACTS OF PACKAGE heap: children.
-/
import Derived.Test.YtadgjhbhghhbgaaHp13
namespace Go.Proofs.Ytadgjhbhghhbgaa.Abs
open Go
set_option maxRecDepth 10000

/-- Those that stand next to one another, from a reference on. -/
def kidAt (a : Ar) (r : Int) : Nat → Int
  | 0 => r
  | j + 1 => (getN a (kidAt a r j)).k1
/-- There are m of them. -/
def ChainLen (a : Ar) (r : Int) (m : Nat) : Prop := kidAt a r m = 0 ∧ ∀ j, j < m → kidAt a r j ≠ 0
theorem ChainLen.uniq {a : Ar} {r : Int} {m n : Nat} (h : ChainLen a r m) (k : ChainLen a r n) : m = n := by
  rcases Nat.lt_trichotomy m n with q | q | q
  · exact absurd h.1 (k.2 m q)
  · exact q
  · exact absurd k.1 (h.2 n q)
open Classical in
noncomputable def kidsR (a : Ar) (r : Int) : Sl Int := if h : ∃ m, ChainLen a r m then ⟨Classical.choose h, kidAt a r⟩ else ⟨0, kidAt a r⟩
noncomputable def kidsS : Ar → Int → Sl Int := lock kidsR
theorem kidsS_eq {a : Ar} {r : Int} {m : Nat} (h : ChainLen a r m) : kidsS a r = ⟨m, kidAt a r⟩ := by
  have h' : ∃ m, ChainLen a r m := ⟨m, h⟩
  rw [show kidsS = kidsR from lock_eq _]
  unfold kidsR
  rw [dif_pos h']
  rw [(Classical.choose_spec h').uniq h]

set_option maxHeartbeats 1000000 in
theorem kidsCall (p : Pile) (x : Nd) (m : Nat) (hm : ChainLen p.a x.k0 m) (hm2 : m < 1000) : ACall Try.prog 51 [.one (.own 0 0 0 0), ndC x] (heapOf [bkV 109 piE p]) 1 fun x' H' n' => x' = .cv (.one (.imm (slI refE ⟨m, kidAt p.a x.k0⟩))) ∧ H' = updH (heapOf [bkV 109 piE p]) (updL 0 [some (bkV 109 piE p)]) ∧ n' = 1 + 0 := by
  refine ACall_norm (Bs := [bkV 109 piE p]) (cnt := 0) ?_
  change ACall _ _ _ _ 1 _
  refine ACall_body good Try.func51 rfl 22 rfl (by simp) ?_
  refine AW_seq ?_
  refine AW_all good th8 (th8_ok) rfl rfl ?_ ?_
  · repeat' (first | exact trivial | exact rfl | exact (fun _ _ => rfl) | refine And.intro ?_ ?_ | intro _)
  refine AW_seq ?_
  refine AW_all good th8 (th8_ok) rfl rfl ?_ ?_
  · repeat' (first | exact trivial | exact rfl | exact (fun _ _ => rfl) | refine And.intro ?_ ?_ | intro _)
  refine AW_seq ?_
  refine AW_seq ?_
  refine AW_all good th8 (th8_ok) rfl rfl ?_ ?_
  · repeat' (first | exact trivial | exact rfl | exact (fun _ _ => rfl) | refine And.intro ?_ ?_ | intro _)
    all_goals omega
  refine AW_block ?_
  refine AW_absent 37 1 (fun _ _ => .val (.int .u64 0)) ?_
  refine AW_slot 5 (y := .cv (.one (.osl 2 1 0 0 0 true))) rfl (SLe.cv CLe.empty) ?_
  refine AW_loopX [0] [0] (fun j : { j : Nat // j ≤ m } => [(5, .cv (.one (.osl 2 1 0 0 j.1 true))), (6, .cv (u64 (kidAt p.a x.k0 j.1)))]) (fun j => [(2, bkR 37 refE ⟨j.1, kidAt p.a x.k0⟩)]) (fun j => m - j.1) ⟨0, Nat.zero_le _⟩ ⟨SLe.of_eq rfl, SLe.of_eq rfl, trivial⟩ ⟨⟨_, rfl, BLe.rows rfl fun i j hi _ => absurd hi (Nat.not_lt_zero i)⟩, trivial⟩ ?_
  rintro ⟨j, hj⟩
  dsimp only at hj ⊢
  obtain ⟨r, hr⟩ : ∃ r, kidAt p.a x.k0 j = r := ⟨_, rfl⟩
  refine AW_slot 6 (y := .cv (u64 r)) rfl (SLe.of_eq (by rw [← hr]; rfl)) ?_
  refine AW_seq ?_
  refine AW_seq ?_
  refine AW_all good th8 (th8_ok) rfl rfl ?_ ?_
  · repeat' (first | exact trivial | exact rfl | exact (fun _ _ => rfl) | refine And.intro ?_ ?_ | intro _)
  refine AW_cond rfl (fun h1 => ?_) (fun h1 => ?_)
  · first
    | (exfalso; simp_all; done)
    | (
        refine AW_skip ?_
        refine AW_seq ?_
        refine AW_block ?_
        refine AW_all good th8 (th8_ok) rfl rfl ?_ ?_
        · repeat' (first | exact trivial | exact rfl | exact (fun _ _ => rfl) | refine And.intro ?_ ?_ | intro _)
          all_goals (first | exact Nat.le_refl _ | (unfold maxLen; omega) | exact bytes_ok (by omega) (by decide))
        refine AW_all good th8 (th8_ok) rfl rfl ?_ ?_
        · repeat' (first | exact trivial | exact rfl | exact (fun _ _ => rfl) | refine And.intro ?_ ?_ | intro _)
          all_goals (first | omega | exact slOk_lit)
        have hlt : j < m := by
          rcases Nat.lt_or_ge j m with q | q
          · exact q
          · exfalso
            obtain rfl : j = m := by omega
            rw [hm.1] at hr
            subst hr
            cases h1
        have hq : kidAt p.a x.k0 (j + 1) = (getN p.a r).k1 := by rw [← hr]; rfl
        refine loopX_next ⟨j + 1, hlt⟩ [0, 1, 4] rfl rfl ⟨SLe.of_eq rfl, SLe.of_eq (by rw [hq]; rfl), trivial⟩ ⟨SLe.of_eq rfl, trivial⟩ ⟨⟨rfl, _, rfl, BLe.rows rfl fun q i hq hi => ILe.of_eq (ref_row hq hi hr)⟩, trivial⟩ ⟨⟨rfl, _, _, rfl, rfl, BLe.of_eq rfl⟩, trivial⟩ ?_
        show m - (j + 1) < m - j
        omega
    )
  · first
    | (exfalso; simp_all; done)
    | (
        refine AW_exit ?_
        refine AW_seq ?_
        obtain rfl : j = m := by
          rcases Nat.lt_or_ge j m with q | q
          · exfalso
            exact hm.2 j q (hr.trans (by simpa using h1))
          · omega
        refine AW_frzS 5 2 rfl rfl (Nat.le_refl _) ?_
        refine AW_all good th8 (th8_ok) rfl rfl ?_ ?_
        · repeat' (first | exact trivial | exact rfl | exact (fun _ _ => rfl) | refine And.intro ?_ ?_ | intro _)
        refine AW_ret ?_
        refine ⟨_, _, rfl, ?_, [0], rfl, EndsE.all (Us := [some (bkV 109 piE p)]) rfl rfl rfl ?_ ?_⟩
        · repeat' (first | exact trivial | exact rfl | exact (fun _ _ => rfl) | refine And.intro ?_ ?_ | intro _)
        · exact SLe.of_eq rfl
        · exact ⟨⟨_, rfl, BLe.of_eq rfl⟩, trivial⟩
    )

end Go.Proofs.Ytadgjhbhghhbgaa.Abs
