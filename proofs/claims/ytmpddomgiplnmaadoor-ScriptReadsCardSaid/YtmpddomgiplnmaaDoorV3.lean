/-
  CALLS OF FUNCTIONS THAT HAVE NO TEXT (the model does them in one step). No program in sight.
-/
import Derived.Test.YtmpddomgiplnmaaDoorV2
import Derived.Laws.Externs
namespace Go.Proofs.YtmpddomgiplnmaaDoor.Abs
open Go

theorem callOf_exec {P : Program} {w : World} {μ : Nat → Option Nat} {E : Nat → SV} {a : Act} {O : Nat → Prop} (hE : ERel w O μ E a) {c : Call} {o : Oper} {f : FuncId} {l : List CV} {p : Prop} (h : callOf E c = some (f, l, p)) (hp : p) (ho : o.op = .call c) {r : List Value → Value}
    (hr : ∀ vals, TRel w O μ l vals → (callFunc f vals.toArray).run P w = .ok (.value (r vals)) w) : ∃ vals : List Value, TRel w O μ l vals ∧ (execOp a.eval o).run P w = .ok (.value (r vals)) w := by
  obtain ⟨callee, args, tys⟩ := c
  unfold callOf at h
  split at h
  · rename_i x hcal
    simp only at hcal
    subst hcal
    split at h
    · rename_i f' nf first nc caps cvs q hx hl
      simp only [Option.some.injEq, Prod.mk.injEq] at h
      obtain ⟨rfl, rfl, rfl⟩ := h
      obtain ⟨fs, cs, hv, h1, h2, h3, h4⟩ := rd_one hE hx hp.1
      have hA := listCV_sound hE _ _ _ hl hp.2
      have hT := (fnList_rel h1 h3).append (hA.append (fnList_rel h2 h4))
      refine ⟨fs ++ (args.toList.map a.eval ++ cs), hT, ?_⟩
      have hr := hr _ hT
      have e : (fs ++ (args.toList.map a.eval ++ cs)).toArray = fs.toArray ++ (args.map a.eval ++ cs.toArray) := by apply Array.toList_inj.1; simp
      rw [e] at hr
      simp [execOp, ho, resolve, hv, Deferred.ofValue, invoke, hr]
    · cases h
  · cases h

theorem AL_ext {K : Nat} {P : Program} {Q : Exit → St → Prop} {ops : Array Oper} {o : Oper} {rest : List Oper} {n nx : Nat} {E : Nat → SV} {H : Nat → Option ABlk} {c : Call} {f : FuncId} {cvs : List CV} {q : Prop} {x : SV} (hg : o.guard = none) (ho : o.op = .call c) (hc : callOf E c = some (f, cvs, q)) (hq : q) (r : List Value → Value)
    (hr : ∀ (w : World) (O : Nat → Prop) (μ : Nat → Option Nat) (vals : List Value), TRel w O μ cvs vals → (callFunc f vals.toArray).run P w = .ok (.value (r vals)) w ∧ SRel w O μ x (r vals)) (hd : dstOk o.dst n = true) (h : AL K P ops rest Q ⟨n, putE E o.dst x, H, nx⟩) : AL K P ops (o :: rest) Q ⟨n, E, H, nx⟩ := by
  intro C μ a w hR
  obtain ⟨vals, hA, hrun⟩ := callOf_exec (P := P) (r := r) hR.env hc hq ho fun vals hv => (hr w _ μ vals hv).1
  unfold wpL
  rw [if_pos (by simp [Region.wanted, hg])]
  unfold Oper.wp
  rw [hrun]
  exact h C μ _ w (hR.put (hr w _ μ vals hA).2 hd)
/-- On a string and a byte. -/
theorem AL_extSB {K : Nat} {P : Program} {Q : Exit → St → Prop} {ops : Array Oper} {o : Oper} {rest : List Oper} {n nx : Nat} {E : Nat → SV} {H : Nat → Option ABlk} {c : Call} {f : FuncId} {fn : Func} {e : Array Value → Sem Value} {s : ByteArray} {k z : Int} {q : Prop} (hg : o.guard = none) (ho : o.op = .call c) (hc : callOf E c = some (f, [str s, .one (.imm (.val (.int .u8 k)))], q)) (hq : q)
    (hf : P.funcs[f]? = some fn) (hname : (fn.name == "runtime.NumGoroutine") = false) (hb : fn.body.isNone = true) (hn : Extern.findNext fn = none) (he : Extern.find fn = some e) (hr : ∀ w, (e #[.string s, .int .u8 k]).run P w = .ok (.int .i64 z) w) (hd : dstOk o.dst n = true) (h : AL K P ops rest Q ⟨n, putE E o.dst (.cv (iint z)), H, nx⟩) : AL K P ops (o :: rest) Q ⟨n, E, H, nx⟩ := by
  refine AL_ext hg ho hc hq (fun _ => .int .i64 z) (fun w O μ vals hv => ?_) hd h
  obtain ⟨hl, hv⟩ := hv
  match vals, hl with
  | [a, b], _ =>
    have h1 : IRel w O (.val (.string s)) a := hv 0 _ _ rfl rfl
    have h2 : IRel w O (.val (.int .u8 k)) b := hv 1 _ _ rfl rfl
    obtain ⟨rfl, _⟩ := h1
    obtain ⟨rfl, _⟩ := h2
    refine ⟨?_, rfl, rfl⟩
    rw [run_callFunc_extern hf hname hb hn he, hr]
    rfl
end Go.Proofs.YtmpddomgiplnmaaDoor.Abs
