/- Functions' specs as a list; the lookup. -/
import Derived.Test.YteldmddnmhmecaaFn
namespace Go.Proofs.Yteldmddnmhmecaa
open Go.RowKit

/-- The specs that a function may call, as a list. -/
def sig : List (FuncId × Spec) → FuncId → Option Spec
  | [], _ => none
  | (g, s) :: r, f => if f = g then some s else sig r f
def SigOK (P : Program) : List (FuncId × Spec) → Prop
  | [] => True
  | (g, s) :: r => FnOK P g s ∧ SigOK P r
theorem sig_ok {P : Program} : ∀ {l : List (FuncId × Spec)}, SigOK P l → ∀ f s, sig l f = some s → FnOK P f s
  | [], _, f, s, h => by simp [sig] at h
  | (g, t) :: r, hl, f, s, h => by
    simp only [sig] at h
    split at h
    · rename_i e; subst e; simp at h; subst h; exact hl.1
    · exact sig_ok hl.2 f s h

/-- A call by the model of a function that does what its spec says, with flat results. -/
theorem FnOK.calls {P : Program} {f : FuncId} {s : Spec} (h : FnOK P f s) {w : World} {ok : Nat → Prop} {args : List Value} {x : s.a.T} {y : s.r.T} (ha : AR P ok w s.a x args) (hy : s.fn x = some y) (hr : s.own = none) :
    Calls P f args.toArray w fun e w' => ∃ v rs, e = .returned v ∧ Below w.heap.size w w' ∧ v = (if isOne s.r then rs.headD undef else .tuple rs.toArray) ∧ AR P (fun b => (s.fresh = false ∧ ok b) ∨ w.heap.size ≤ b) w' s.r y rs := by
  refine (h.2 w ok args x y ha hy).mono ?_
  rintro e w' ⟨v, rfl, hk, rs, hv, hp⟩
  rw [hr] at hp
  exact ⟨v, rs, rfl, hk.below, hv, hp⟩
/-- A function that answers true. -/
theorem FnOK.says {P : Program} {f : FuncId} {a : Ty} {g : a.T → Option (Ty.pair .bool .unit).T} (h : FnOK P f ⟨a, .pair .bool .unit, g, false, none⟩) {w : World} {ok : Nat → Prop} {args : List Value} {x : a.T} (ha : AR P ok w a x args) (hy : g x = some (true, ())) :
    Calls P f args.toArray w fun e w' => e = .returned (.bool true) ∧ Below w.heap.size w w' := by
  refine (h.calls ha hy rfl).mono ?_
  rintro e w' ⟨v, rs, rfl, hb, rfl, hr⟩
  refine ⟨?_, hb⟩
  obtain ⟨v, vs, rfl, h1, h2⟩ := hr
  have h2 : vs = [] := h2
  subst h2
  have h1 : VRof .bool _ v := h1
  simp only [VRof, Ty.isAgg] at h1
  have h1 : [v] = [Value.bool true] := h1
  simp at h1
  subst h1
  rfl
end Go.Proofs.Yteldmddnmhmecaa
