/- A function that the interpreter carries out as its spec says does what its spec says. -/
import Derived.Test.YteldmddnmhmecaaCode
namespace Go.Proofs.Yteldmddnmhmecaa
open Go.RowKit

section
variable {P : Program} {A Wr : Nat → Prop} {μ : Nat → Value} {af : AF} {a : Act} {w w0 : World} {Γ : Tab} {E : Elems} {σ : FuncId → Option Spec} {Λ : Nat → Option LSpec}

theorem entersF_of {f : FuncId} {fn : Func} {c : Code} (hf : P.funcs[f]? = some fn) (hname : (fn.name == "runtime.NumGoroutine") = false) (hb : fn.body = some c) : EntersF P f := by
  intro args w
  have h1 : fn.name ≠ "runtime.NumGoroutine" := by simpa using hname
  simp [callFunc, hf, h1, hb]

theorem iniT_len : ∀ (t : Ty) {ok : Nat → Prop} {x : t.T} {vs : List Value}, AR P ok w t x vs → (iniT t x).length = vs.length
  | .unit, _, _, vs, h => by have h : vs = [] := h; subst h; rfl
  | .pair t r, _, x, vs, h => by
    obtain ⟨v, vs', rfl, _, h2⟩ := h
    simp [iniT, iniT_len r h2]
  | .int _, _, _, _, h => by have h : False := h; exact h.elim
  | .bool, _, _, _, h => by have h : False := h; exact h.elim
  | .str, _, _, _, h => by have h : False := h; exact h.elim
  | .list _, _, _, _, h => by have h : False := h; exact h.elim
  | .fn _ _, _, _, _, h => by have h : False := h; exact h.elim
  | .ptr _, _, _, _, h => by have h : False := h; exact h.elim
theorem iniT_VAs {ok : Nat → Prop} : ∀ (t : Ty) {x : t.T} {vs : List Value}, AR P ok w t x vs → VAs P μ ok w (iniT t x) vs
  | .unit, _, vs, h => by have h : vs = [] := h; subst h; rfl
  | .pair t r, x, vs, h => by
    obtain ⟨v, vs', rfl, h1, h2⟩ := h
    exact ⟨v, vs', rfl, h1, iniT_VAs r h2⟩
  | .int _, _, _, h => by have h : False := h; exact h.elim
  | .bool, _, _, h => by have h : False := h; exact h.elim
  | .str, _, _, h => by have h : False := h; exact h.elim
  | .list _, _, _, h => by have h : False := h; exact h.elim
  | .fn _ _, _, _, h => by have h : False := h; exact h.elim
  | .ptr _, _, _, h => by have h : False := h; exact h.elim

/-- The frame at the beginning. -/
theorem ini_St {ok : Nat → Prop} {t : Ty} {x : t.T} {vs : List Value} (h : AR P ok w t x vs) (n : Nat) :
    St P (fun b => ok b ∨ w.heap.size ≤ b) (fun b => w.heap.size ≤ b) w (iniF n t x) { tmps := vs.toArray ++ Array.replicate (n - vs.toArray.size) undef, defers := [] } w := by
  have hob : ∀ l, (iniF n t x).obj l = none := by
    intro l
    unfold iniF AF.obj
    simp only [List.getD, List.getElem?_replicate]
    split <;> simp
  refine ⟨Keeps.refl _ _, fun _ => undef, rfl, by simp [iniF, iniT_len t h], ?_, fun l o ho => (by rw [hob] at ho; cases ho), fun l o b ho _ => (by rw [hob] at ho; cases ho), fun l l' o o' b ho _ _ _ => (by rw [hob] at ho; cases ho), fun b hb => ⟨.inr hb, hb⟩⟩
  intro s v hv
  simp only [iniF] at hv
  by_cases hs : s < (iniT t x).length
  · rw [List.getElem?_append_left hs] at hv
    obtain ⟨u, hu, hva⟩ := VAs.get (iniT_VAs (μ := fun _ => undef) t h) hv
    have e : ((vs.toArray ++ Array.replicate (n - vs.toArray.size) undef).getD s undef) = u := by
      have hlt := (List.getElem?_eq_some_iff.1 hu).1
      have : (vs.toArray ++ Array.replicate (n - vs.toArray.size) undef)[s]? = some u := by
        rw [Array.getElem?_append_left (by simpa using hlt)]
        simpa using hu
      rw [Array.getD_eq_getD_getElem?, this]; rfl
    show VA P _ _ w v ((vs.toArray ++ Array.replicate (n - vs.toArray.size) undef).getD s undef)
    rw [e]
    exact hva.trans (fun _ _ => rfl) (Agree.refl _ _) (fun b _ hb => ⟨.inl hb, fun l o ho => (by rw [hob] at ho; cases ho)⟩)
  · rw [List.getElem?_append_right (by omega), List.getElem?_replicate] at hv
    split at hv
    · simp at hv; subst hv; trivial
    · cases hv

theorem run_results (hT : tabB P Γ E = true) (hS : Sim P A Wr μ af a w) {g : ResultVar → Sem Value} (g1 : ∀ t, g (.tmp t) = pure (a.tmps.getD t undef)) (g2 : ∀ x t, g (.cell x t) = (do loadVar t (← asAddr (a.tmps.getD x undef)))) : ∀ {rs : List ResultVar} {vs : List AV}, resVals Γ af rs = some vs →
    ∃ us, (rs.mapM (m := Sem) g).run P w = .ok us w ∧ VAs P μ (okS A μ af) w vs us
  | [], vs, h => by
    simp [resVals] at h; subst h
    exact ⟨[], rfl, rfl⟩
  | .tmp t :: rs, vs, h => by
    simp only [resVals] at h
    split at h
    · rename_i vs' hvs
      simp at h; subst h
      obtain ⟨us, hr, hv⟩ := run_results hT hS g1 g2 hvs
      refine ⟨a.tmps.getD t undef :: us, ?_, _, _, rfl, get_VA hS t, hv⟩
      rw [List.mapM_cons, g1]
      simp only [Sem.run_bind, Sem.run_pure, Result.andThen_ok, hr]
    · cases h
  | .cell x id :: rs, vs, h => by
    simp only [resVals] at h
    split at h
    · rename_i v vs' hv hvs
      simp at h; subst h
      obtain ⟨us, hr, hva⟩ := run_results hT hS g1 g2 hvs
      obtain ⟨z, hz, u, hrun, hzu⟩ := loadK_ok hT hS (get_VA hS x) hv
      simp at hz; subst hz
      refine ⟨u :: us, ?_, _, _, rfl, hzu, hva⟩
      rw [List.mapM_cons, g2]
      have : (do loadVar id (← asAddr (a.tmps.getD x undef)) : Sem Value).run P w = .ok u w := by
        generalize a.tmps.getD x undef = q at hrun ⊢
        cases q with
        | pointer p =>
          cases p with
          | none => simp [Instr.loadAt, Instr.sureAddr] at hrun
          | some p => simpa [Instr.loadAt, Instr.sureAddr, asAddr] using hrun
        | _ => simp [Instr.loadAt, Instr.sureAddr] at hrun
      simp only [Sem.run_bind] at this ⊢
      rw [this]
      simp only [Result.andThen_ok, hr, Sem.run_pure]
    · cases h

theorem AR_one : ∀ (r : Ty) {ok : Nat → Prop} {y : r.T} {us : List Value}, AR P ok w r y us → (isOne r = true ↔ us.length = 1)
  | .unit, _, _, us, h => by have h : us = [] := h; subst h; simp [isOne]
  | .pair t r, _, y, us, h => by
    obtain ⟨v, vs, rfl, _, h2⟩ := h
    cases r with
    | unit => have h2 : vs = [] := h2; subst h2; simp [isOne]
    | pair t' r' => obtain ⟨v', vs', rfl, _⟩ := h2; simp [isOne]
    | _ => exact (h2 : False).elim
  | .int _, _, _, _, h => (h : False).elim
  | .bool, _, _, _, h => (h : False).elim
  | .str, _, _, _, h => (h : False).elim
  | .list _, _, _, _, h => (h : False).elim
  | .fn _ _, _, _, _, h => (h : False).elim
  | .ptr _, _, _, _, h => (h : False).elim

/-- The loops' specs, in the order of the loops. -/
def lkp : List Code → List LSpec → Nat → Option LSpec
  | c :: cs, l :: ls, k => if codeKey c = k then some l else lkp cs ls k
  | _, _, _ => none
def AllLOK (Γ : Tab) (E : Elems) (σ : FuncId → Option Spec) (Λ : Nat → Option LSpec) (n : Nat) : List Code → List LSpec → Prop
  | c :: cs, l :: ls => LOK Γ E σ Λ n l c ∧ AllLOK Γ E σ Λ n cs ls
  | _, _ => True

theorem lkp_ok {n : Nat} : ∀ {cs : List Code} {ls : List LSpec}, AllLOK Γ E σ Λ n cs ls → nodupB (cs.map codeKey) = true → ∀ c ∈ cs, ∀ l, lkp cs ls (codeKey c) = some l → LOK Γ E σ Λ n l c
  | c :: cs, l :: ls, h, hn, c', hc, l', hl => by
    simp only [List.map_cons, nodupB, Bool.and_eq_true] at hn
    simp only [lkp] at hl
    rcases List.mem_cons.1 hc with rfl | hc
    · rw [if_pos rfl] at hl
      simp at hl; subst hl
      exact h.1
    · split at hl
      · rename_i e
        have : codeKey c' ∈ cs.map codeKey := List.mem_map_of_mem hc
        rw [← e] at this
        simp [this] at hn
      · exact lkp_ok h.2 hn.2 c' hc l' hl
  | [], _, _, _, _, hc, _, _ => by simp at hc
  | _ :: _, [], _, _, _, _, _, hl => by simp [lkp] at hl

/-- **A function.** -/
theorem fn_ok (hT : tabB P Γ E = true) (hσ : ∀ f s, σ f = some s → FnOK P f s) {f : FuncId} {fn : Func} {c : Code} {s : Spec} (hf : P.funcs[f]? = some fn) (hname : (fn.name == "runtime.NumGoroutine") = false) (hb : fn.body = some c)
    (ls : List LSpec) (hΛ : Λ = lkp (loopList c) ls) (hn : nodupB ((loopList c).map codeKey) = true) (hls : AllLOK Γ E σ Λ fn.ntmps (loopList c) ls)
    (hex : ∀ x y, s.fn x = some y → execFn Γ E σ Λ fn s x = some y) : FnOK P f s := by
  refine ⟨entersF_of hf hname hb, fun w ok args x y har hy => ?_⟩
  have h := hex x y hy
  unfold execFn at h
  rw [hb] at h
  simp only at h
  have hL : ∀ c' ∈ loopList c, ∀ l, Λ (codeKey c') = some l → LOK Γ E σ Λ fn.ntmps l c' := fun c' hc l hl => lkp_ok hls hn c' hc l (by rw [← hΛ]; exact hl)
  refine calls_of_wp hf hb (wp_mono (codeK_ok hT hσ c hL h (ini_St har fn.ntmps)) ?_)
  rintro e a w' ⟨e', af, hm, hk, hKW, μ, hS⟩
  have fin : (match resVals Γ af fn.results.toList with
      | none => none
      | some vs => match s.own with
        | none => if s.fresh && !s.r.flat then none else getArgs0 af.objs s.r vs
        | some e => match vs with
          | .own l :: rest => match af.obj l with
            | some (.arr e' _ _) => if e' = e ∧ rest.any AV.owns = false then getArgs0 af.objs s.r vs else none
            | _ => none
          | .nils :: rest => if rest.any AV.owns = false then getArgs0 af.objs s.r vs else none
          | _ => none) = some y → a.defers = [] ∧ ∃ v, (results fn a.tmps).run P w' = .ok v w' ∧ SpecPost P s y ok w (.returned v) w' := by
    intro h
    refine ⟨hS.defers, ?_⟩
    split at h
    · cases h
    · rename_i vs hvs
      obtain ⟨us, hrun, hva⟩ := run_results hT hS (g := fun | .tmp t => pure (a.tmps.getD t undef) | .cell x t => do loadVar t (← asAddr (a.tmps.getD x undef))) (fun _ => rfl) (fun _ _ => rfl) hvs
      have hkeep : Keeps noB w w' := hKW.mono (fun k hk hw => by omega)
      have hA : ∀ b, okAll (fun b => ok b ∨ w.heap.size ≤ b) μ af b → ok b ∨ w.heap.size ≤ b := by
        rintro b (hb | ⟨l, o, h1, h2⟩)
        · exact hb.1
        · exact (hS.wr l o b h1 h2).2.1
      have res : ∀ {ok2 : Nat → Prop}, AR P ok2 w' s.r y us → (results fn a.tmps).run P w' = .ok (if isOne s.r then us.headD undef else .tuple us.toArray) w' := by
        intro ok2 har
        have h1 := AR_one s.r har
        have hres : results fn a.tmps = (do
            let vs ← (fn.results.mapM (m := Sem) fun | .tmp t => pure (a.tmps.getD t undef) | .cell x t => do loadVar t (← asAddr (a.tmps.getD x undef)))
            pure (if h : vs.size = 1 then vs[0] else .tuple vs)) := by
          rfl
        rw [hres, Array.mapM_eq_mapM_toList]
        rw [Sem.run_bind, Sem.run_map, hrun]
        simp only [Result.andThen_ok, Sem.run_pure]
        by_cases h2 : us.length = 1
        · obtain ⟨u, rfl⟩ := List.length_eq_one_iff.1 h2
          rw [if_pos (h1.2 h2)]
          rfl
        · rw [if_neg (fun e => h2 (h1.1 e))]
          have : ¬ us.toArray.size = 1 := by simpa using h2
          rw [dif_neg this]
      split at h
      · rename_i hso
        split at h
        · cases h
        · rename_i hfr
          have har := getArgs0_AR (ok2 := okAll (fun b => ok b ∨ w.heap.size ≤ b) μ af) hS (fun _ h => .inl h) s.r h hva (fun _ l o b h1 h2 => .inr ⟨l, o, h1, h2⟩)
          refine ⟨_, res har, _, rfl, hkeep, us, rfl, ?_⟩
          rw [hso]
          show AR P _ w' s.r y us
          by_cases hf : s.r.flat = true
          · exact (REL.flat s.r y hf).2 _ har
          · have hfr' : s.fresh = false := by
              cases hh : s.fresh with
              | false => rfl
              | true => rw [hh] at hfr; simp at hfr; exact absurd hfr hf
            exact (REL.mono s.r y (Agree.refl _ _) (fun b _ hb => (hA b hb).imp (fun h => ⟨hfr', h⟩) (fun h => h))).2 _ har
      · rename_i e hso
        have own : ∀ {v : AV} {rest : List AV}, rest.any AV.owns = false → vs = v :: rest → getArgs0 af.objs s.r vs = some y →
            (∀ t' (l : List t'.T), v.get0 af.objs (.list t') = some l → ∀ u0, VA P μ (okS (fun b => ok b ∨ w.heap.size ≤ b) μ af) w' v u0 → OwnV P (fun b => ok b ∨ w.heap.size ≤ b) w.heap.size w' e (.list t') l u0) →
            (∀ t x, v.get0 af.objs t = some x → ∃ t', t = .list t') → (∀ u0, VA P μ (okS (fun b => ok b ∨ w.heap.size ≤ b) μ af) w' v u0 → ∀ b, okS (fun b => ok b ∨ w.heap.size ≤ b) μ af b → blk u0 ≠ some b) →
            ∃ v, (results fn a.tmps).run P w' = .ok v w' ∧ SpecPost P s y ok w (.returned v) w' := by
          intro v rest hno hvv h how hlist hblk
          have har := getArgs0_AR (ok2 := okAll (fun b => ok b ∨ w.heap.size ≤ b) μ af) hS (fun _ h => .inl h) s.r h hva (fun _ l o b h1 h2 => .inr ⟨l, o, h1, h2⟩)
          refine ⟨_, res har, _, rfl, hkeep, us, rfl, ?_⟩
          rw [hso]
          show OwnAR P _ w.heap.size w' e s.r y us
          subst hvv
          obtain ⟨sa, sr, sfn, sfr, sow⟩ := s
          simp only at h y ⊢
          cases sr with
          | pair t r0 =>
            simp only [getArgs0] at h
            split at h
            · rename_i x0 hx0
              split at h
              · rename_i y0 hy0
                obtain rfl := Option.some.inj h
                obtain ⟨t', rfl⟩ := hlist t x0 hx0
                obtain ⟨u0, us', rfl, hv0, hvr⟩ := hva
                refine ⟨u0, us', rfl, how t' x0 hx0 u0 hv0, ?_⟩
                exact getArgs0_AR hS (fun b hb => ⟨hb.1, hblk u0 hv0 b hb⟩) r0 hy0 hvr (fun h => by rw [hno] at h; cases h)
              · cases h
            · cases h
          | _ => simp [getArgs0] at h
        split at h
        · rename_i l rest
          split at h
          · rename_i e' t' xs hob
            split at h
            · rename_i hh
              obtain ⟨rfl, hno⟩ := hh
              have hget : ∀ t x, (AV.own l).get0 af.objs t = some x → sc af.objs t (.own l) = some x := by
                intro t x hx
                simp only [AV.get0] at hx
                split at hx
                · cases hx
                · split at hx
                  · rename_i y' hy'
                    simp at hx; subst hx
                    cases t with
                    | unit => simp_all [Ty.isAgg]
                    | pair _ _ => simp_all [Ty.isAgg]
                    | ptr t2 => simp only [imp] at hy'; exact (sc_imp hy').1
                    | _ => simp only [imp] at hy'; exact (sc_imp hy').1
                  · cases hx
              have hsc : ∀ t x, sc af.objs t (.own l) = some x → castT (.list t') t xs = some x := by
                intro t x hx
                have hob' : af.objs.getD l none = some (.arr e' t' xs) := hob
                simp only [sc, hob'] at hx
                exact hx
              refine own hno rfl h ?_ ?_ ?_
              · intro t2 l2 hg u0 hu0
                obtain ⟨e1, e2⟩ := castT_some (hsc _ _ (hget _ _ hg))
                simp at e1
                subst e1
                simp only at e2
                subst e2
                have hu0 : u0 = μ l := hu0
                subst hu0
                obtain ⟨cells, ⟨hc1, hc2⟩, hrows⟩ := hS.objs l _ hob
                refine ⟨cells, ⟨hc1, ?_⟩, hrows.mono (Agree.refl _ _) (fun b _ hb => ⟨hb.1, hb.2 l _ hob⟩)⟩
                rcases hc2 with hc2 | ⟨g, cap, cur, hv, _, h5⟩
                · exact .inl hc2
                · exact .inr ⟨g, cap, cur, hv, (hS.wr l _ g hob (by rw [hv]; rfl)).1, h5⟩
              · intro t x hx
                obtain ⟨e1, _⟩ := castT_some (hsc _ _ (hget _ _ hx))
                exact ⟨t', e1.symm⟩
              · intro u0 hu0 b hb
                have hu0 : u0 = μ l := hu0
                subst hu0
                exact hb.2 l _ hob
            · cases h
          · cases h
        · rename_i rest
          split at h
          · rename_i hno
            refine own hno rfl h ?_ ?_ ?_
            · intro t2 l2 hg u0 hu0
              have hu0 : u0 = .slice none 0 0 := hu0
              subst hu0
              have : l2 = [] := by
                simp only [AV.get0, Ty.isAgg, imp, scr, sc] at hg
                simp at hg; exact hg
              subst this
              exact ⟨[], World.ownsRow_nil _ _ _ _, rfl⟩
            · intro t x hx
              simp only [AV.get0] at hx
              cases t <;> simp [Ty.isAgg, imp, scr, sc] at hx
              exact ⟨_, rfl⟩
            · intro u0 hu0 b _
              have hu0 : u0 = .slice none 0 0 := hu0
              subst hu0
              simp [blk]
          · cases h
        · cases h
  cases e' with
  | normal =>
    cases e <;> simp only [exM] at hm
    exact fin hk
  | ret =>
    cases e <;> simp only [exM] at hm
    exact fin hk
  | exit i => simp at hk
end
end Go.Proofs.Yteldmddnmhmecaa
